/- A verified abstract interpreter, part 19: regions that draw their order. -/
import Derived.Test.YtledghdlcdgepaaGreatDoorE18
noncomputable section
namespace Go.Proofs.YtledghdlcdgepaaGreatDoor
set_option linter.unusedVariables false
set_option linter.unusedSimpArgs false
open Go.RowKit

/-! ### Equal values -/
def veqs (f : Value → Value → Bool) : List Value → List Value → Bool
  | [], [] => true
  | x :: xs, y :: ys => match f x y with
    | true => veqs f xs ys
    | false => false
  | _, _ => false
def veq : Nat → Value → Value → Bool
  | 0, _, _ => false
  | F + 1, u, v => match u, v with
    | .bool a, .bool b => a == b
    | .int k a, .int j b => match decide (k = j) with
      | true => a == b
      | false => false
    | .string a, .string b => sbeq a b
    | .pointer none, .pointer none => true
    | .pointer (some ⟨i, o, none⟩), .pointer (some ⟨j, p, none⟩) => match Nat.beq i j with
      | true => Nat.beq o p
      | false => false
    | .slice none 0 0, .slice none 0 0 => true
    | .slice (some ⟨i, o, none⟩) n c, .slice (some ⟨j, p, none⟩) m d => match Nat.beq i j, Nat.beq o p, Nat.beq n m with
      | true, true, true => Nat.beq c d
      | _, _, _ => false
    | .map none, .map none => true
    | .map (some i), .map (some j) => Nat.beq i j
    | .nilFunc, .nilFunc => true
    | .nilIface, .nilIface => true
    | .func (.func f) ⟨[]⟩ ⟨cs⟩, .func (.func g) ⟨[]⟩ ⟨ds⟩ => match Nat.beq f g with
      | true => veqs (veq F) cs ds
      | false => false
    | .agg ⟨cs⟩, .agg ⟨ds⟩ => veqs (veq F) cs ds
    | .tuple ⟨cs⟩, .tuple ⟨ds⟩ => veqs (veq F) cs ds
    | _, _ => false
theorem veqs_eq {f : Value → Value → Bool} (hf : ∀ x y, f x y = true → x = y) : ∀ (l k : List Value), veqs f l k = true → l = k
  | [], [], _ => rfl
  | [], _ :: _, h => by simp [veqs] at h
  | _ :: _, [], h => by simp [veqs] at h
  | x :: xs, y :: ys, h => by
    unfold veqs at h
    split at h
    · rename_i hxy
      rw [hf x y hxy, veqs_eq hf xs ys h]
    · cases h
theorem veq_eq : ∀ (F : Nat) (u v : Value), veq F u v = true → u = v
  | 0, u, v, h => by simp [veq] at h
  | F + 1, u, v, h => by
    have ih := veq_eq F
    unfold veq at h
    split at h
    · simp at h; rw [h]
    · split at h
      · rename_i hk
        rw [of_decide_eq_true hk, eq_of_beq h]
      · cases h
    · rw [(sbeq_iff _ _).1 h]
    · rfl
    · split at h
      · rename_i hk
        rw [nat_beq_true.1 hk, nat_beq_true.1 h]
      · cases h
    · rfl
    · split at h
      · rename_i h1 h2 h3
        rw [nat_beq_true.1 h1, nat_beq_true.1 h2, nat_beq_true.1 h3, nat_beq_true.1 h]
      · cases h
    · rfl
    · rw [nat_beq_true.1 h]
    · rfl
    · rfl
    · split at h
      · rename_i h1
        rw [nat_beq_true.1 h1, veqs_eq ih _ _ h]
      · cases h
    · rw [veqs_eq ih _ _ h]
    · rw [veqs_eq ih _ _ h]
    · cases h

/-! ### Windows -/
def loW (an : Nat → Nat → Bool) (i : Nat) : List Nat → Nat → Nat → Nat
  | [], _, b => b
  | f :: es, p, b => loW an i es (p + 1) (match an f i with
    | true => p + 1
    | false => b)
def hiW (an : Nat → Nat → Bool) (i : Nat) : List Nat → Nat → Nat
  | [], p => p
  | f :: es, p => match an i f with
    | true => p
    | false => hiW an i es (p + 1)
theorem loW_spec {an : Nat → Nat → Bool} {i : Nat} : ∀ (es : List Nat) (p b : Nat), loW an i es p b = b ∨ ∃ q f, es[q]? = some f ∧ an f i = true ∧ loW an i es p b = p + q + 1
  | [], p, b => .inl rfl
  | f :: es, p, b => by
    unfold loW
    rcases loW_spec es (p + 1) (match an f i with | true => p + 1 | false => b) with h | ⟨q, g, h1, h2, h3⟩
    · rw [h]
      cases hf : an f i with
      | true => exact .inr ⟨0, f, rfl, hf, rfl⟩
      | false => exact .inl rfl
    · exact .inr ⟨q + 1, g, by simpa using h1, h2, by rw [h3]; omega⟩
theorem hiW_spec {an : Nat → Nat → Bool} {i : Nat} : ∀ (es : List Nat) (p : Nat), hiW an i es p = p + es.length ∨ ∃ q f, es[q]? = some f ∧ an i f = true ∧ hiW an i es p = p + q
  | [], p => .inl rfl
  | f :: es, p => by
    unfold hiW
    split
    · rename_i hf
      exact .inr ⟨0, f, rfl, hf, rfl⟩
    · rcases hiW_spec es (p + 1) with h | ⟨q, g, h1, h2, h3⟩
      · exact .inl (by rw [h]; simp; omega)
      · exact .inr ⟨q + 1, g, by simpa using h1, h2, by rw [h3]; omega⟩

theorem nodup_idx {α : Type} : ∀ (l : List α), l.Nodup → ∀ (p q : Nat) (x : α), l[p]? = some x → l[q]? = some x → p = q
  | [], _, p, q, x, h, _ => by simp at h
  | y :: l, hn, p, q, x, hp, hq => by
    obtain ⟨h1, h2⟩ := List.nodup_cons.1 hn
    cases p with
    | zero =>
      cases q with
      | zero => rfl
      | succ q =>
        simp at hp hq
        subst hp
        exact absurd (List.mem_of_getElem? hq) h1
    | succ p =>
      cases q with
      | zero =>
        simp at hp hq
        subst hq
        exact absurd (List.mem_of_getElem? hp) h1
      | succ q =>
        simp at hp hq
        rw [nodup_idx l h2 p q x hp hq]

theorem win {ops : Array Oper} {l l1 l2 : List Nat} {i : Nat} (hl : Lin ops l) (h : l = l1 ++ i :: l2) (F : Nat) :
    loW (anc ops F) i (l.filter (eff ops)) 0 0 ≤ (l1.filter (eff ops)).length ∧ (l1.filter (eff ops)).length ≤ hiW (anc ops F) i (l.filter (eff ops)) 0 := by
  have hes : l.filter (eff ops) = l1.filter (eff ops) ++ (i :: l2).filter (eff ops) := by rw [h, List.filter_append]
  have hnd : (l.filter (eff ops)).Nodup := hl.nodup.filter _
  have hnl := hl.nodup
  rw [h] at hnl
  have hil1 : i ∉ l1 := fun hm => absurd rfl ((List.nodup_append.1 hnl).2.2 i hm i (by simp))
  constructor
  · rcases loW_spec (an := anc ops F) (i := i) (l.filter (eff ops)) 0 0 with h1 | ⟨q, f, h1, h2, h3⟩
    · rw [h1]; exact Nat.zero_le _
    · rw [h3]
      have hf := anc_ok hl F f i l1 l2 h h2
      have hef : eff ops f = true := (List.mem_filter.1 (List.mem_of_getElem? h1)).2
      obtain ⟨q', hq', e⟩ := List.mem_iff_getElem.1 (List.mem_filter.2 ⟨hf, hef⟩ : f ∈ l1.filter (eff ops))
      have h4 : (l.filter (eff ops))[q']? = some f := by
        rw [hes, List.getElem?_append_left hq', List.getElem?_eq_getElem hq', e]
      have := nodup_idx _ hnd _ _ _ h1 h4
      omega
  · rcases hiW_spec (an := anc ops F) (i := i) (l.filter (eff ops)) 0 with h1 | ⟨q, f, h1, h2, h3⟩
    · rw [h1, hes]; simp
    · rw [h3]
      rcases Nat.lt_or_ge q (l1.filter (eff ops)).length with hlt | hge
      · exfalso
        rw [hes, List.getElem?_append_left hlt] at h1
        have hf := (List.mem_filter.1 (List.mem_of_getElem? h1)).1
        obtain ⟨m1, m2, hm⟩ := List.append_of_mem hf
        have := anc_ok hl F i f m1 (m2 ++ i :: l2) (by rw [h, hm]; simp) h2
        exact hil1 (by rw [hm]; exact List.mem_append_left _ this)
      · omega

/-! ### Checks -/
section
variable {ops : Array Oper} {nt : Nat} {tb : Nat → Option TI} {callf : FuncId → List Value → AH → Option (Value × AH)} {s0 : Tr Value}

def chkHs (tb : Nat → Option TI) (callf : FuncId → List Value → AH → Option (Value × AH)) (nt : Nat) (ops : Array Oper) (s : Tr Value) (o : Oper) (v : Value) (lo hi : Nat) : Nat → List AH → Bool
  | _, [] => true
  | p, h :: hs => match Nat.ble lo p, Nat.ble p hi with
    | true, true => match gStep tb callf nt ops s h o with
      | some (u, _) => match veq 60 u v with
        | true => chkHs tb callf nt ops s o v lo hi (p + 1) hs
        | false => false
      | none => false
    | _, _ => chkHs tb callf nt ops s o v lo hi (p + 1) hs
theorem chkHs_ok {s : Tr Value} {o : Oper} {v : Value} {lo hi : Nat} : ∀ (hs : List AH) (p : Nat), chkHs tb callf nt ops s o v lo hi p hs = true → ∀ q h, hs[q]? = some h → lo ≤ p + q → p + q ≤ hi → ∃ h', gStep tb callf nt ops s h o = some (v, h')
  | [], p, hc, q, h, hq, _, _ => by simp at hq
  | x :: hs, p, hc, q, h, hq, h1, h2 => by
    unfold chkHs at hc
    have rest : chkHs tb callf nt ops s o v lo hi (p + 1) hs = true → q ≠ 0 → ∃ h', gStep tb callf nt ops s h o = some (v, h') := fun hc hne => by
      cases q with
      | zero => exact absurd rfl hne
      | succ q => exact chkHs_ok hs (p + 1) hc q h (by simpa using hq) (by omega) (by omega)
    split at hc
    · rename_i c1 c2
      split at hc
      · rename_i u h' hg
        split at hc
        · rename_i hv
          by_cases hq0 : q = 0
          · subst hq0
            simp at hq
            subst hq
            rw [veq_eq _ _ _ hv] at hg
            exact ⟨h', hg⟩
          · exact rest hc hq0
        · cases hc
      · cases hc
    · rename_i hno
      by_cases hq0 : q = 0
      · subst hq0
        exact absurd (Nat.ble_eq_true_of_le h2) (hno (Nat.ble_eq_true_of_le h1))
      · exact rest hc hq0

def chkRec (tb : Nat → Option TI) (callf : FuncId → List Value → AH → Option (Value × AH)) (nt : Nat) (ops : Array Oper) (F : Nat) (es : List Nat) (hs : List AH) (r : Rec) : Bool := match ops.toList[r.i]? with
  | some o => match isLd o with
    | true => match Nat.beq (loW (anc ops F) r.i es 0 0) (hiW (anc ops F) r.i es 0) with
      | true => true
      | false => chkHs tb callf nt ops r.s o r.v (loW (anc ops F) r.i es 0 0) (hiW (anc ops F) r.i es 0) 0 hs
    | false => true
  | none => true

theorem recs_map : ∀ (L : List Nat) (s : Tr Value) (h : AH) (rs : List Rec) (s2 : Tr Value) (h2 : AH), recs tb callf nt ops L s h = some (rs, s2, h2) → rs.map (·.i) = L
  | [], s, h, rs, s2, h2, hr => by
    simp only [recs] at hr
    injection hr with hr
    injection hr with h1 _
    subst h1
    rfl
  | i :: L, s, h, rs, s2, h2, hr => by
    simp only [recs] at hr
    split at hr
    · split at hr
      · split at hr
        · rename_i rs1 s3 h3 hr1
          injection hr with hr
          injection hr with e1 e2
          subst e1
          simp [recs_map L _ _ _ _ _ hr1]
        · cases hr
      · cases hr
    · cases hr

theorem find_rec : ∀ (rs : List Rec), (rs.map (·.i)).Nodup → ∀ r ∈ rs, rs.find? (fun x => Nat.beq x.i r.i) = some r
  | [], _, r, hr => by simp at hr
  | x :: rs, hn, r, hr => by
    rw [List.map_cons] at hn
    obtain ⟨h1, h2⟩ := List.nodup_cons.1 hn
    rw [List.find?_cons]
    rcases List.mem_cons.1 hr with rfl | hr
    · rw [Nat.beq_refl]
    · have : Nat.beq x.i r.i = false := nat_beq_false.2 fun e => h1 (e ▸ List.mem_map.2 ⟨r, hr, rfl⟩)
      rw [this]
      exact find_rec rs h2 r hr

/-- In whatever order the operations come, if their effects come in the order of L: the same heap, the same slots. -/
theorem reorder (hd : Dst1 ops) (hre : Reads1 ops) (hnt : nt < 1000000) {L l : List Nat} (hL : Lin ops L) (hl : Lin ops l) (hE : l.filter (eff ops) = L.filter (eff ops)) {h0 hE2 : AH} {rs : List Rec} {sL : Tr Value}
    (hr : recs tb callf nt ops L s0 h0 = some (rs, sL, hE2)) {F : Nat} (hc : ∀ r ∈ rs, chkRec tb callf nt ops F (L.filter (eff ops)) (heapsOf ops h0 rs) r = true) :
    ∃ s', runL tb callf nt ops l s0 h0 = some (s', hE2) ∧ ∀ x, s'.get x = sL.get x := by
  obtain ⟨vf, hvf⟩ : ∃ vf : Nat → Value, vf = fun i => ((rs.find? (fun x => Nat.beq x.i i)).map (·.v)).getD undef := ⟨_, rfl⟩
  have hmap := recs_map L _ _ _ _ _ hr
  have hv : ∀ r ∈ rs, vf r.i = r.v := fun r hr => by rw [hvf]; simp [find_rec rs (by rw [hmap]; exact hL.nodup) r hr]
  have hS0 : Slots ops vf s0 [] s0 := ⟨fun j hj => by simp at hj, fun x _ => rfl⟩
  obtain ⟨q1, q2, q3⟩ := recs_spec hd hnt L [] s0 h0 rs sL hE2 hr hS0 hv (by simpa using hL.nodup)
  have key : ∀ (l2 l1 : List Nat) (s : Tr Value) (h : AH), l = l1 ++ l2 → Slots ops vf s0 l1 s → (heapsOf ops h0 rs)[(l1.filter (eff ops)).length]? = some h → ∃ s', runL tb callf nt ops l2 s h = some (s', hE2) ∧ Slots ops vf s0 l s' := by
    intro l2
    induction l2 with
    | nil =>
      intro l1 s h hll hs hh
      simp at hll
      subst hll
      rw [hE, q3] at hh
      injection hh with hh
      subst hh
      exact ⟨s, rfl, hs⟩
    | cons i l2 ih =>
      intro l1 s h hll hs hh
      have him : i < ops.size := (hl.all i).1 (by rw [hll]; simp)
      obtain ⟨Lp, Ls, hLi⟩ := List.append_of_mem ((hL.all i).2 him)
      obtain ⟨r, hrm, o, w1, w2, w3, w4, w5, w6⟩ := q1 Lp i Ls hLi
      rw [List.nil_append] at w4
      have hnl := hl.nodup
      rw [hll] at hnl
      have hnL := hL.nodup
      rw [hLi] at hnL
      have hi1 : i ∉ l1 := fun hm => absurd rfl ((List.nodup_append.1 hnl).2.2 i hm i (by simp))
      have hi2 : i ∉ Lp := fun hm => absurd rfl ((List.nodup_append.1 hnL).2.2 i hm i (by simp))
      -- the operation looks at the same slots
      have hag : ∀ t ∈ o.looksAt ops, s.get t = r.s.get t := fun t ht => by
        refine hs.agree w4 (fun j oj hoj hjt => ?_) hd
        by_cases hji : i = j
        · subst hji; exact ⟨fun h => absurd h hi1, fun h => absurd h hi2⟩
        · rcases hre i j o oj t hji w2 hoj hjt ht with h1 | h1
          · exact ⟨fun _ => hL.resp Lp i Ls hLi o w2 j h1, fun _ => hl.resp l1 i l2 hll o w2 j h1⟩
          · constructor
            · intro hm
              obtain ⟨m1, m2, hm⟩ := List.append_of_mem hm
              have := hl.resp m1 j (m2 ++ i :: l2) (by rw [hll, hm]; simp) oj hoj i h1
              exact absurd (by rw [hm]; exact List.mem_append_left _ this) hi1
            · intro hm
              obtain ⟨m1, m2, hm⟩ := List.append_of_mem hm
              have := hL.resp m1 j (m2 ++ i :: Ls) (by rw [hLi, hm]; simp) oj hoj i h1
              exact absurd (by rw [hm]; exact List.mem_append_left _ this) hi2
      have hstep : ∃ h2, gStep tb callf nt ops s h o = some (r.v, h2) ∧ (heapsOf ops h0 rs)[((l1 ++ [i]).filter (eff ops)).length]? = some h2 := by
        rw [gStep_congr hag]
        have hcount : eff ops i = true → (l1.filter (eff ops)).length = (Lp.filter (eff ops)).length := fun he => by
          have h1 : (l.filter (eff ops))[(l1.filter (eff ops)).length]? = some i := by
            rw [hll, List.filter_append, List.filter_cons, he]
            simp
          have h2 : (L.filter (eff ops))[(Lp.filter (eff ops)).length]? = some i := by
            rw [hLi, List.filter_append, List.filter_cons, he]
            simp
          rw [hE] at h1
          exact nodup_idx _ (hL.nodup.filter _) _ _ _ h1 h2
        by_cases he : eff ops i = true
        · have hk := hcount he
          rw [hk, w5] at hh
          injection hh with hh
          subst hh
          refine ⟨r.h', w3, ?_⟩
          have e1 : ((l1 ++ [i]).filter (eff ops)).length = ((Lp ++ [i]).filter (eff ops)).length := by
            rw [List.filter_append, List.filter_append, List.length_append, List.length_append, hk]
          rw [e1]
          exact w6
        · have hf : isFl o = true := by
            unfold eff at he
            have w2' : ops.toList[i]? = some o := by simpa using w2
            rw [w2'] at he
            simpa using he
          have e1 : ((l1 ++ [i]).filter (eff ops)).length = (l1.filter (eff ops)).length := by
            rw [List.filter_append]
            simp [he]
          rw [e1]
          obtain ⟨g1, g2⟩ := gfl_step hf w3
          cases hld : isLd o with
          | false => exact ⟨h, g2 hld h, hh⟩
          | true =>
            have hck := hc r hrm
            unfold chkRec at hck
            have w2' : ops.toList[r.i]? = some o := by rw [w1]; simpa using w2
            rw [w2'] at hck
            simp only [hld] at hck
            rw [w1] at hck
            have hwl := win hl hll F
            have hwL := win hL hLi F
            rw [hE] at hwl
            split at hck
            · rename_i heq
              have heq := Nat.eq_of_beq_eq_true heq
              have hkk : (l1.filter (eff ops)).length = (Lp.filter (eff ops)).length := by omega
              rw [hkk, w5] at hh
              injection hh with hh
              subst hh
              rw [g1] at w3
              exact ⟨r.h, w3, by rw [hkk]; exact w5⟩
            · obtain ⟨h', hg⟩ := chkHs_ok _ 0 hck _ h hh (by omega) (by omega)
              rw [(gfl_step hf hg).1] at hg
              exact ⟨h, hg, hh⟩
      obtain ⟨h2, hg, hh2⟩ := hstep
      have hvi : vf i = r.v := by rw [← w1]; exact hv r hrm
      have hs2 := hs.step hd hnt w2 hi1 (gStep_dok hg)
      rw [hvi] at hs2
      obtain ⟨s', z1, z2⟩ := ih (l1 ++ [i]) (sput s o.dst r.v) h2 (by rw [hll]; simp) hs2 hh2
      refine ⟨s', ?_, z2⟩
      have w2' : ops.toList[i]? = some o := by simpa using w2
      simp only [runL, w2', hg]
      exact z1
  obtain ⟨s', z1, z2⟩ := key l [] s0 h0 (by simp) hS0 (by simp [heapsOf])
  refine ⟨s', z1, fun x => z2.agree (by simpa using q2) (fun j o ho _ => ?_) hd⟩
  have hj : j < ops.size := (Array.getElem?_eq_some_iff.1 ho).1
  exact ⟨fun _ => (hL.all j).2 hj, fun _ => (hl.all j).2 hj⟩
end
end Go.Proofs.YtledghdlcdgepaaGreatDoor
