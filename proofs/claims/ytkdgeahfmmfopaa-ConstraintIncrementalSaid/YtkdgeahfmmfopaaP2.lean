/- The plain law of the constraint solver: the solver and the reference give the same answer. No program in sight. -/
import Derived.Test.YtkdgeahfmmfopaaP1
namespace Go.Proofs.Ytkdgeahfmmfopaa
set_option linter.unusedVariables false
set_option linter.unusedSimpArgs false

theorem sw_foldl (vs : List Int) (L : List Bd) : ∀ k, k ≤ L.length → sw vs L k = (L.take k).foldl stepSw (vs, false) := by
  intro k
  induction k with
  | zero => intro _; rfl
  | succ k ih =>
    intro hk
    have hLk : L[k]? = some L[k] := List.getElem?_eq_getElem (by omega)
    rw [List.take_succ_eq_append_getElem (by omega), List.foldl_append]
    simp only [sw, hLk, ih (by omega), List.foldl_cons, List.foldl_nil]
theorem sw_all (vs : List Int) (L : List Bd) : sw vs L L.length = L.foldl stepSw (vs, false) := by
  rw [sw_foldl vs L _ (Nat.le_refl _), List.take_length]

/-- The bounds of the accepted ones among the first k constraints. -/
def accB (l : List Con) (acc : List Bool) : Nat → List Bd
  | 0 => []
  | k + 1 => accB l acc k ++ (match l[k]? with | none => [] | some c => if acc[k]?.getD false = true then boundsOf c else [])

theorem mem_accB {l : List Con} {acc : List Bool} {b : Bd} {k : Nat} : b ∈ accB l acc k ↔ ∃ i c, i < k ∧ l[i]? = some c ∧ acc[i]?.getD false = true ∧ b ∈ boundsOf c := by
  induction k with
  | zero => simp [accB]
  | succ k ih =>
    simp only [accB, List.mem_append, ih]
    constructor
    · rintro (⟨i, c, h1, h2, h3, h4⟩ | h)
      · exact ⟨i, c, by omega, h2, h3, h4⟩
      · cases hc : l[k]? with
        | none => rw [hc] at h; simp at h
        | some c =>
          rw [hc] at h
          simp only at h
          split at h
          · rename_i ha; exact ⟨k, c, by omega, hc, ha, h⟩
          · simp at h
    · rintro ⟨i, c, h1, h2, h3, h4⟩
      by_cases hik : i = k
      · subst hik
        right
        rw [h2]
        simp only
        rw [if_pos h3]
        exact h4
      · exact .inl ⟨i, c, by omega, h2, h3, h4⟩

/-! ### the reference's sweep is the solver's sweep over the accepted bounds -/

def Bad (n : Nat) (p : List Int) : Prop := 0 < g p 0 ∨ ∃ i, i < n ∧ 1048576 < g p i
theorem Bad.mono {n : Nat} {p q : List Int} (h : Bad n p) (hn : 0 < n) (hle : Le n p q) : Bad n q := by
  rcases h with h | ⟨i, hi, h⟩
  · exact .inl (Int.lt_of_lt_of_le h (hle 0 hn))
  · exact .inr ⟨i, hi, Int.lt_of_lt_of_le h (hle i hi)⟩
theorem Bad.badB {n : Nat} {p : List Int} (h : Bad n p) (hl : p.length = n) : badB p = true := by
  cases hb : Go.Proofs.Ytkdgeahfmmfopaa.badB p with
  | true => rfl
  | false =>
    obtain ⟨h1, h2⟩ := badB_true hl hb
    rcases h with h | ⟨i, hi, h⟩
    · omega
    · have := h2 i hi; omega

/-- The reference's state beside the solver's. -/
def Rel (n : Nat) (r : Option (List Int × Bool)) (s : List Int × Bool) : Prop :=
  s.1.length = n + 1 ∧ match r with
  | some x => s = (0 :: x.1, x.2) ∧ ∀ i, i < n → g x.1 i ≤ 1048576
  | none => Bad (n + 1) s.1

def rPart (y : List Int) (any : Bool) (i m : Int) : Option (List Int × Bool) :=
  if (RR y i m).2.2 = false then none else some ((RR y i m).1, any || (RR y i m).2.1)

theorem g_cons_zero (x : Int) (y : List Int) : g (x :: y) 0 = x := rfl
theorem g_cons_succ (x : Int) (y : List Int) (i : Nat) : g (x :: y) (i + 1) = g y i := rfl
theorem g_ext (y : List Int) (i : Int) (hi : -1 ≤ i) : g (0 :: y) (i + 1).toNat = val y i := by
  unfold val
  split
  · rename_i h
    have : i = -1 := by omega
    subst this
    rfl
  · rename_i h
    have : (i + 1).toNat = i.toNat + 1 := by omega
    rw [this, g_cons_succ]
    rfl

theorem part_step {n : Nat} {y : List Int} {any : Bool} {i j c : Int} (hl : y.length = n) (hM : ∀ k, k < n → g y k ≤ 1048576) (hi1 : -1 ≤ i) (hi2 : i < n) (hj1 : -1 ≤ j) (hj2 : j < n) :
    Rel n (rPart y any i (val y j + c)) (stepSw (0 :: y, any) ⟨j + 1, i + 1, c⟩) := by
  have e1 := g_ext y i hi1
  have e2 := g_ext y j hj1
  unfold stepSw
  dsimp only
  change Rel n _ (if g (0 :: y) (i + 1).toNat < g (0 :: y) (j + 1).toNat + c then ((0 :: y).set (i + 1).toNat (g (0 :: y) (j + 1).toNat + c), true) else (0 :: y, any))
  rw [e1, e2]
  generalize val y j + c = m
  unfold rPart
  by_cases hneg : i < 0
  · have hi : i = -1 := by omega
    subst hi
    have hv : val y (-1) = 0 := by simp [val]
    have hRR : RR y (-1) m = (y, false, decide (m ≤ 0)) := by simp [RR]
    rw [hv, hRR]
    by_cases hm : m ≤ 0
    · have hd : decide (m ≤ 0) = true := by simpa using hm
      rw [hd, if_neg (show ¬ (0 < m) by omega)]
      exact ⟨by simp [hl], by simp, hM⟩
    · have hd : decide (m ≤ 0) = false := by simpa using hm
      rw [hd, if_pos (show 0 < m by omega)]
      refine ⟨by simp [hl], .inl ?_⟩
      change 0 < g ((0 :: y).set 0 m) 0
      rw [g_set _ _ _ _ (by simp), if_pos rfl]
      omega
  · have hv : val y i = y[i.toNat]?.getD 0 := by simp [val, hneg]
    rw [hv]
    by_cases hm : m ≤ y[i.toNat]?.getD 0
    · have hRR : RR y i m = (y, false, true) := by simp [RR, hneg, hm]
      rw [hRR, if_neg (show ¬ (y[i.toNat]?.getD 0 < m) by omega)]
      exact ⟨by simp [hl], by simp, hM⟩
    · have hRR : RR y i m = (y.set i.toNat m, true, decide (m ≤ 1048576)) := by simp [RR, hneg, hm]
      have hs : (0 :: y).set (i + 1).toNat m = 0 :: y.set i.toNat m := by
        have : (i + 1).toNat = i.toNat + 1 := by omega
        rw [this]; rfl
      rw [hRR, if_pos (show y[i.toNat]?.getD 0 < m by omega), hs]
      by_cases hmM : m ≤ 1048576
      · have hd : decide (m ≤ 1048576) = true := by simpa using hmM
        rw [hd]
        refine ⟨by simp [hl], by simp, fun k hk => ?_⟩
        change g (y.set i.toNat m) k ≤ _
        rw [g_set _ _ _ _ (by omega)]
        split
        · exact hmM
        · exact hM k hk
      · have hd : decide (m ≤ 1048576) = false := by simpa using hmM
        rw [hd]
        refine ⟨by simp [hl], .inr ⟨i.toNat + 1, by omega, ?_⟩⟩
        change 1048576 < g (0 :: y.set i.toNat m) (i.toNat + 1)
        rw [g_cons_succ, g_set _ _ _ _ (by omega), if_pos rfl]
        omega

theorem fold_le {n : Nat} {L : List Bd} (hL : BdIn n L) : ∀ (p : List Int) (ch : Bool), p.length = n → (L.foldl stepSw (p, ch)).1.length = n ∧ Le n p (L.foldl stepSw (p, ch)).1 := by
  induction L with
  | nil => intro p ch hl; exact ⟨hl, fun i _ => Int.le_refl _⟩
  | cons b r ih =>
    intro p ch hl
    obtain ⟨h1, h2⟩ := hL b (by simp)
    obtain ⟨s1, s2, _⟩ := stepSw_spec (ch := ch) hl h1 h2
    rw [List.foldl_cons]
    obtain ⟨t1, t2⟩ := ih (fun b hb => hL b (by simp [hb])) (stepSw (p, ch) b).1 (stepSw (p, ch) b).2 s1
    exact ⟨t1, s2.trans t2⟩

theorem rel_bad {n : Nat} {L : List Bd} (hL : BdIn (n + 1) L) {s : List Int × Bool} (h : Rel n none s) : Rel n none (L.foldl stepSw s) := by
  obtain ⟨h1, h2⟩ := h
  obtain ⟨t1, t2⟩ := fold_le hL s.1 s.2 h1
  exact ⟨t1, Bad.mono h2 (by omega) t2⟩

def firstB (c : Con) : List Bd := if c.R = 1 then [] else [⟨c.B + 1, c.A + 1, c.C⟩]
def secondB (c : Con) : List Bd := if c.R = 0 then [] else [⟨c.A + 1, c.B + 1, -c.C⟩]
theorem boundsOf_parts (c : Con) : boundsOf c = firstB c ++ secondB c := by
  unfold boundsOf firstB secondB
  by_cases h0 : c.R = 0
  · simp [h0]
  · by_cases h1 : c.R = 1
    · simp [h1]
    · simp [h0, h1]

theorem boundsOf_in {n : Nat} {c : Con} (h : ConOk n c) : BdIn (n + 1) (boundsOf c) := by
  obtain ⟨h1, h2, h3, h4, _⟩ := h
  intro b hb
  rw [boundsOf_parts] at hb
  unfold firstB secondB at hb
  rcases List.mem_append.1 hb with hb | hb
  · split at hb
    · simp at hb
    · simp at hb; subst hb; exact ⟨by simp; omega, by simp; omega⟩
  · split at hb
    · simp at hb
    · simp at hb; subst hb; exact ⟨by simp; omega, by simp; omega⟩

theorem accB_in {n : Nat} {l : List Con} {acc : List Bool} {k : Nat} (h : ∀ c ∈ l, ConOk n c) : BdIn (n + 1) (accB l acc k) := by
  intro b hb
  obtain ⟨i, c, _, h2, _, h4⟩ := mem_accB.1 hb
  exact boundsOf_in (h c (List.mem_of_getElem? h2)) b h4

theorem one_step {n : Nat} {x : List Int × Bool} {s : List Int × Bool} {c : Con} (hc : ConOk n c) (h : Rel n (some x) s) : Rel n (oneC x.1 x.2 c true) ((boundsOf c).foldl stepSw s) := by
  obtain ⟨h1, h2, h3⟩ := h
  obtain ⟨c1, c2, c3, c4, _⟩ := hc
  subst h2
  have hxl : x.1.length = n := by simpa using h1
  rw [boundsOf_parts, List.foldl_append]
  have hfirst : Rel n (firstC x.1 x.2 c) ((firstB c).foldl stepSw (0 :: x.1, x.2)) := by
    unfold firstC firstB
    by_cases hR : c.R = 1
    · rw [if_pos hR, if_pos hR]
      exact ⟨h1, rfl, h3⟩
    · rw [if_neg hR, if_neg hR]
      exact part_step hxl h3 c1 c2 c3 c4
  unfold oneC
  rw [if_neg (by simp)]
  cases hf : firstC x.1 x.2 c with
  | none =>
    rw [hf] at hfirst
    exact rel_bad (fun b hb => boundsOf_in ⟨c1, c2, c3, c4, by assumption⟩ b (by rw [boundsOf_parts]; simp [hb])) hfirst
  | some y =>
    rw [hf] at hfirst
    obtain ⟨f1, f2, f3⟩ := hfirst
    rw [f2]
    rw [f2] at f1
    have hyl : y.1.length = n := by simpa using f1
    simp only
    unfold secondC secondB
    by_cases hR : c.R = 0
    · rw [if_pos hR, if_pos hR]
      exact ⟨f1, rfl, f3⟩
    · rw [if_neg hR, if_neg hR]
      have := part_step (any := y.2) (c := -c.C) hyl f3 c3 c4 c1 c2
      rw [← Int.sub_eq_add_neg] at this
      exact this

theorem rSw_rel {n : Nat} {x : List Int} {l : List Con} {acc : List Bool} (hl : x.length = n) (hx : ∀ i, i < n → g x i ≤ 1048576) (h : ∀ c ∈ l, ConOk n c) : ∀ k, k ≤ l.length → Rel n (rSw x l acc k) ((accB l acc k).foldl stepSw (0 :: x, false)) := by
  intro k
  induction k with
  | zero => intro _; exact ⟨by show (0 :: x).length = n + 1; simp [hl], rfl, hx⟩
  | succ k ih =>
    intro hk
    have hlk : l[k]? = some l[k] := List.getElem?_eq_getElem (by omega)
    have hck := h _ (List.mem_of_getElem? hlk)
    have ih' := ih (by omega)
    simp only [rSw, accB, hlk, List.foldl_append]
    cases hs : rSw x l acc k with
    | none =>
      rw [hs] at ih'
      refine rel_bad (fun b hb => ?_) ih'
      split at hb
      · exact boundsOf_in hck b hb
      · simp at hb
    | some y =>
      rw [hs] at ih'
      cases ha : acc[k]?.getD false with
      | false => simpa [oneC] using ih'
      | true => simpa using one_step hck ih'

theorem rel_bf {n : Nat} {l : List Con} {acc : List Bool} (h : ∀ c ∈ l, ConOk n c) : ∀ (f : Nat) (x : List Int), x.length = n → (∀ i, i < n → g x i ≤ 1048576) →
    bf (accB l acc l.length) f (0 :: x) = (rGo l acc f x).map (0 :: ·) := by
  intro f
  induction f with
  | zero => intro x _ _; rfl
  | succ f ih =>
    intro x hl hx
    have hrel := rSw_rel (acc := acc) hl hx h l.length (Nat.le_refl _)
    simp only [bf, rGo, sw_all]
    cases hs : rSw x l acc l.length with
    | none =>
      rw [hs] at hrel
      rw [if_pos (hrel.2.badB hrel.1)]
      rfl
    | some y =>
      rw [hs] at hrel
      obtain ⟨h1, h2, h3⟩ := hrel
      rw [h2] at h1 ⊢
      have hyl : y.1.length = n := by simpa using h1
      rw [if_neg (by
        rw [badB_false h1 (by simp [g]) fun i hi => ?_]
        · simp
        · cases i with
          | zero => simp [g]
          | succ i => rw [g_cons_succ]; exact h3 i (by omega))]
      simp only
      split
      · simp
      · exact ih y.1 hyl h3

/-! ### the least solution -/

structure Lst (N : Nat) (L : List Bd) (q : List Int) : Prop where
  len : q.length = N
  inr : InR N q
  sat : SatB L q
  least : ∀ y, y.length = N → InR N y → SatB L y → Le N q y
def Infeas (N : Nat) (L : List Bd) : Prop := ∀ y, y.length = N → InR N y → SatB L y → False

theorem SatB.congr {L L' : List Bd} {y : List Int} (h : ∀ b, b ∈ L ↔ b ∈ L') : SatB L y ↔ SatB L' y :=
  ⟨fun k b hb => k b ((h b).2 hb), fun k b hb => k b ((h b).1 hb)⟩
theorem Lst.congr {N : Nat} {L L' : List Bd} {q : List Int} (h : ∀ b, b ∈ L ↔ b ∈ L') (k : Lst N L q) : Lst N L' q :=
  ⟨k.len, k.inr, (SatB.congr h).1 k.sat, fun y a b c => k.least y a b ((SatB.congr h).2 c)⟩
theorem Infeas.congr {N : Nat} {L L' : List Bd} (h : ∀ b, b ∈ L ↔ b ∈ L') (k : Infeas N L) : Infeas N L' := fun y a b c => k y a b ((SatB.congr h).2 c)
theorem Infeas.more {N : Nat} {L L' : List Bd} (h : ∀ b, b ∈ L → b ∈ L') (k : Infeas N L) : Infeas N L' := fun y a b c => k y a b fun x hx => c x (h x hx)
theorem list_ext {p q : List Int} (hl : p.length = q.length) (h : ∀ i, i < p.length → g p i = g q i) : p = q := by
  apply List.ext_getElem hl
  intro i h1 h2
  have := h i h1
  simpa [g, List.getElem?_eq_getElem h1, List.getElem?_eq_getElem h2] using this
theorem Lst.unique {N : Nat} {L : List Bd} {p q : List Int} (h : Lst N L p) (k : Lst N L q) : p = q :=
  list_ext (h.len.trans k.len.symm) fun i hi => Int.le_antisymm (h.least q k.len k.inr k.sat i (by have := h.len; omega)) (k.least p h.len h.inr h.sat i (by have := h.len; omega))
theorem Lst.infeas {N : Nat} {L : List Bd} {p : List Int} (h : Lst N L p) (k : Infeas N L) : False := k p h.len h.inr h.sat

theorem bf_lst {N : Nat} {L L0 : List Bd} {vs : List Int} (hN : 0 < N) (hL : BdIn N L) (h0 : Lst N L0 vs) (hsub : ∀ b, b ∈ L0 → b ∈ L) (f : Nat) (hf : N + 1 ≤ f) :
    (∀ q, bf L f vs = some q → Lst N L q) ∧ (bf L f vs = none → Infeas N L) := by
  have hge : ∀ y, y.length = N → InR N y → SatB L y → Le N vs y := fun y a b c => h0.least y a b fun x hx => c x (hsub x hx)
  refine ⟨fun q hq => ?_, fun hn y a b c => bf_none hL hN h0.len f hf hn y a (hge y a b c) c b.1 fun i hi => (b.2 i hi).2⟩
  obtain ⟨b1, b2, b3, b4, b5, b6⟩ := bf_some hL f vs q h0.len hq
  refine ⟨b1, ⟨b4, fun i hi => ⟨Int.le_trans (h0.inr.2 i hi).1 (b2 i hi), b5 i hi⟩⟩, b3, fun y a b c => b6 y (hge y a b c) c⟩

theorem iRaise_bf (vs : List Int) (L : List Bd) : iRaise vs L = bf L (vs.length + 2) vs := iGo_bf _ _ _ rfl

theorem iRaise_lst {N : Nat} {L L0 : List Bd} {vs : List Int} (hN : 0 < N) (hL : BdIn N L) (h0 : Lst N L0 vs) (hsub : ∀ b, b ∈ L0 → b ∈ L) :
    (∀ q, iRaise vs L = some q → Lst N L q) ∧ (iRaise vs L = none → Infeas N L) := by
  rw [iRaise_bf]
  exact bf_lst hN hL h0 hsub _ (by have := h0.len; omega)

theorem zeros_lst (N : Nat) : Lst N [] (List.replicate N 0) := by
  have hg : ∀ i, g (List.replicate N 0) i = 0 := fun i => by
    unfold g
    rw [List.getElem?_replicate]
    split <;> rfl
  exact ⟨by simp, ⟨by rw [hg]; omega, fun i hi => by rw [hg]; omega⟩, fun b hb => by simp at hb, fun y a b c i hi => by rw [hg]; exact (b.2 i hi).1⟩

theorem rLeast_lst {n : Nat} {l : List Con} {acc : List Bool} (h : ∀ c ∈ l, ConOk n c) :
    (∀ x, rLeast n l acc = some x → Lst (n + 1) (accB l acc l.length) (0 :: x)) ∧ (rLeast n l acc = none → Infeas (n + 1) (accB l acc l.length)) := by
  have e := rel_bf (acc := acc) h (n + 2) (List.replicate n 0) (by simp) (fun i hi => by
    unfold g
    rw [List.getElem?_replicate]
    split <;> simp)
  have hb := bf_lst (f := n + 2) (by omega) (accB_in (acc := acc) (k := l.length) h) (zeros_lst (n + 1)) (fun b hb => by simp at hb) (by omega)
  rw [List.replicate_succ, e] at hb
  exact ⟨fun x hx => hb.1 _ (by unfold rLeast at hx; rw [hx]; rfl), fun hn => hb.2 (by unfold rLeast at hn; rw [hn]; rfl)⟩
end Go.Proofs.Ytkdgeahfmmfopaa
