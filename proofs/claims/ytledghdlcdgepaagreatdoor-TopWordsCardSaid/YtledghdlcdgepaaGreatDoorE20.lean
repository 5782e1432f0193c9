/- A verified abstract interpreter, part 20: regions that draw their order, checked and run. -/
import Derived.Test.YtledghdlcdgepaaGreatDoorE19
noncomputable section
namespace Go.Proofs.YtledghdlcdgepaaGreatDoor
set_option linter.unusedVariables false
set_option linter.unusedSimpArgs false
open Go.RowKit

def memN (x : Nat) : List Nat → Bool
  | [] => false
  | y :: l => match Nat.beq x y with
    | true => true
    | false => memN x l
theorem memN_iff (x : Nat) : ∀ (l : List Nat), memN x l = true ↔ x ∈ l
  | [] => by simp [memN]
  | y :: l => by
    unfold memN
    split
    · rename_i h; rw [nat_beq_true.1 h]; simp
    · rename_i h; rw [memN_iff x l]; simp [nat_beq_false.1 h]
def beqN : List Nat → List Nat → Bool
  | [], [] => true
  | x :: l, y :: k => match Nat.beq x y with
    | true => beqN l k
    | false => false
  | _, _ => false
theorem beqN_eq : ∀ (l k : List Nat), beqN l k = true → l = k
  | [], [], _ => rfl
  | [], _ :: _, h => by simp [beqN] at h
  | _ :: _, [], h => by simp [beqN] at h
  | x :: l, y :: k, h => by
    unfold beqN at h
    split at h
    · rename_i hx; rw [nat_beq_true.1 hx, beqN_eq l k h]
    · cases h

/-- No two operations write one slot. -/
def dstB : List Nat → List Oper → Bool
  | _, [] => true
  | seen, o :: os => match o.dst with
    | some d => match memN d seen with
      | true => false
      | false => dstB (d :: seen) os
    | none => dstB seen os
theorem dstB_spec : ∀ (l : List Oper) (seen : List Nat), dstB seen l = true → (∀ (k : Nat) (o : Oper) (x : Nat), l[k]? = some o → o.dst = some x → x ∉ seen) ∧ ∀ (i j : Nat) (oi oj : Oper) (x : Nat), l[i]? = some oi → l[j]? = some oj → oi.dst = some x → oj.dst = some x → i = j
  | [], seen, h => ⟨fun k o x hk => by simp at hk, fun i j oi oj x hi => by simp at hi⟩
  | o :: l, seen, h => by
    unfold dstB at h
    split at h
    · rename_i d hd
      split at h
      · cases h
      · rename_i hm
        have hm : d ∉ seen := fun hh => by rw [(memN_iff d seen).2 hh] at hm; cases hm
        obtain ⟨h1, h2⟩ := dstB_spec l (d :: seen) h
        refine ⟨fun k ok x hk hx => ?_, fun i j oi oj x hi hj hx hy => ?_⟩
        · cases k with
          | zero => simp at hk; subst hk; rw [hd] at hx; injection hx with hx; subst hx; exact hm
          | succ k => exact fun hh => h1 k ok x (by simpa using hk) hx (List.mem_cons_of_mem _ hh)
        · cases i with
          | zero =>
            cases j with
            | zero => rfl
            | succ j =>
              simp at hi
              subst hi
              rw [hd] at hx
              injection hx with hx
              subst hx
              exact absurd (by simp) (h1 j oj d (by simpa using hj) hy)
          | succ i =>
            cases j with
            | zero =>
              simp at hj
              subst hj
              rw [hd] at hy
              injection hy with hy
              subst hy
              exact absurd (by simp) (h1 i oi d (by simpa using hi) hx)
            | succ j => rw [h2 i j oi oj x (by simpa using hi) (by simpa using hj) hx hy]
    · rename_i hd
      obtain ⟨h1, h2⟩ := dstB_spec l seen h
      refine ⟨fun k ok x hk hx => ?_, fun i j oi oj x hi hj hx hy => ?_⟩
      · cases k with
        | zero => simp at hk; subst hk; rw [hd] at hx; cases hx
        | succ k => exact h1 k ok x (by simpa using hk) hx
      · cases i with
        | zero => simp at hi; subst hi; rw [hd] at hx; cases hx
        | succ i =>
          cases j with
          | zero => simp at hj; subst hj; rw [hd] at hy; cases hy
          | succ j => rw [h2 i j oi oj x (by simpa using hi) (by simpa using hj) hx hy]

/-- Whoever reads a slot of the region comes behind or ahead of its writer in every order. -/
def readsJ (ops : Array Oper) (i : Nat) (oi : Oper) : Nat → List Oper → Bool
  | _, [] => true
  | j, oj :: os => match (match Nat.beq i j with
      | true => true
      | false => match oj.dst with
        | some x => match memN x (oi.looksAt ops) with
          | true => match memN j (edg oi) with
            | true => true
            | false => memN i (edg oj)
          | false => true
        | none => true) with
    | true => readsJ ops i oi (j + 1) os
    | false => false
theorem readsJ_spec {ops : Array Oper} {i : Nat} {oi : Oper} : ∀ (l : List Oper) (p : Nat), readsJ ops i oi p l = true → ∀ (k : Nat) (oj : Oper) (x : Nat), l[k]? = some oj → i ≠ p + k → oj.dst = some x → x ∈ oi.looksAt ops → p + k ∈ edg oi ∨ i ∈ edg oj
  | [], p, h, k, oj, x, hk, _, _, _ => by simp at hk
  | o :: l, p, h, k, oj, x, hk, hne, hx, hm => by
    unfold readsJ at h
    split at h
    · rename_i hc
      cases k with
      | succ k =>
        have := readsJ_spec l (p + 1) h k oj x (by simpa using hk) (by omega) hx hm
        rw [show p + (k + 1) = p + 1 + k by omega]
        exact this
      | zero =>
        simp at hk
        subst hk
        rw [nat_beq_false.2 (by omega : i ≠ p)] at hc
        simp only [hx, (memN_iff x _).2 hm] at hc
        split at hc
        · rename_i h1; left; exact (memN_iff _ _).1 h1
        · right; exact (memN_iff _ _).1 hc
    · cases h
def readsI (ops : Array Oper) : Nat → List Oper → Bool
  | _, [] => true
  | i, o :: os => match readsJ ops i o 0 ops.toList with
    | true => readsI ops (i + 1) os
    | false => false
theorem readsI_spec {ops : Array Oper} : ∀ (l : List Oper) (p : Nat), readsI ops p l = true → ∀ (k : Nat) (o : Oper), l[k]? = some o → readsJ ops (p + k) o 0 ops.toList = true
  | [], p, h, k, o, hk => by simp at hk
  | x :: l, p, h, k, o, hk => by
    unfold readsI at h
    split at h
    · rename_i hc
      cases k with
      | zero => simp at hk; subst hk; exact hc
      | succ k =>
        rw [show p + (k + 1) = p + 1 + k by omega]
        exact readsI_spec l (p + 1) h k o (by simpa using hk)
    · cases h

/-- An order that respects the edges. -/
def linB (ops : Array Oper) : List Nat → List Nat → Bool
  | seen, [] => (List.range ops.toList.length).all fun i => memN i seen
  | seen, i :: l => match ops.toList[i]? with
    | some o => match memN i seen, (edg o).all fun j => memN j seen with
      | false, true => linB ops (i :: seen) l
      | _, _ => false
    | none => false
theorem linB_spec {ops : Array Oper} : ∀ (l seen : List Nat), linB ops seen l = true → l.Nodup ∧ (∀ i ∈ l, i < ops.size ∧ i ∉ seen) ∧ (∀ i, i < ops.size → i ∈ l ∨ i ∈ seen) ∧ (∀ l1 i l2, l = l1 ++ i :: l2 → ∀ o, ops[i]? = some o → ∀ j ∈ edg o, j ∈ l1 ∨ j ∈ seen)
  | [], seen, h => by
    simp only [linB] at h
    refine ⟨List.nodup_nil, by simp, fun i hi => .inr ((memN_iff _ _).1 (List.all_eq_true.1 h i (by simpa using hi))), fun l1 i l2 hh => by simp at hh⟩
  | i :: l, seen, h => by
    unfold linB at h
    split at h
    · rename_i o ho
      have ho' : ops[i]? = some o := by simpa using ho
      split at h
      · rename_i h1 h2
        have h1 : i ∉ seen := fun hh => by rw [(memN_iff i seen).2 hh] at h1; cases h1
        obtain ⟨q1, q2, q3, q4⟩ := linB_spec l (i :: seen) h
        refine ⟨List.nodup_cons.2 ⟨fun hm => (q2 i hm).2 (by simp), q1⟩, fun k hk => ?_, fun k hk => ?_, fun l1 k l2 hl ok hok j hj => ?_⟩
        · rcases List.mem_cons.1 hk with rfl | hk
          · exact ⟨(Array.getElem?_eq_some_iff.1 ho').1, h1⟩
          · exact ⟨(q2 k hk).1, fun hh => (q2 k hk).2 (List.mem_cons_of_mem _ hh)⟩
        · rcases q3 k hk with hh | hh
          · exact .inl (List.mem_cons_of_mem _ hh)
          · rcases List.mem_cons.1 hh with rfl | hh
            · exact .inl (by simp)
            · exact .inr hh
        · cases l1 with
          | nil =>
            simp at hl
            obtain ⟨rfl, rfl⟩ := hl
            rw [ho'] at hok
            injection hok with hok
            subst hok
            exact .inr ((memN_iff _ _).1 (List.all_eq_true.1 h2 j hj))
          | cons x l1 =>
            simp at hl
            obtain ⟨rfl, hl⟩ := hl
            rcases q4 l1 k l2 hl ok hok j hj with hh | hh
            · exact .inl (List.mem_cons_of_mem _ hh)
            · rcases List.mem_cons.1 hh with rfl | hh
              · exact .inl (by simp)
              · exact .inr hh
      · cases h
    · cases h
theorem linB_lin {ops : Array Oper} {l : List Nat} (h : linB ops [] l = true) : Lin ops l := by
  obtain ⟨q1, q2, q3, q4⟩ := linB_spec l [] h
  refine ⟨q1, fun i => ⟨fun h => (q2 i h).1, fun h => (q3 i h).resolve_right (by simp)⟩, fun l1 i l2 hl o ho j hj => (q4 l1 i l2 hl o ho j hj).resolve_right (by simp)⟩

theorem nodup_len : ∀ (m : Nat) (l : List Nat), l.Nodup → (∀ x ∈ l, x < m) → l.length ≤ m
  | 0, l, hn, hm => by
    cases l with
    | nil => simp
    | cons x l => exact absurd (hm x (by simp)) (by omega)
  | m + 1, l, hn, hm => by
    by_cases hml : m ∈ l
    · have h1 := nodup_len m (l.erase m) (hn.erase m) (fun x hx => by
        have h2 := (hn.mem_erase_iff).1 hx
        have h3 := hm x h2.2
        have h4 := h2.1
        omega)
      rw [List.length_erase_of_mem hml] at h1
      omega
    · have := nodup_len m l hn (fun x hx => by
        have h3 := hm x hx
        have : x ≠ m := fun e => hml (e ▸ hx)
        omega)
      omega

/-- What is checked of a region, whatever the state. -/
def statOk (ops : Array Oper) (ords : List (List Nat)) : Bool := match topOk 0 ops.toList, dstB [] ops.toList, readsI ops 0 ops.toList with
  | true, true, true => match ords.all fun L => linB ops [] L with
    | true => (exts (anc ops 6) ops.toList.length ((List.range ops.toList.length).filter (eff ops))).all fun E => ords.any fun L => beqN (L.filter (eff ops)) E
    | false => false
  | _, _, _ => false

/-- No load of the region can come on either side of an effect. -/
def fixOk (ops : Array Oper) (L : List Nat) : Bool := L.all fun i => match ops.toList[i]? with
  | some o => match isLd o with
    | true => Nat.beq (loW (anc ops 6) i (L.filter (eff ops)) 0 0) (hiW (anc ops 6) i (L.filter (eff ops)) 0)
    | false => true
  | none => true
def chkAll (tb : Nat → Option TI) (callf : FuncId → List Value → AH → Option (Value × AH)) (nt : Nat) (ops : Array Oper) (L : List Nat) (h0 : AH) (rs : List Rec) : Bool := match fixOk ops L with
  | true => true
  | false => rs.all fun r => chkRec tb callf nt ops 6 (L.filter (eff ops)) (heapsOf ops h0 rs) r
theorem chkAll_ok {tb : Nat → Option TI} {callf : FuncId → List Value → AH → Option (Value × AH)} {nt : Nat} {ops : Array Oper} {L : List Nat} {s s2 : Tr Value} {h0 h2 : AH} {rs : List Rec} (hr : recs tb callf nt ops L s h0 = some (rs, s2, h2)) (hc : chkAll tb callf nt ops L h0 rs = true) :
    ∀ r ∈ rs, chkRec tb callf nt ops 6 (L.filter (eff ops)) (heapsOf ops h0 rs) r = true := by
  intro r hrm
  unfold chkAll at hc
  split at hc
  · rename_i hf
    have hi : r.i ∈ L := by rw [← recs_map _ _ _ _ _ _ hr]; exact List.mem_map.2 ⟨r, hrm, rfl⟩
    have h1 := List.all_eq_true.1 hf r.i hi
    unfold chkRec
    split
    · rename_i o ho
      rw [ho] at h1
      split
      · rename_i hl
        simp only [hl] at h1
        rw [h1]
      · rfl
    · rfl
  · exact List.all_eq_true.1 hc r hrm

def ordSt (tb : Nat → Option TI) (callf : FuncId → List Value → AH → Option (Value × AH)) (nt : Nat) (ops : Array Oper) (L : List Nat) (st : St) : Option St := match recs tb callf nt ops L st.s st.h with
  | some (rs, s2, h2) => match chkAll tb callf nt ops L st.h rs with
    | true => some ⟨s2, h2, st.ds⟩
    | false => none
  | none => none

section
variable {P : Program} {tb : Nat → Option TI} {callf : FuncId → List Value → AH → Option (Value × AH)} {r : Ren} {N : Nat → Prop} {nt : Nat} {a : Act} {w : World}

theorem SA.same {s s' : Tr Value} {h : AH} (hA : SA P N r nt s h a w) (hs : ∀ x, s'.get x = s.get x) : SA P N r nt s' h a w :=
  ⟨hA.sz, fun k v hk => hA.sl k v (by rw [← hs]; exact hk), hA.sim⟩

theorem drawn_ok (hm : P.follows .mixedOrders = true) (htb : TbOk P tb) (hcf : CallsOk P callf) (hnt : nt < 1000000) {ops : Array Oper} {ords : List (List Nat)} (hst : statOk ops ords = true) {st : St} {id : Nat} {Q : Exit → Act → World → Prop} (hB : SB P N r nt st a w)
    (hQ : ∀ L ∈ ords, ∃ st', ordSt tb callf nt ops L st = some st' ∧ ∀ r' a' w', Aft P N nt st st' r w r' a' w' → Q .normal a' w') : (Code.region id ops true).wp P Q a w := by
  unfold statOk at hst
  split at hst
  · rename_i c1 c2 c3
    split at hst
    · rename_i c4
      have hd : Dst1 ops := fun i j oi oj x hi hj hx hy => (dstB_spec ops.toList [] c2).2 i j oi oj x (by simpa using hi) (by simpa using hj) hx hy
      have hre : Reads1 ops := fun i j oi oj x hne hi hj hx hm => by
        have h1 := readsI_spec ops.toList 0 c3 i oi (by simpa using hi)
        rw [Nat.zero_add] at h1
        have h2 := readsJ_spec ops.toList 0 h1 j oj x (by simpa using hj) (by omega) hx hm
        rwa [Nat.zero_add] at h2
      refine wp_region_draw fun t => ?_
      have hl := schedule_lin hm c1 t
      generalize Region.schedule (P.follows .mixedOrders) ops t = l at hl ⊢
      have hex := exts_ok (l.filter (eff ops)) ops.toList.length ((List.range ops.toList.length).filter (eff ops)) (hl.nodup.filter _) (lin_eff hl 6) (fun e => by
        rw [List.mem_filter, List.mem_filter, hl.all e]; simp) (by
        have h1 := List.length_filter_le (eff ops) l
        have h2 : l.length ≤ ops.toList.length := nodup_len _ _ hl.nodup fun x hx => by simpa using (hl.all x).1 hx
        omega)
      have hcov := List.all_eq_true.1 hst _ hex
      obtain ⟨L, hLm, hLe⟩ := List.any_eq_true.1 hcov
      have hLe := beqN_eq _ _ hLe
      have hL := linB_lin (List.all_eq_true.1 c4 L hLm)
      obtain ⟨st', ho, hq⟩ := hQ L hLm
      unfold ordSt at ho
      split at ho
      · rename_i rs s2 h2 hrec
        split at ho
        · rename_i hchk
          injection ho with ho
          subst ho
          obtain ⟨s', z1, z2⟩ := reorder hd hre hnt hL hl hLe.symm hrec (chkAll_ok hrec hchk)
          have hA0 : SA P N r nt st.s st.h a { w with drawn := w.drawn + 1 } := ⟨hB.sa.sz, hB.sa.sl, hB.sa.sim.heap rfl⟩
          refine runL_ok htb hcf hnt l _ s' _ h2 r a _ z1 hA0 fun r' a' w' p1 p2 p3 p4 p5 => hq r' a' w' ⟨p1, p2, ⟨p3.same (fun x => (z2 x).symm), ?_⟩, ⟨p5.os, p5.tape, p5.output, p5.size, p5.block⟩⟩
          rw [p4]
          exact hB.df.ext p1 p2
        · cases ho
      · cases ho
    · cases hst
  · cases hst
end
end Go.Proofs.YtledghdlcdgepaaGreatDoor
