/- A verified abstract interpreter, part 18: in whatever order the operations of a region come, the abstract state is the same. -/
import Derived.Test.YtledghdlcdgepaaGreatDoorE17
noncomputable section
namespace Go.Proofs.YtledghdlcdgepaaGreatDoor
set_option linter.unusedVariables false
set_option linter.unusedSimpArgs false
open Go.RowKit

def eff (ops : Array Oper) (i : Nat) : Bool := match ops.toList[i]? with
  | some o => !isFl o
  | none => false

/-- f comes ahead of i in every order. -/
def anc (ops : Array Oper) : Nat → Nat → Nat → Bool
  | 0, _, _ => false
  | F + 1, f, i => match ops.toList[i]? with
    | some o => (edg o).any fun j => match Nat.beq j f with
      | true => true
      | false => anc ops F f j
    | none => false

theorem anc_ok {ops : Array Oper} {l : List Nat} (hl : Lin ops l) : ∀ (F f i : Nat) (l1 l2 : List Nat), l = l1 ++ i :: l2 → anc ops F f i = true → f ∈ l1
  | 0, f, i, l1, l2, h, ha => by simp [anc] at ha
  | F + 1, f, i, l1, l2, h, ha => by
    unfold anc at ha
    split at ha
    · rename_i o ho
      obtain ⟨j, hj, hb⟩ := List.any_eq_true.1 ha
      have hj1 := hl.resp l1 i l2 h o (by simpa using ho) j hj
      split at hb
      · rename_i hjf
        rw [nat_beq_true.1 hjf] at hj1
        exact hj1
      · obtain ⟨m1, m2, hm⟩ := List.append_of_mem hj1
        have := anc_ok hl F f j m1 (m2 ++ i :: l2) (by rw [h, hm]; simp) hb
        rw [hm]
        exact List.mem_append_left _ this
    · cases ha

/-- All orders of the effects. -/
def exts (an : Nat → Nat → Bool) : Nat → List Nat → List (List Nat)
  | 0, _ => [[]]
  | F + 1, es => match es with
    | [] => [[]]
    | _ :: _ => (es.filter fun e => es.all fun f => !an f e).flatMap fun e => (exts an F (es.filter fun f => !Nat.beq f e)).map fun x => e :: x

theorem exts_ok {an : Nat → Nat → Bool} : ∀ (E : List Nat) (F : Nat) (es : List Nat), E.Nodup → (∀ A e B, E = A ++ e :: B → ∀ f ∈ e :: B, an f e = false) → (∀ e, e ∈ es ↔ e ∈ E) → E.length ≤ F → E ∈ exts an F es
  | [], F, es, hn, ho, hm, hF => by
    have : es = [] := by
      cases es with
      | nil => rfl
      | cons x xs => exact absurd ((hm x).1 (by simp)) (by simp)
    subst this
    cases F <;> simp [exts]
  | e :: E, F, es, hn, ho, hm, hF => by
    cases F with
    | zero => simp at hF
    | succ F =>
      unfold exts
      split
      · exact absurd ((hm e).2 (by simp)) (by simp)
      · rename_i x xs
        obtain ⟨hne, hnE⟩ := List.nodup_cons.1 hn
        refine List.mem_flatMap.2 ⟨e, List.mem_filter.2 ⟨(hm e).2 (by simp), List.all_eq_true.2 fun f hf => ?_⟩, List.mem_map.2 ⟨E, ?_, rfl⟩⟩
        · rw [ho [] e E rfl f ((hm f).1 hf)]; rfl
        · refine exts_ok E F _ hnE (fun A y B hy f hf => ho (e :: A) y B (by rw [hy]; rfl) f hf) (fun y => ?_) (by simpa using hF)
          rw [List.mem_filter, hm y]
          constructor
          · rintro ⟨h1, h2⟩
            rcases List.mem_cons.1 h1 with rfl | h1
            · rw [nat_beq_true.2 rfl] at h2; cases h2
            · exact h1
          · intro h
            refine ⟨List.mem_cons_of_mem _ h, ?_⟩
            rw [nat_beq_false.2 (fun e1 : y = e => hne (e1 ▸ h))]; rfl

theorem lin_eff {ops : Array Oper} {l : List Nat} (hl : Lin ops l) (F : Nat) : ∀ A e B, l.filter (eff ops) = A ++ e :: B → ∀ f ∈ e :: B, anc ops F f e = false := by
  intro A e B h f hf
  cases ha : anc ops F f e with
  | false => rfl
  | true =>
    obtain ⟨l1, l2, rfl, h1, h2⟩ := List.filter_eq_append_iff.1 h
    obtain ⟨m1, m2, rfl, h3, h4, h5⟩ := List.filter_eq_cons_iff.1 h2
    have := anc_ok hl F f e (l1 ++ m1) m2 (by simp) ha
    have hfm : f ∈ e :: m2 := by
      rcases List.mem_cons.1 hf with rfl | hf
      · simp
      · rw [← h5] at hf; exact List.mem_cons_of_mem _ (List.mem_filter.1 hf).1
    have hnd : ((l1 ++ m1) ++ e :: m2).Nodup := by have := hl.nodup; simpa using this
    exact absurd rfl ((List.nodup_append.1 hnd).2.2 f this f hfm)

/-! ### One order, operation by operation -/
structure Rec where
  i : Nat
  s : Tr Value
  h : AH
  v : Value
  h' : AH

def recs (tb : Nat → Option TI) (callf : FuncId → List Value → AH → Option (Value × AH)) (nt : Nat) (ops : Array Oper) : List Nat → Tr Value → AH → Option (List Rec × Tr Value × AH)
  | [], s, h => some ([], s, h)
  | i :: l, s, h => match ops.toList[i]? with
    | some o => match gStep tb callf nt ops s h o with
      | some (v, h') => match recs tb callf nt ops l (sput s o.dst v) h' with
        | some (rs, s2, h2) => some (⟨i, s, h, v, h'⟩ :: rs, s2, h2)
        | none => none
      | none => none
    | none => none

/-- What the slots hold when the operations of D are done. -/
def Slots (ops : Array Oper) (vf : Nat → Value) (s0 : Tr Value) (D : List Nat) (s : Tr Value) : Prop :=
  (∀ j ∈ D, ∀ o x, ops[j]? = some o → o.dst = some x → s.get x = some (vf j)) ∧ (∀ x, (∀ j ∈ D, ∀ o, ops[j]? = some o → o.dst ≠ some x) → s.get x = s0.get x)

def Dst1 (ops : Array Oper) : Prop := ∀ (i j : Nat) (oi oj : Oper) (x : Nat), ops[i]? = some oi → ops[j]? = some oj → oi.dst = some x → oj.dst = some x → i = j
def Reads1 (ops : Array Oper) : Prop := ∀ (i j : Nat) (oi oj : Oper) (x : Nat), i ≠ j → ops[i]? = some oi → ops[j]? = some oj → oj.dst = some x → x ∈ oi.looksAt ops → j ∈ edg oi ∨ i ∈ edg oj

section
variable {ops : Array Oper} {vf : Nat → Value} {s0 : Tr Value} {nt : Nat} {tb : Nat → Option TI} {callf : FuncId → List Value → AH → Option (Value × AH)}

theorem Slots.agree {D D' : List Nat} {s s' : Tr Value} (h : Slots ops vf s0 D s) (h' : Slots ops vf s0 D' s') {x : Nat} (hx : ∀ j o, ops[j]? = some o → o.dst = some x → (j ∈ D ↔ j ∈ D')) (hd : Dst1 ops) : s.get x = s'.get x := by
  by_cases hc : ∃ j ∈ D, ∃ o, ops[j]? = some o ∧ o.dst = some x
  · obtain ⟨j, hj, o, ho, hox⟩ := hc
    rw [h.1 j hj o x ho hox, h'.1 j ((hx j o ho hox).1 hj) o x ho hox]
  · rw [h.2 x (fun j hj o ho hox => hc ⟨j, hj, o, ho, hox⟩), h'.2 x (fun j hj o ho hox => hc ⟨j, (hx j o ho hox).2 hj, o, ho, hox⟩)]

theorem Slots.step {D : List Nat} {s : Tr Value} (h : Slots ops vf s0 D s) (hd : Dst1 ops) (hnt : nt < 1000000) {i : Nat} {o : Oper} (ho : ops[i]? = some o) (hi : i ∉ D) (hok : dOk nt o.dst = true) : Slots ops vf s0 (D ++ [i]) (sput s o.dst (vf i)) := by
  cases hdst : o.dst with
  | none =>
    refine ⟨fun j hj oj x hoj hx => ?_, fun x hx => ?_⟩
    · rcases List.mem_append.1 hj with hj | hj
      · exact h.1 j hj oj x hoj hx
      · simp at hj
        subst hj
        rw [ho] at hoj
        injection hoj with hoj
        subst hoj
        rw [hdst] at hx
        cases hx
    · exact h.2 x fun j hj oj hoj => hx j (List.mem_append_left _ hj) oj hoj
  | some d =>
    rw [hdst] at hok
    have hd0 : @LT.lt Nat _ d nt := Nat.le_of_ble_eq_true hok
    have hget : ∀ k, (sput s (some d) (vf i)).get k = if k = d then some (vf i) else s.get k := fun k => Tr.get_put 24 s d (vf i) k (show @LT.lt Nat _ (d + 1) (2 ^ 24) by omega)
    refine ⟨fun j hj oj x hoj hx => ?_, fun x hx => ?_⟩
    · rw [hget]
      rcases List.mem_append.1 hj with hj | hj
      · split
        · rename_i hxd
          subst hxd
          have := hd i j o oj x ho hoj hdst hx
          subst this
          exact absurd hj hi
        · exact h.1 j hj oj x hoj hx
      · simp at hj
        subst hj
        rw [ho] at hoj
        injection hoj with hoj
        subst hoj
        rw [hdst] at hx
        injection hx with hx
        rw [if_pos hx.symm]
    · rw [hget]
      have hne : ¬ x = d := fun e => hx i (by simp) o ho (by rw [hdst, e])
      rw [if_neg hne]
      exact h.2 x fun j hj oj hoj => hx j (List.mem_append_left _ hj) oj hoj

theorem gStep_dok {s : Tr Value} {h h' : AH} {o : Oper} {v : Value} (hg : gStep tb callf nt ops s h o = some (v, h')) : dOk nt o.dst = true := by
  unfold gStep at hg
  cases hd : dOk nt o.dst with
  | true => rfl
  | false => simp only [hd] at hg; cases hg

/-- The heaps, as the effects come. -/
def heapsOf (ops : Array Oper) (h : AH) (rs : List Rec) : List AH := h :: (rs.filter fun r => eff ops r.i).map (·.h')

theorem recs_spec (hd : Dst1 ops) (hnt : nt < 1000000) : ∀ (L Lp : List Nat) (s : Tr Value) (h : AH) (rs : List Rec) (sL : Tr Value) (hL : AH), recs tb callf nt ops L s h = some (rs, sL, hL) → Slots ops vf s0 Lp s → (∀ r ∈ rs, vf r.i = r.v) → (Lp ++ L).Nodup →
    (∀ L1 i L2, L = L1 ++ i :: L2 → ∃ r ∈ rs, ∃ o, r.i = i ∧ ops[i]? = some o ∧ gStep tb callf nt ops r.s r.h o = some (r.v, r.h') ∧ Slots ops vf s0 (Lp ++ L1) r.s ∧
      (heapsOf ops h rs)[(L1.filter (eff ops)).length]? = some r.h ∧ (heapsOf ops h rs)[((L1 ++ [i]).filter (eff ops)).length]? = some r.h') ∧
    Slots ops vf s0 (Lp ++ L) sL ∧ (heapsOf ops h rs)[(L.filter (eff ops)).length]? = some hL
  | [], Lp, s, h, rs, sL, hL, hr, hs, hv, hn => by
    simp only [recs] at hr
    injection hr with hr
    injection hr with h1 h2
    injection h2 with h2 h3
    subst h1; subst h2; subst h3
    exact ⟨fun L1 i L2 hh => by simp at hh, by simpa using hs, by simp [heapsOf]⟩
  | i :: L, Lp, s, h, rs, sL, hL, hr, hs, hv, hn => by
    simp only [recs] at hr
    split at hr
    · rename_i o ho
      split at hr
      · rename_i v h1 hg
        split at hr
        · rename_i rs1 s2 h2 hr1
          injection hr with hr
          injection hr with e1 e2
          injection e2 with e2 e3
          subst e1; subst e2; subst e3
          have ho' : ops[i]? = some o := by simpa using ho
          have hvi : vf i = v := hv ⟨i, s, h, v, h1⟩ (by simp)
          have hni : i ∉ Lp := fun hm => absurd rfl ((List.nodup_append.1 hn).2.2 i hm i (by simp))
          have hs1 := hs.step hd hnt ho' hni (gStep_dok hg)
          rw [hvi] at hs1
          obtain ⟨q1, q2, q3⟩ := recs_spec hd hnt L (Lp ++ [i]) _ h1 rs1 _ _ hr1 hs1 (fun r hr => hv r (List.mem_cons_of_mem _ hr)) (by simpa using hn)
          -- the list of heaps
          have hheap : ∀ k x, (heapsOf ops h1 rs1)[k]? = some x → (heapsOf ops h (⟨i, s, h, v, h1⟩ :: rs1))[k + (if eff ops i = true then 1 else 0)]? = some x := fun k x hx => by
            unfold heapsOf at hx ⊢
            rw [List.filter_cons]
            by_cases he : eff ops i = true
            · simp only [he, if_true]
              simpa using hx
            · simp only [he, if_false, Bool.false_eq_true, Nat.add_zero]
              have hf : isFl o = true := by
                unfold eff at he
                rw [ho] at he
                simpa using he
              rw [← (gfl_step hf hg).1]
              exact hx
          have hlen : ∀ l, ((i :: l).filter (eff ops)).length = (l.filter (eff ops)).length + (if eff ops i = true then 1 else 0) := fun l => by
            rw [List.filter_cons]
            split <;> simp
          refine ⟨fun L1 k L2 hh => ?_, by simpa using q2, ?_⟩
          · cases L1 with
            | nil =>
              simp at hh
              obtain ⟨rfl, rfl⟩ := hh
              refine ⟨⟨i, s, h, v, h1⟩, by simp, o, rfl, ho', hg, by simpa using hs, by simp [heapsOf], ?_⟩
              have := hheap 0 h1 (by simp [heapsOf])
              rw [List.nil_append, hlen]
              simpa using this
            | cons x L1 =>
              simp at hh
              obtain ⟨rfl, hh⟩ := hh
              obtain ⟨r, w1, ok, w2, w3, w4, w5, w6, w7⟩ := q1 L1 k L2 hh
              refine ⟨r, List.mem_cons_of_mem _ w1, ok, w2, w3, w4, by simpa using w5, ?_, ?_⟩
              · rw [hlen]; exact hheap _ _ w6
              · rw [List.cons_append, hlen]; exact hheap _ _ w7
          · rw [hlen]
            exact hheap _ _ q3
        · cases hr
      · cases hr
    · cases hr
end
end Go.Proofs.YtledghdlcdgepaaGreatDoor
