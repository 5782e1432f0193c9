/- A verified abstract interpreter, part 24: what several states have in common; regions that draw their order. -/
import Derived.Test.YtledghdlcdgepaaGreatDoorE23
noncomputable section
namespace Go.Proofs.YtledghdlcdgepaaGreatDoor
set_option linter.unusedVariables false
set_option linter.unusedSimpArgs false
open Go.RowKit

/-- A trie's values, changed or left out; the key of a node is a * k + b. -/
def fmT {α : Type} (p : Nat → α → Option α) : Nat → Nat → Tr α → Tr α
  | _, _, .leaf => .leaf
  | a, b, .node l v r => .node (fmT p (2 * a) (a + b) l) (match v with
    | some x => p b x
    | none => none) (fmT p (2 * a) (2 * a + b) r)
theorem fmT_get {α : Type} {p : Nat → α → Option α} : ∀ (t : Tr α) (a b k : Nat) (y : α), (fmT p a b t).get k = some y → ∃ x, t.get k = some x ∧ p (a * k + b) x = some y
  | .leaf, a, b, k, y, h => by simp [fmT, Tr.get_leaf] at h
  | .node l v r, a, b, k, y, h => by
    unfold fmT at h
    rw [Tr.get_node] at h
    rw [Tr.get_node]
    split at h
    · rename_i hk
      rw [if_pos hk]
      subst hk
      cases v with
      | none => cases h
      | some x => exact ⟨x, rfl, by simpa using h⟩
    · rename_i hk
      rw [if_neg hk]
      split at h
      · rename_i h2
        rw [if_pos h2]
        obtain ⟨x, h3, h4⟩ := fmT_get r _ _ _ y h
        refine ⟨x, h3, ?_⟩
        have e : a * k + b = 2 * a * (k / 2 - 1) + (2 * a + b) := by
          have hk2 : k = 2 * (k / 2 - 1) + 2 := by omega
          generalize k / 2 - 1 = q at hk2 ⊢
          rw [hk2, Nat.mul_add, ← Nat.mul_assoc, Nat.mul_comm a 2]
          omega
        rw [e]; exact h4
      · rename_i h2
        rw [if_neg h2]
        obtain ⟨x, h3, h4⟩ := fmT_get l _ _ _ y h
        refine ⟨x, h3, ?_⟩
        have e : a * k + b = 2 * a * (k / 2) + (a + b) := by
          have hk2 : k = 2 * (k / 2) + 1 := by omega
          generalize k / 2 = q at hk2 ⊢
          rw [hk2, Nat.mul_add, ← Nat.mul_assoc, Nat.mul_comm a 2]
          omega
        rw [e]; exact h4

/-- What c and o agree on, ids of c shifted; of two bools that differ, that there is one. -/
def meet2 (n0 s m : Nat) (c o : St) : Option St := match Nat.ble s m, Nat.ble n0 s, Nat.ble n0 c.h.n, dsB c.h.n s m c.ds o.ds with
  | true, true, true, true => some ⟨fmT (fun k v => match o.s.get k with
      | some v' => match vrn c.h.n s m 60 v v' with
        | true => some v
        | false => match v, v' with
          | .bool _, .bool _ => some (.chan none)
          | _, _ => none
      | none => none) 1 0 c.s, ⟨filT (fun i b => match Nat.blt i c.h.n, o.h.get (sh s m i) with
      | true, some b' => blkB c.h.n s m b b'
      | _, _ => false) 1 0 c.h.t, c.h.n⟩, c.ds⟩
  | _, _, _, _ => none

section
variable {P : Program} {tb : Nat → Option TI} {callf : FuncId → List Value → AH → Option (Value × AH)} {N : Nat → Prop} {nt : Nat}

theorem meet2_ok {n0 s m : Nat} {c o st : St} (hm : meet2 n0 s m c o = some st) : n0 ≤ st.h.n ∧ st.h.n = c.h.n ∧
    ∀ N r nt a w, (SB P N r nt c a w → SB P N r nt st a w) ∧ (SB P N r nt o a w → ∃ r', r.ext r' n0 ∧ SB P N r' nt st a w) := by
  unfold meet2 at hm
  split at hm
  · rename_i c1 c2 c3 c4
    injection hm with hm
    subst hm
    have c1 : s ≤ m := by simpa using c1
    have c2 : n0 ≤ s := by simpa using c2
    have c3 : n0 ≤ c.h.n := by simpa using c3
    refine ⟨c3, rfl, fun N r nt a w => ⟨fun hB => ?_, fun hB => ⟨r.sh s m, sh_ext c2, ?_⟩⟩⟩
    · refine ⟨⟨hB.sa.sz, fun k v hk => ?_, hB.sa.sim.sub rfl fun i b hi => (filT_get _ _ _ _ _ hi).1⟩, hB.df⟩
      obtain ⟨x, h1, h2⟩ := fmT_get _ _ _ _ _ hk
      obtain ⟨h3, v', h4, h5⟩ := hB.sa.sl k x h1
      split at h2
      · split at h2
        · injection h2 with h2; subst h2
          exact ⟨h3, v', h4, h5⟩
        · split at h2
          · injection h2 with h2; subst h2
            have := vr_bool h5
            subst this
            exact ⟨.ub, _, h4, .ub _⟩
          · cases h2
      · cases h2
    · refine ⟨⟨hB.sa.sz, fun k v hk => ?_, hB.sa.sim.shift c1 fun i b hi => ?_⟩, dsB_ok _ _ _ c4 hB.df⟩
      · obtain ⟨x, h1, h2⟩ := fmT_get _ _ _ _ _ hk
        rw [Nat.one_mul, Nat.add_zero] at h2
        split at h2
        · rename_i v' hv'
          obtain ⟨_, y, h3, h4⟩ := hB.sa.sl k v' hv'
          split at h2
          · rename_i hvr
            injection h2 with h2; subst h2
            obtain ⟨h5, h6⟩ := vrn_ok _ _ _ hvr
            exact ⟨h5, y, h3, h6 r y h4⟩
          · split at h2
            · injection h2 with h2; subst h2
              have := vr_bool h4
              subst this
              exact ⟨.ub, _, h3, .ub _⟩
            · cases h2
        · cases h2
      · obtain ⟨_, h2⟩ := filT_get _ _ _ _ _ hi
        rw [Nat.one_mul, Nat.add_zero] at h2
        split at h2
        · rename_i b' c3 hb'
          exact ⟨blt_iff.1 c3, b', hb', h2⟩
        · cases h2
  · cases hm

/-- What two branches have in common. -/
def jnM (n0 : Nat) (c o : St) : Option St := meet2 n0 c.h.n c.h.n c o
theorem jnM_ok : JnOk P jnM := fun n0 c o st h => by
  obtain ⟨h1, h2, h3⟩ := meet2_ok (P := P) h
  exact ⟨h1, fun N r nt a w => ⟨fun hB => ⟨r, Ren.ext.refl r _, (h3 N r nt a w).1 hB⟩, (h3 N r nt a w).2⟩⟩

/-! ### Regions that draw their order -/
/-- The first operation without effect that may come next. -/
def nextFl (seen : List Nat) : Nat → List Oper → Option Nat
  | _, [] => none
  | i, o :: os => match memN i seen, isFl o, (edg o).all fun j => memN j seen with
    | false, true, true => some i
    | _, _, _ => nextFl seen (i + 1) os
/-- An order with the given order of effects. -/
def mkL (ops : Array Oper) : Nat → List Nat → List Nat → List Nat
  | 0, _, _ => []
  | F + 1, seen, E => match nextFl seen 0 ops.toList with
    | some i => i :: mkL ops F (i :: seen) E
    | none => match E with
      | e :: E => e :: mkL ops F (e :: seen) E
      | [] => []
def ordsOf (ops : Array Oper) : List (List Nat) :=
  (exts (anc ops 6) ops.toList.length ((List.range ops.toList.length).filter (eff ops))).map fun E => mkL ops ops.toList.length [] E

def ordR (tb : Nat → Option TI) (callf : FuncId → List Value → AH → Option (Value × AH)) (nt : Nat) (ops : Array Oper) (L : List Nat) (st : St) : Option (List Rec × St) := match recs tb callf nt ops L st.s st.h with
  | some (rs, s2, h2) => match chkAll tb callf nt ops L st.h rs with
    | true => some (rs, ⟨s2, h2, st.ds⟩)
    | false => none
  | none => none
theorem ordR_St {ops : Array Oper} {L : List Nat} {st st' : St} {rs : List Rec} (h : ordR tb callf nt ops L st = some (rs, st')) : ordSt tb callf nt ops L st = some st' := by
  unfold ordR at h
  unfold ordSt
  split at h
  · rename_i rs2 s2 h2 hr
    rw [hr]
    split at h
    · rename_i hc
      injection h with h
      injection h with e1 e2
      subst e1; subst e2
      simp only [hc]
    · cases h
  · cases h

/-- Where the new ids of an operation begin. -/
def begAt (i : Nat) : List Rec → Option Nat
  | [] => none
  | r :: rs => match Nat.beq r.i i, Nat.blt r.h.n r.h'.n with
    | true, true => some r.h.n
    | true, false => none
    | false, _ => begAt i rs
/-- Where ids of the first order stand at others of the second. -/
def shS (ro : List Rec) : List Rec → Option Nat
  | [] => none
  | r :: rs => match begAt r.i ro with
    | some b => match Nat.blt r.h.n r.h'.n, Nat.beq r.h.n b with
      | true, false => some r.h.n
      | _, _ => shS ro rs
    | none => shS ro rs
def shM (ro : List Rec) (s : Nat) : List Rec → Option Nat
  | [] => none
  | r :: rs => match begAt r.i ro, Nat.blt r.h.n r.h'.n with
    | some b, true => match Nat.beq b s with
      | true => some r.h.n
      | false => shM ro s rs
    | _, _ => shM ro s rs
def shOf (n : Nat) (rc ro : List Rec) : Nat × Nat := match shS ro rc with
  | some s => match shM ro s rc with
    | some m => (s, m)
    | none => (n, n)
  | none => (n, n)

def meets (tb : Nat → Option TI) (callf : FuncId → List Value → AH → Option (Value × AH)) (nt : Nat) (ops : Array Oper) (st : St) (rc : List Rec) : St → List (List Nat) → Option St
  | c, [] => some c
  | c, L :: Ls => match ordR tb callf nt ops L st with
    | some (ro, o) => match meet2 st.h.n (shOf c.h.n rc ro).1 (shOf c.h.n rc ro).2 c o with
      | some c' => meets tb callf nt ops st rc c' Ls
      | none => none
    | none => none
theorem meets_ok {ops : Array Oper} {st st' : St} {rc : List Rec} : ∀ (Ls : List (List Nat)) (c : St), meets tb callf nt ops st rc c Ls = some st' → st.h.n ≤ c.h.n →
    st.h.n ≤ st'.h.n ∧ (∀ N r nt a w, SB P N r nt c a w → SB P N r nt st' a w) ∧
    ∀ L ∈ Ls, ∃ o, ordSt tb callf nt ops L st = some o ∧ ∀ N r nt a w, SB P N r nt o a w → ∃ r', r.ext r' st.h.n ∧ SB P N r' nt st' a w
  | [], c, h, hn => by
    simp only [meets] at h
    injection h with h
    subst h
    exact ⟨hn, fun _ _ _ _ _ h => h, fun L hL => by simp at hL⟩
  | L :: Ls, c, h, hn => by
    unfold meets at h
    split at h
    · rename_i ro o ho
      split at h
      · rename_i c' hc
        obtain ⟨q1, q2, q3⟩ := meet2_ok (P := P) hc
        obtain ⟨p1, p2, p3⟩ := meets_ok Ls c' h q1
        refine ⟨p1, fun N r nt a w hB => p2 N r nt a w ((q3 N r nt a w).1 hB), fun L' hL' => ?_⟩
        rcases List.mem_cons.1 hL' with rfl | hL'
        · refine ⟨o, ordR_St ho, fun N r nt a w hB => ?_⟩
          obtain ⟨r', e1, e2⟩ := (q3 N r nt a w).2 hB
          exact ⟨r', e1, p2 N r' nt a w e2⟩
        · exact p3 L' hL'
      · cases h
    · cases h

def drM (tb : Nat → Option TI) (callf : FuncId → List Value → AH → Option (Value × AH)) (nt : Nat) (ops : Array Oper) (st : St) : Option St := match statOk ops (ordsOf ops) with
  | true => match ordsOf ops with
    | [] => none
    | L :: Ls => match ordR tb callf nt ops L st with
      | some (rc, c) => match Nat.ble st.h.n c.h.n with
        | true => meets tb callf nt ops st rc c Ls
        | false => none
      | none => none
  | false => none

theorem drM_ok (hm : P.follows .mixedOrders = true) (htb : TbOk P tb) (hcf : CallsOk P callf) : DrOk P (drM tb callf) := by
  intro nt ops st st' h hnt N r a w id Q hB hQ
  unfold drM at h
  split at h
  · rename_i hst
    split at h
    · cases h
    · rename_i L Ls hords
      split at h
      · rename_i rc c hc
        split at h
        · rename_i hn
          have hn : st.h.n ≤ c.h.n := by simpa using hn
          obtain ⟨p1, p2, p3⟩ := meets_ok (P := P) Ls c h hn
          refine drawn_ok hm htb hcf hnt hst hB fun L' hL' => ?_
          rw [hords] at hL'
          rcases List.mem_cons.1 hL' with rfl | hL'
          · exact ⟨c, ordR_St hc, fun r' a' w' hA => hQ r' a' w' ⟨hA.1, p1, p2 _ _ _ _ _ hA.2.2.1, hA.2.2.2⟩⟩
          · obtain ⟨o, ho, hoB⟩ := p3 L' hL'
            refine ⟨o, ho, fun r' a' w' hA => ?_⟩
            obtain ⟨r2, e1, e2⟩ := hoB _ _ _ _ _ hA.2.2.1
            exact hQ r2 a' w' ⟨hA.1.trans e1 (Nat.le_refl _), p1, e2, hA.2.2.2⟩
        · cases h
      · cases h
  · cases h
end
end Go.Proofs.YtledghdlcdgepaaGreatDoor
