/- A verified abstract interpreter, part 28: an evaluation cut in pieces: a state covers another; a call whose result is known. -/
import Derived.Test.YtledghdlcdgepaaGreatDoorE27
noncomputable section
namespace Go.Proofs.YtledghdlcdgepaaGreatDoor
set_option linter.unusedVariables false
set_option linter.unusedSimpArgs false
open Go.RowKit

/-- p holds of all that a trie holds; the key of a node is a * k + b. -/
def allTr {α : Type} (p : Nat → α → Bool) : Nat → Nat → Tr α → Bool
  | _, _, .leaf => true
  | a, b, .node l v r => match (match v with
      | some x => p b x
      | none => true), allTr p (2 * a) (a + b) l, allTr p (2 * a) (2 * a + b) r with
    | true, true, true => true
    | _, _, _ => false
theorem allTr_get {α : Type} {p : Nat → α → Bool} : ∀ (t : Tr α) (a b k : Nat) (x : α), allTr p a b t = true → t.get k = some x → p (a * k + b) x = true
  | .leaf, a, b, k, x, h, hk => by simp [Tr.get_leaf] at hk
  | .node l v r, a, b, k, x, h, hk => by
    unfold allTr at h
    rw [Tr.get_node] at hk
    split at h
    · rename_i h1 h2 h3
      split at hk
      · rename_i hk0
        subst hk0
        subst hk
        simpa using h1
      · rename_i hk0
        split at hk
        · rename_i hk2
          have h4 := allTr_get r _ _ _ x h3 hk
          have e : a * k + b = 2 * a * (k / 2 - 1) + (2 * a + b) := by
            have hk2 : k = 2 * (k / 2 - 1) + 2 := by omega
            generalize k / 2 - 1 = q at hk2 ⊢
            rw [hk2, Nat.mul_add, ← Nat.mul_assoc, Nat.mul_comm a 2]
            omega
          rw [e]; exact h4
        · rename_i hk2
          have h4 := allTr_get l _ _ _ x h2 hk
          have e : a * k + b = 2 * a * (k / 2) + (a + b) := by
            have hk2 : k = 2 * (k / 2) + 1 := by omega
            generalize k / 2 = q at hk2 ⊢
            rw [hk2, Nat.mul_add, ← Nat.mul_assoc, Nat.mul_comm a 2]
            omega
          rw [e]; exact h4
    · cases h

/-- All that c says, o says. -/
def cover (c o : St) : Bool := match c.ds, o.ds, allTr (fun k v => match o.s.get k with
      | some v' => vrn c.h.n 0 0 60 v v'
      | none => false) 1 0 c.s, allTr (fun i b => match Nat.blt i c.h.n, o.h.get i with
      | true, some b' => blkB c.h.n 0 0 b b'
      | _, _ => false) 1 0 c.h.t with
  | [], [], true, true => true
  | _, _, _, _ => false
theorem sh_self (i : Nat) : sh 0 0 i = i := by
  rw [sh_eq]
  repeat' split
  all_goals omega

section
variable {P : Program} {tb : Nat → Option TI} {callf : FuncId → List Value → AH → Option (Value × AH)} {N : Nat → Prop} {r : Ren} {nt : Nat} {a : Act} {w w' : World}

theorem cover_ok {c o : St} (hc : cover c o = true) (hB : SB P N r nt o a w) : SB P N (r.sh 0 0) nt c a w := by
  unfold cover at hc
  split at hc
  · rename_i h1 h2 h3 h4
    refine ⟨⟨hB.sa.sz, fun k v hk => ?_, hB.sa.sim.shift (Nat.le_refl 0) fun i b hi => ?_⟩, ?_⟩
    · have h5 := allTr_get _ _ _ _ _ h3 hk
      rw [Nat.one_mul, Nat.add_zero] at h5
      split at h5
      · rename_i v' hv'
        obtain ⟨_, y, h6, h7⟩ := hB.sa.sl k v' hv'
        obtain ⟨h8, h9⟩ := vrn_ok _ _ _ h5
        exact ⟨h8, y, h6, h9 r y h7⟩
      · cases h5
    · have h5 := allTr_get _ _ _ _ _ h4 hi
      rw [Nat.one_mul, Nat.add_zero] at h5
      split at h5
      · rename_i b' c3 hb'
        exact ⟨blt_iff.1 c3, b', by rw [sh_self]; exact hb', h5⟩
      · cases h5
    · have hd := hB.df
      rw [h2] at hd
      rw [h1]
      cases hq : a.defers with
      | nil => trivial
      | cons d ds => rw [hq] at hd; exact hd.elim
  · cases hc

/-- A piece of code, from st; where it goes on, all of tgt holds. -/
def pieceB (tb : Nat → Option TI) (callf : FuncId → List Value → AH → Option (Value × AH)) (nt F : Nat) (c : Code) (st tgt : St) : Bool := match exec tb callf (drM tb callf) jnM nt F c st with
  | some (.normal, o) => cover tgt o
  | _ => false
def pieceX (tb : Nat → Option TI) (callf : FuncId → List Value → AH → Option (Value × AH)) (nt F id : Nat) (c : Code) (st tgt : St) : Bool := match exec tb callf (drM tb callf) jnM nt F c st with
  | some (.exit j, o) => match Nat.beq j id with
    | true => cover tgt o
    | false => false
  | _ => false

theorem piece_ok (hm : P.follows .mixedOrders = true) (htb : TbOk P tb) (hcf : CallsOk P callf) (hnt : nt < 1000000) {F : Nat} {c : Code} {st tgt : St} {Q : Exit → Act → World → Prop} (h : pieceB tb callf nt F c st tgt = true) (hB : SB P N r nt st a w)
    (hQ : ∀ r' a' w', SB P N r' nt tgt a' w' → Below N w w' → Q .normal a' w') : c.wp P Q a w := by
  unfold pieceB at h
  split at h
  · rename_i o ho
    exact (exec_ok htb hcf (drM_ok hm htb hcf) jnM_ok hnt F c st o .normal r a w Q ho hB fun r' a' w' hA => hQ _ a' w' (cover_ok h hA.2.2.1) hA.2.2.2).1
  · cases h
theorem pieceX_ok (hm : P.follows .mixedOrders = true) (htb : TbOk P tb) (hcf : CallsOk P callf) (hnt : nt < 1000000) {F id : Nat} {c : Code} {st tgt : St} {Q : Exit → Act → World → Prop} (h : pieceX tb callf nt F id c st tgt = true) (hB : SB P N r nt st a w)
    (hQ : ∀ r' a' w', SB P N r' nt tgt a' w' → Below N w w' → Q (.exit id) a' w') : c.wp P Q a w := by
  unfold pieceX at h
  split at h
  · rename_i j o ho
    split at h
    · rename_i hj
      have hj := nat_beq_true.1 hj
      subst hj
      exact (exec_ok htb hcf (drM_ok hm htb hcf) jnM_ok hnt F c st o (.exit j) r a w Q ho hB fun r' a' w' hA => hQ _ a' w' (cover_ok h hA.2.2.1) hA.2.2.2).1
    · cases h
  · cases h

/-- What leaves the old blocks alone leaves the abstract heap true. -/
theorem Sim.keep {h : AH} (hS : Sim P N r h w) (hb : ∀ k, k < w.heap.size → w'.heap[k]? = w.heap[k]?) (hs : w.heap.size ≤ w'.heap.size) : Sim P N r h w' :=
  ⟨fun i b hi => (hS.blk i b hi).ext (Ren.ext.refl r h.n) (hS.lt i b hi) (hS.bel i b hi) (hb _ (hS.blk i b hi).lt), hS.lt, hS.bel, hS.low, hS.lowm, hS.excl, hS.exclm, hS.tip, fun k hk => Nat.lt_of_lt_of_le (hS.size k hk) hs⟩

/-- A function that is called with no argument and answers true, leaving all old blocks alone. -/
def TrueCall (P : Program) (f : FuncId) : Prop := (∀ w, Calls P f #[] w fun e w' => e = .returned (.bool true) ∧ Below (fun k => k < w.heap.size) w w') ∧ ∃ fn, P.funcs[f]? = some fn ∧ fn.body.isSome = true ∧ fn.name ≠ "runtime.NumGoroutine"
def knowTrue (g : FuncId) (callf : FuncId → List Value → AH → Option (Value × AH)) (f : FuncId) (args : List Value) (h : AH) : Option (Value × AH) := match Nat.beq f g, args with
  | true, [] => some (.bool true, h)
  | _, _ => callf f args h
theorem knowTrue_ok (hcf : CallsOk P callf) {g : FuncId} (hg : TrueCall P g) : CallsOk P (knowTrue g callf) := by
  intro f args h v h' hc
  unfold knowTrue at hc
  split at hc
  · rename_i hf
    have hf := nat_beq_true.1 hf
    subst hf
    injection hc with hc
    injection hc with e1 e2
    subst e1; subst e2
    intro N r w args' hv hb hS
    have : args' = [] := List.eq_nil_of_length_eq_zero (by simpa using hv.1.symm)
    subst this
    refine .inl ⟨(hg.1 w).mono fun e w' hh => ?_, hg.2⟩
    obtain ⟨rfl, hb2⟩ := hh
    refine ⟨r, .bool true, rfl, Ren.ext.refl r _, Nat.le_refl _, hS.keep hb2.block hb2.size, hb2.mono fun k hk => hS.size k hk, .bool _, .bool _⟩
  · exact hcf _ _ _ _ _ hc

/-- From nothing: the empty heap. -/
theorem sim_empty (n : Nat) : Sim P (fun k => k < w.heap.size) ⟨fun _ => 0, fun _ => 0⟩ ⟨.leaf, n⟩ w :=
  ⟨fun i b h => by simp [AH.get, Tr.get_leaf] at h, fun i b h => by simp [AH.get, Tr.get_leaf] at h, fun i b h => by simp [AH.get, Tr.get_leaf] at h, fun i cs e x t h => by simp [AH.get, Tr.get_leaf] at h, fun i es h => by simp [AH.get, Tr.get_leaf] at h, fun i cs e pv h => by simp [AH.get, Tr.get_leaf] at h,
    fun i es h => by simp [AH.get, Tr.get_leaf] at h, fun i cs e x h => by simp [AH.get, Tr.get_leaf] at h, fun k hk => hk⟩

def ansT (x : Option (Value × AH)) : Bool := match x with
  | some (.bool true, _) => true
  | _ => false
theorem trueCall_of (hcf : CallsOk P callf) {g : FuncId} (h : ansT (callf g [] ⟨.leaf, 0⟩) = true) (hbody : ∃ fn, P.funcs[g]? = some fn ∧ fn.body.isSome = true ∧ fn.name ≠ "runtime.NumGoroutine") : TrueCall P g := by
  refine ⟨fun w => ?_, hbody⟩
  unfold ansT at h
  split at h
  · rename_i h' hc
    rcases hcf g [] _ _ _ hc (fun k => k < w.heap.size) ⟨fun _ => 0, fun _ => 0⟩ w [] VRs.nil (by simp) (sim_empty 0) with ⟨h1, _⟩ | ⟨r', v', w', h1, _⟩
    · refine h1.mono fun e w' hh => ?_
      obtain ⟨r', v', rfl, q1, q2, q3, q4, q5, q6⟩ := hh
      exact ⟨by rw [vr_bool q6], q4⟩
    · obtain ⟨fn, f1, f2, f3⟩ := hbody
      rw [callFunc_run f1 f2 f3] at h1
      cases h1
  · cases h
end
end Go.Proofs.YtledghdlcdgepaaGreatDoor
