/- A verified abstract interpreter, part 15: code. -/
import Derived.Test.YtledghdlcdgepaaGreatDoorE14
import Derived.LoopN
noncomputable section
namespace Go.Proofs.YtledghdlcdgepaaGreatDoor
set_option linter.unusedVariables false
set_option linter.unusedSimpArgs false
open Go.RowKit

inductive AX where
  | normal
  | exit (id : Nat)
  | ret

def AX.out : AX → Exit
  | .normal => .normal
  | .exit id => .exit id
  | .ret => .ret

/- The kinds of code as constants: the kernel reckons this fast. -/
abbrev XR := Option (AX × St)
abbrev XT := (Nat → Option TI) → (FuncId → List Value → AH → Option (Value × AH)) → (Nat → Array Oper → St → Option St) → (Nat → St → St → Option St) → Nat → (Code → St → XR) → St → XR
def xNorm (r : Option St) : XR := match r with
  | some st' => some (.normal, st')
  | none => none
def xSeqK (k : St → XR) (r : XR) : XR := match r with
  | some (.normal, st') => k st'
  | r => r
def xBlockK (id : Nat) (r : XR) : XR := match r with
  | some (.exit j, st') => match Nat.beq j id with
    | true => some (.normal, st')
    | false => some (.exit j, st')
  | r => r
def xJoin (jn : Nat → St → St → Option St) (n : Nat) (p q : XR) : XR := match p, q with
  | some (.normal, s1), some (.normal, s2) => match jn n s1 s2 with
    | some st' => some (.normal, st')
    | none => none
  | _, _ => none
def xSkip : XT := fun _ _ _ _ _ _ st => some (.normal, st)
def xRegion : Nat → Array Oper → Bool → XT := fun _ ops d tb callf dr _ nt _ st => xNorm (match d with | false => execOps tb callf nt ops ops.toList st | true => dr nt ops st)
def xSeq : Code → Code → XT → XT → XT := fun a b _ _ _ _ _ _ _ ih st => xSeqK (ih b) (ih a st)
def xCond : Operand → Code → Code → XT → XT → XT := fun c x y _ _ _ _ _ jn _ ih st => match aev st.s c with
  | some (.bool true) => ih x st
  | some (.bool false) => ih y st
  | some (.chan none) => xJoin jn st.h.n (ih x st) (ih y st)
  | _ => none
def xBlock : Nat → Code → XT → XT := fun id c _ _ _ _ _ _ ih st => xBlockK id (ih c st)
def xLoop : Code → XT → XT := fun c _ _ _ _ _ _ ih st => xSeqK (ih (.loop c)) (ih c st)
def xRangeFunc : Operand → Array Tmp → Code → Code → XT → XT → XT := fun _ _ _ _ _ _ _ _ _ _ _ _ _ => none
def xExit : Nat → XT := fun id _ _ _ _ _ _ st => some (.exit id, st)
def xScope : Code → XT → XT := fun _ _ _ _ _ _ _ _ _ => none
def xLabel : Nat → XT := fun _ _ _ _ _ _ _ _ => none
def xRet : XT := fun _ _ _ _ _ _ st => some (.ret, st)
def xRefuse : String → XT := fun _ _ _ _ _ _ _ _ => none
def xCode (c : Code) : XT := @Code.rec (fun _ => XT) xSkip xRegion xSeq xCond xBlock xLoop xRangeFunc xExit xScope xLabel xLabel xRet xRefuse c
def xZ : Code → St → XR := fun _ _ => none
def xS (tb : Nat → Option TI) (callf : FuncId → List Value → AH → Option (Value × AH)) (dr : Nat → Array Oper → St → Option St) (jn : Nat → St → St → Option St) (nt : Nat) : Nat → (Code → St → XR) → Code → St → XR :=
  fun _ ih c st => xCode c tb callf dr jn nt ih st
/-- The code of a frame. 'dr': a region that draws its order; 'jn': what two branches have in common. -/
def exec (tb : Nat → Option TI) (callf : FuncId → List Value → AH → Option (Value × AH)) (dr : Nat → Array Oper → St → Option St) (jn : Nat → St → St → Option St) (nt : Nat) (F : Nat) : Code → St → XR :=
  @Nat.rec (fun _ => Code → St → XR) xZ (xS tb callf dr jn nt) F
section
variable {tb : Nat → Option TI} {callf : FuncId → List Value → AH → Option (Value × AH)} {dr : Nat → Array Oper → St → Option St} {jn : Nat → St → St → Option St} {nt F : Nat} {st : St}
theorem exec_zero {c : Code} : exec tb callf dr jn nt 0 c st = none := rfl
theorem exec_skip : exec tb callf dr jn nt (F + 1) .skip st = some (.normal, st) := rfl
theorem exec_region {id : Nat} {ops : Array Oper} {d : Bool} : exec tb callf dr jn nt (F + 1) (.region id ops d) st = match (match d with | false => execOps tb callf nt ops ops.toList st | true => dr nt ops st) with
      | some st' => some (.normal, st')
      | none => none := rfl
theorem exec_seq {x y : Code} : exec tb callf dr jn nt (F + 1) (.seq x y) st = match exec tb callf dr jn nt F x st with
      | some (.normal, st') => exec tb callf dr jn nt F y st'
      | r => r := rfl
theorem exec_cond {c : Operand} {x y : Code} : exec tb callf dr jn nt (F + 1) (.cond c x y) st = match aev st.s c with
      | some (.bool true) => exec tb callf dr jn nt F x st
      | some (.bool false) => exec tb callf dr jn nt F y st
      | some (.chan none) => match exec tb callf dr jn nt F x st, exec tb callf dr jn nt F y st with
        | some (.normal, s1), some (.normal, s2) => match jn st.h.n s1 s2 with
          | some st' => some (.normal, st')
          | none => none
        | _, _ => none
      | _ => none := rfl
theorem exec_block {id : Nat} {c : Code} : exec tb callf dr jn nt (F + 1) (.block id c) st = match exec tb callf dr jn nt F c st with
      | some (.exit j, st') => match Nat.beq j id with
        | true => some (.normal, st')
        | false => some (.exit j, st')
      | r => r := rfl
theorem exec_loop {c : Code} : exec tb callf dr jn nt (F + 1) (.loop c) st = match exec tb callf dr jn nt F c st with
      | some (.normal, st') => exec tb callf dr jn nt F (.loop c) st'
      | r => r := rfl
theorem exec_exit {id : Nat} : exec tb callf dr jn nt (F + 1) (.exit id) st = some (.exit id, st) := rfl
theorem exec_ret : exec tb callf dr jn nt (F + 1) .ret st = some (.ret, st) := rfl
theorem exec_rangeFunc {f : Operand} {ps : Array Tmp} {x y : Code} : exec tb callf dr jn nt (F + 1) (.rangeFunc f ps x y) st = none := rfl
theorem exec_scope {c : Code} : exec tb callf dr jn nt (F + 1) (.scope c) st = none := rfl
theorem exec_label {l : Nat} : exec tb callf dr jn nt (F + 1) (.label l) st = none := rfl
theorem exec_goto {l : Nat} : exec tb callf dr jn nt (F + 1) (.goto l) st = none := rfl
theorem exec_refuse {m : String} : exec tb callf dr jn nt (F + 1) (.refuse m) st = none := rfl
end

/-- What holds behind code that the evaluator brings from st to st'. -/
def Aft (P : Program) (N : Nat → Prop) (nt : Nat) (st : St) (st' : St) (r : Ren) (w : World) (r' : Ren) (a' : Act) (w' : World) : Prop :=
  r.ext r' st.h.n ∧ st.h.n ≤ st'.h.n ∧ SB P N r' nt st' a' w' ∧ Below N w w'

theorem Aft.trans {P : Program} {nt : Nat} {N : Nat → Prop} {st st1 st2 : St} {r r1 r2 : Ren} {a1 a2 : Act} {w w1 w2 : World} (h : Aft P N nt st st1 r w r1 a1 w1) (h' : Aft P N nt st1 st2 r1 w1 r2 a2 w2) : Aft P N nt st st2 r w r2 a2 w2 := by
  obtain ⟨p1, p2, p3, p4⟩ := h
  obtain ⟨q1, q2, q3, q4⟩ := h'
  exact ⟨p1.trans q1 p2, Nat.le_trans p2 q2, q3, p4.trans q4⟩
theorem Aft.here {P : Program} {nt : Nat} {N : Nat → Prop} {st : St} {r : Ren} {a : Act} {w : World} (h : SB P N r nt st a w) : Aft P N nt st st r w r a w := ⟨Ren.ext.refl r _, Nat.le_refl _, h, Below.refl N w⟩

def DrOk (P : Program) (dr : Nat → Array Oper → St → Option St) : Prop :=
  ∀ nt ops st st', dr nt ops st = some st' → nt < 1000000 → ∀ N r a w id (Q : Exit → Act → World → Prop), SB P N r nt st a w →
    (∀ r' a' w', Aft P N nt st st' r w r' a' w' → Q .normal a' w') → (Code.region id ops true).wp P Q a w

/-- What two states have in common. -/
def JnOk (P : Program) (jn : Nat → St → St → Option St) : Prop :=
  ∀ n0 c o st, jn n0 c o = some st → n0 ≤ st.h.n ∧
    ∀ N r nt a w, (SB P N r nt c a w → ∃ r', r.ext r' n0 ∧ SB P N r' nt st a w) ∧ (SB P N r nt o a w → ∃ r', r.ext r' n0 ∧ SB P N r' nt st a w)

section
variable {P : Program} {tb : Nat → Option TI} {callf : FuncId → List Value → AH → Option (Value × AH)} {dr : Nat → Array Oper → St → Option St} {jn : Nat → St → St → Option St} {nt : Nat} {N : Nat → Prop}

theorem exec_ok (htb : TbOk P tb) (hcf : CallsOk P callf) (hdr : DrOk P dr) (hjn : JnOk P jn) (hnt : nt < 1000000) : ∀ (F : Nat) (c : Code) (st st' : St) (x : AX) (r : Ren) (a : Act) (w : World) (Q : Exit → Act → World → Prop),
    exec tb callf dr jn nt F c st = some (x, st') → SB P N r nt st a w → (∀ r' a' w', Aft P N nt st st' r w r' a' w' → Q x.out a' w') →
    c.wp P Q a w ∧ ∀ b, c = .loop b → Code.rounds P b Q F a w
  | 0, c, st, st', x, r, a, w, Q, he, hB, hQ => by simp [exec_zero] at he
  | F + 1, c, st, st', x, r, a, w, Q, he, hB, hQ => by
    have ih := exec_ok htb hcf hdr hjn hnt F
    cases c with
    | skip =>
      simp only [exec_zero, exec_skip, exec_region, exec_seq, exec_cond, exec_block, exec_loop, exec_exit, exec_ret] at he
      injection he with he
      injection he with h1 h2
      subst h1; subst h2
      exact ⟨wp_skip (hQ r a w (Aft.here hB)), fun b hb => by cases hb⟩
    | region id ops d =>
      refine ⟨?_, fun b hb => by cases hb⟩
      simp only [exec_zero, exec_skip, exec_region, exec_seq, exec_cond, exec_block, exec_loop, exec_exit, exec_ret] at he
      split at he
      · rename_i st1 hr
        injection he with he
        injection he with h1 h2
        subst h1; subst h2
        cases d with
        | false =>
          refine wp_region ?_
          rw [List.range_eq_range']
          exact execOps_ok htb hcf hnt ops.toList 0 st _ r a w (by simp) hr hB fun r' a' w' q1 q2 q3 q4 => hQ r' a' w' ⟨q1, q2, q3, q4⟩
        | true => exact hdr nt ops st _ hr hnt N r a w id Q hB fun r' a' w' hA => hQ r' a' w' hA
      · cases he
    | seq c1 c2 =>
      refine ⟨?_, fun b hb => by cases hb⟩
      simp only [exec_zero, exec_skip, exec_region, exec_seq, exec_cond, exec_block, exec_loop, exec_exit, exec_ret] at he
      cases h1 : exec tb callf dr jn nt F c1 st with
      | none => rw [h1] at he; cases he
      | some p =>
        obtain ⟨x1, st1⟩ := p
        rw [h1] at he
        cases x1 with
        | normal =>
          refine wp_seq (ih c1 st st1 .normal r a w _ h1 hB fun r1 a1 w1 hA1 => ?_).1
          exact (ih c2 st1 st' x r1 a1 w1 Q he hA1.2.2.1 fun r2 a2 w2 hA2 => hQ r2 a2 w2 (hA1.trans hA2)).1
        | exit j =>
          injection he with he
          injection he with e1 e2
          subst e1; subst e2
          refine wp_seq (ih c1 st _ _ r a w _ h1 hB fun r1 a1 w1 hA1 => ?_).1
          exact hQ r1 a1 w1 hA1
        | ret =>
          injection he with he
          injection he with e1 e2
          subst e1; subst e2
          refine wp_seq (ih c1 st _ _ r a w _ h1 hB fun r1 a1 w1 hA1 => ?_).1
          exact hQ r1 a1 w1 hA1
    | cond c c1 c2 =>
      refine ⟨?_, fun b hb => by cases hb⟩
      simp only [exec_zero, exec_skip, exec_region, exec_seq, exec_cond, exec_block, exec_loop, exec_exit, exec_ret] at he
      split at he
      · rename_i hc
        obtain ⟨_, hv⟩ := hB.sa.ev c _ hc
        exact wp_cond_true (vr_bool hv) (ih c1 st st' x r a w Q he hB hQ).1
      · rename_i hc
        obtain ⟨_, hv⟩ := hB.sa.ev c _ hc
        exact wp_cond_false (vr_bool hv) (ih c2 st st' x r a w Q he hB hQ).1
      · rename_i hc
        obtain ⟨_, hv⟩ := hB.sa.ev c _ hc
        generalize hcv : a.eval c = cv at hv
        split at he
        · rename_i s1 s2 h1 h2
          split at he
          · rename_i st1 hj
            injection he with he
            injection he with e1 e2
            subst e1; subst e2
            cases hv with
            | ub b =>
              cases b with
              | true =>
                refine wp_cond_true hcv (ih c1 st s1 .normal r a w Q h1 hB fun r1 a1 w1 hA1 => ?_).1
                obtain ⟨p1, p2, p3, p4⟩ := hA1
                obtain ⟨q1, q2⟩ := hjn _ _ _ _ hj
                obtain ⟨r2, q3, q4⟩ := (q2 N r1 nt a1 w1).1 p3
                exact hQ r2 a1 w1 ⟨p1.trans q3 (Nat.le_refl _), q1, q4, p4⟩
              | false =>
                refine wp_cond_false hcv (ih c2 st s2 .normal r a w Q h2 hB fun r1 a1 w1 hA1 => ?_).1
                obtain ⟨p1, p2, p3, p4⟩ := hA1
                obtain ⟨q1, q2⟩ := hjn _ _ _ _ hj
                obtain ⟨r2, q3, q4⟩ := (q2 N r1 nt a1 w1).2 p3
                exact hQ r2 a1 w1 ⟨p1.trans q3 (Nat.le_refl _), q1, q4, p4⟩
          · cases he
        · cases he
      · cases he
    | block id c =>
      refine ⟨?_, fun b hb => by cases hb⟩
      simp only [exec_zero, exec_skip, exec_region, exec_seq, exec_cond, exec_block, exec_loop, exec_exit, exec_ret] at he
      cases h1 : exec tb callf dr jn nt F c st with
      | none => rw [h1] at he; cases he
      | some p =>
        obtain ⟨x1, st1⟩ := p
        rw [h1] at he
        cases x1 with
        | normal =>
          injection he with he
          injection he with e1 e2
          subst e1; subst e2
          refine wp_block (ih c st _ _ r a w _ h1 hB fun r1 a1 w1 hA1 => ?_).1
          exact hQ r1 a1 w1 hA1
        | exit j =>
          refine wp_block (ih c st _ _ r a w _ h1 hB fun r1 a1 w1 hA1 => ?_).1
          simp only [AX.out, Exit.inBlock]
          split
          · rename_i hj
            have hb : Nat.beq j id = true := by rw [hj]; exact Nat.beq_refl id
            simp only [hb] at he
            injection he with he
            injection he with e1 e2
            subst e1; subst e2
            exact hQ r1 a1 w1 hA1
          · rename_i hj
            have hb : Nat.beq j id = false := by
              cases hbb : Nat.beq j id with
              | false => rfl
              | true => exact absurd (Nat.eq_of_beq_eq_true hbb) hj
            simp only [hb] at he
            injection he with he
            injection he with e1 e2
            subst e1; subst e2
            exact hQ r1 a1 w1 hA1
        | ret =>
          injection he with he
          injection he with e1 e2
          subst e1; subst e2
          refine wp_block (ih c st _ _ r a w _ h1 hB fun r1 a1 w1 hA1 => ?_).1
          exact hQ r1 a1 w1 hA1
    | loop c =>
      have key : Code.rounds P c Q (F + 1) a w := by
        simp only [exec_zero, exec_skip, exec_region, exec_seq, exec_cond, exec_block, exec_loop, exec_exit, exec_ret] at he
        rw [rounds_succ]
        cases h1 : exec tb callf dr jn nt F c st with
        | none => rw [h1] at he; cases he
        | some p =>
          obtain ⟨x1, st1⟩ := p
          rw [h1] at he
          cases x1 with
          | normal =>
            refine (ih c st st1 .normal r a w _ h1 hB fun r1 a1 w1 hA1 => ?_).1
            exact (ih (.loop c) st1 st' x r1 a1 w1 Q he hA1.2.2.1 fun r2 a2 w2 hA2 => hQ r2 a2 w2 (hA1.trans hA2)).2 c rfl
          | exit j =>
            injection he with he
            injection he with e1 e2
            subst e1; subst e2
            refine (ih c st _ _ r a w _ h1 hB fun r1 a1 w1 hA1 => ?_).1
            exact hQ r1 a1 w1 hA1
          | ret =>
            injection he with he
            injection he with e1 e2
            subst e1; subst e2
            refine (ih c st _ _ r a w _ h1 hB fun r1 a1 w1 hA1 => ?_).1
            exact hQ r1 a1 w1 hA1
      exact ⟨wp_loop_rounds (F + 1) key, fun b hb => by injection hb with hb; subst hb; exact key⟩
    | exit id =>
      refine ⟨?_, fun b hb => by cases hb⟩
      simp only [exec_zero, exec_skip, exec_region, exec_seq, exec_cond, exec_block, exec_loop, exec_exit, exec_ret] at he
      injection he with he
      injection he with h1 h2
      subst h1; subst h2
      exact wp_exit (hQ r a w (Aft.here hB))
    | ret =>
      refine ⟨?_, fun b hb => by cases hb⟩
      simp only [exec_zero, exec_skip, exec_region, exec_seq, exec_cond, exec_block, exec_loop, exec_exit, exec_ret] at he
      injection he with he
      injection he with h1 h2
      subst h1; subst h2
      exact wp_ret (hQ r a w (Aft.here hB))
    | rangeFunc => simp [exec_rangeFunc] at he
    | scope => simp [exec_scope] at he
    | label => simp [exec_label] at he
    | goto => simp [exec_goto] at he
    | refuse => simp [exec_refuse] at he
end
end Go.Proofs.YtledghdlcdgepaaGreatDoor
