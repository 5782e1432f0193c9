/- A verified abstract interpreter, part 14: plain regions, code. -/
import Derived.Test.YtledghdlcdgepaaGreatDoorE13e
noncomputable section
namespace Go.Proofs.YtledghdlcdgepaaGreatDoor
set_option linter.unusedVariables false
set_option linter.unusedSimpArgs false
open Go.RowKit

/-- The state of a frame: its slots, the heap, its deferred calls. -/
structure St where
  s : Tr Value
  h : AH
  ds : List (FuncId × List Value)

def DR (r : Ren) (n : Nat) (d : FuncId × List Value) (dd : Deferred) : Prop :=
  ∃ cap args : Array Value, dd.target = .fn (.func d.1) cap ∧ dd.args = args ∧ VRs r d.2 (args.toList ++ cap.toList) ∧ ∀ x ∈ d.2, Bel n x
def DRs (r : Ren) (n : Nat) : List (FuncId × List Value) → List Deferred → Prop
  | [], [] => True
  | d :: ds, e :: es => DR r n d e ∧ DRs r n ds es
  | _, _ => False
theorem DRs.ext {r r' : Ren} {n m : Nat} (he : r.ext r' n) (hm : n ≤ m) : ∀ {ds : List (FuncId × List Value)} {es : List Deferred}, DRs r n ds es → DRs r' m ds es
  | [], [], _ => trivial
  | [], _ :: _, h => h.elim
  | _ :: _, [], h => h.elim
  | d :: ds, e :: es, h => by
    obtain ⟨⟨cap, args, h1, h2, h3, h4⟩, h5⟩ := h
    exact ⟨⟨cap, args, h1, h2, h3.ext he h4, fun x hx => (h4 x hx).mono hm⟩, h5.ext he hm⟩

structure SB (P : Program) (N : Nat → Prop) (r : Ren) (nt : Nat) (st : St) (a : Act) (w : World) : Prop where
  sa : SA P N r nt st.s st.h a w
  df : DRs r st.h.n st.ds a.defers

def wantedA (ops : Array Oper) (s : Tr Value) (o : Oper) : Option Bool := match o.guard with
  | none => some true
  | some (j, b) => match ops.toList[j]? with
    | some oj => match oj.dst with
      | some d => match s.get d with
        | some (.bool c) => some (c == b)
        | some (.tuple _) => some false
        | _ => none
      | none => some false
    | none => some false

section
variable {P : Program} {tb : Nat → Option TI} {callf : FuncId → List Value → AH → Option (Value × AH)} {r r' : Ren} {n nt : Nat} {N : Nat → Prop} {a : Act} {s : Tr Value} {h h' : AH} {w w' : World}

theorem wanted_ok {ops : Array Oper} {o : Oper} {b : Bool} (hv : wantedA ops s o = some b) (hA : SA P N r nt s h a w) : Region.wanted o (yielded ops a.tmps) = b := by
  unfold wantedA at hv
  unfold Region.wanted
  split at hv
  · rename_i hg
    injection hv with hv
    rw [hg]
    exact hv
  · rename_i j bb hg
    rw [hg]
    simp only
    split at hv
    · rename_i oj hj
      have hj' : ops[j]? = some oj := by simpa using hj
      split at hv
      · rename_i d hd
        split at hv
        · rename_i c hc
          injection hv with hv
          obtain ⟨_, v', h2, h3⟩ := hA.sl d _ hc
          have := vr_bool h3
          subst this
          have hy : yielded ops a.tmps j = some c := by simp [yielded, hj', hd, h2]
          rw [hy, ← hv]
          cases c <;> cases bb <;> rfl
        · rename_i vs hc
          injection hv with hv
          obtain ⟨_, v', h2, h3⟩ := hA.sl d _ hc
          obtain ⟨cs', h4, _⟩ := vr_tuple h3
          have hy : yielded ops a.tmps j = none := by simp [yielded, hj', hd, h2, h4]
          rw [hy, ← hv]
          rfl
        · cases hv
      · rename_i hd
        injection hv with hv
        have hy : yielded ops a.tmps j = none := by simp [yielded, hj', hd]
        rw [hy, ← hv]
        rfl
    · rename_i hj
      injection hv with hv
      have hj' : ops[j]? = none := by simpa using hj
      have hy : yielded ops a.tmps j = none := by simp [yielded, hj']
      rw [hy, ← hv]
      rfl

/-- A deferred call. -/
def aDefer (st : St) (o : Oper) : Option St := match o.op with
  | .defer ⟨.value f, args, _⟩ => match aev st.s f, aEvs (aev st.s) args.toList with
    | some (.func (.func g) _ cap), some vs => some ⟨sput st.s o.dst undef, st.h, (g, vs ++ cap.toList) :: st.ds⟩
    | _, _ => none
  | _ => none

def opsN : St → Option St := fun st => some st
/-- The operation has been done (or not). -/
def opsK (tb : Nat → Option TI) (st : St) (o : Oper) (ih : St → Option St) (r : Option (Value × AH)) : Option St := match r with
  | some (v, h') => ih ⟨sput st.s o.dst v, h', st.ds⟩
  | none => match aOpX tb (aev st.s) st.h o with
    | some (v, h') => ih ⟨sput st.s o.dst v, h', st.ds⟩
    | none => match aDefer st o with
      | some st' => ih st'
      | none => none
def opsC (tb : Nat → Option TI) (callf : FuncId → List Value → AH → Option (Value × AH)) (nt : Nat) (ops : Array Oper) : Oper → List Oper → (St → Option St) → St → Option St := fun o _ ih st =>
  match dOk nt o.dst, wantedA ops st.s o with
    | true, some true => opsK tb st o ih (aStep tb callf st.s st.h o)
    | true, some false => ih ⟨sput st.s o.dst undef, st.h, st.ds⟩
    | _, _ => none
def execOps (tb : Nat → Option TI) (callf : FuncId → List Value → AH → Option (Value × AH)) (nt : Nat) (ops : Array Oper) (l : List Oper) : St → Option St := @List.rec Oper (fun _ => St → Option St) opsN (opsC tb callf nt ops) l
theorem execOps_nil {nt : Nat} {ops : Array Oper} {st : St} : execOps tb callf nt ops [] st = some st := rfl
theorem execOps_cons {nt : Nat} {ops : Array Oper} {o : Oper} {rest : List Oper} {st : St} : execOps tb callf nt ops (o :: rest) st = match dOk nt o.dst, wantedA ops st.s o with
    | true, some true => match aStep tb callf st.s st.h o with
      | some (v, h') => execOps tb callf nt ops rest ⟨sput st.s o.dst v, h', st.ds⟩
      | none => match aOpX tb (aev st.s) st.h o with
        | some (v, h') => execOps tb callf nt ops rest ⟨sput st.s o.dst v, h', st.ds⟩
        | none => match aDefer st o with
          | some st' => execOps tb callf nt ops rest st'
          | none => none
    | true, some false => execOps tb callf nt ops rest ⟨sput st.s o.dst undef, st.h, st.ds⟩
    | _, _ => none := rfl

theorem SB.putSame {st : St} (hB : SB P N r nt st a w) (hnt : nt < 1000000) {d : Option Tmp} (hd : dOk nt d = true) : SB P N r nt ⟨sput st.s d undef, st.h, st.ds⟩ (a.put d undef) w := by
  refine ⟨hB.sa.put hnt hd (Ren.ext.refl r _) (Nat.le_refl _) bel_undef vr_undef hB.sa.sim, ?_⟩
  have : (a.put d undef).defers = a.defers := by cases d <;> rfl
  rw [this]
  exact hB.df

theorem stepX_ok (htb : TbOk P tb) {o : Oper} {v : Value} (hv : aOpX tb (aev s) h o = some (v, h')) (hA : SA P N r nt s h a w)
    {K : Act → World → Prop} {Q : Exit → Act → World → Prop}
    (hK : ∀ r' v' w', r.ext r' h.n → h.n ≤ h'.n → Sim P N r' h' w' → Below N w w' → Bel h'.n v → VR r' v v' → K (a.put o.dst v') w') : o.wp P a w K Q := by
  obtain ⟨r', v', w', q1, q2, q3, q4, q5, q6, q7⟩ := aOpX_ok (N := N) (w := w) htb hv hA.ev hA.sim
  unfold Oper.wp
  rcases q7 with q7 | ⟨q7, rfl, rfl⟩
  · rw [q7]; exact hK r' v' w' q1 q2 q3 q4 q5 q6
  · rw [q7]; exact hK r' undef w' q1 q2 q3 q4 q5 q6

theorem execOps_ok (htb : TbOk P tb) (hcf : CallsOk P callf) (hnt : nt < 1000000) {ops : Array Oper} {Q : Exit → Act → World → Prop} : ∀ (l : List Oper) (k : Nat) (st st' : St) (r : Ren) (a : Act) (w : World), l = ops.toList.drop k →
    execOps tb callf nt ops l st = some st' → SB P N r nt st a w →
    (∀ r' a' w', r.ext r' st.h.n → st.h.n ≤ st'.h.n → SB P N r' nt st' a' w' → Below N w w' → Q .normal a' w') → wpOps P ops Q (List.range' k l.length) a w
  | [], k, st, st', r, a, w, hl, he, hB, hQ => by
    rw [execOps_nil] at he
    injection he with he
    subst he
    exact hQ r a w (Ren.ext.refl r _) (Nat.le_refl _) hB (Below.refl N w)
  | o :: rest, k, st, st', r, a, w, hl, he, hB, hQ => by
    have hk : ops[k]? = some o := by
      have : (ops.toList.drop k)[0]? = some o := by rw [← hl]; rfl
      simpa using this
    have hrest : rest = ops.toList.drop (k + 1) := by
      have : (ops.toList.drop k).tail = rest := by rw [← hl]; rfl
      rw [← this, List.tail_drop]
    simp only [List.length_cons, List.range'_succ, wpOps, hk]
    rw [execOps_cons] at he
    split at he
    · rename_i hd hw
      rw [wanted_ok hw hB.sa]
      simp only [if_true]
      split at he
      · rename_i v h' hs
        refine .inl (step_ok htb hcf hs hB.sa fun r2 v2 w2 q1 q2 q3 q4 q5 q6 => ?_)
        have hB2 : SB P N r2 nt ⟨sput st.s o.dst v, h', st.ds⟩ (a.put o.dst v2) w2 := by
          refine ⟨hB.sa.put hnt hd q1 q2 q5 q6 q3, ?_⟩
          have : (a.put o.dst v2).defers = a.defers := by cases o.dst <;> rfl
          rw [this]
          exact hB.df.ext q1 q2
        exact execOps_ok htb hcf hnt rest (k + 1) _ st' r2 _ w2 hrest he hB2 fun r3 a3 w3 p1 p2 p3 p4 => hQ r3 a3 w3 (q1.trans p1 q2) (Nat.le_trans q2 p2) p3 (q4.trans p4)
      · split at he
        · rename_i v h' hs
          refine .inl (stepX_ok htb hs hB.sa fun r2 v2 w2 q1 q2 q3 q4 q5 q6 => ?_)
          have hB2 : SB P N r2 nt ⟨sput st.s o.dst v, h', st.ds⟩ (a.put o.dst v2) w2 := by
            refine ⟨hB.sa.put hnt hd q1 q2 q5 q6 q3, ?_⟩
            have : (a.put o.dst v2).defers = a.defers := by cases o.dst <;> rfl
            rw [this]
            exact hB.df.ext q1 q2
          exact execOps_ok htb hcf hnt rest (k + 1) _ st' r2 _ w2 hrest he hB2 fun r3 a3 w3 p1 p2 p3 p4 => hQ r3 a3 w3 (q1.trans p1 q2) (Nat.le_trans q2 p2) p3 (q4.trans p4)
        · split at he
          · rename_i st2 hdf
            unfold aDefer at hdf
            split at hdf
            · rename_i f args ats ho
              split at hdf
              · rename_i g fi cap vs hf hvs
                injection hdf with hdf
                subst hdf
                have hev := hB.sa.ev
                obtain ⟨bf, hfr⟩ := hev f _ hf
                obtain ⟨h1, h2⟩ := evs_ok hev _ _ hvs
                generalize hg : a.eval f = fv at hfr
                cases hfr with
                | func _ cs cs' hl hh =>
                  have hbc : ∀ x ∈ cs, Bel st.h.n x := by
                    cases bf with
                    | func _ _ hb => intro x hx; obtain ⟨k, hk, e⟩ := List.mem_iff_getElem.1 hx; exact hb k x (by rw [← e]; simp)
                  have hrun : (execOp a.eval o).run P w = .ok (.defer { target := .fn (.func g) cs'.toArray, args := #[] ++ args.map a.eval }) w := by
                    simp only [execOp, ho, resolve, hg, Deferred.ofValue, Sem.run_bind, Sem.run_pure, Result.andThen_ok]
                  refine .inl ?_
                  unfold Oper.wp
                  rw [hrun, Oper.upon_defer]
                  have hB2 : SB P N r nt ⟨sput st.s o.dst undef, st.h, (g, vs ++ cs.toArray.toList) :: st.ds⟩ ({ a with defers := { target := .fn (.func g) cs'.toArray, args := #[] ++ args.map a.eval } :: a.defers }.put o.dst undef) w := by
                    have hA2 : SA P N r nt st.s st.h { a with defers := { target := .fn (.func g) cs'.toArray, args := #[] ++ args.map a.eval } :: a.defers } w := ⟨hB.sa.sz, hB.sa.sl, hB.sa.sim⟩
                    refine ⟨hA2.put hnt hd (Ren.ext.refl r _) (Nat.le_refl _) bel_undef vr_undef hB.sa.sim, ?_⟩
                    have : ({ a with defers := { target := .fn (.func g) cs'.toArray, args := #[] ++ args.map a.eval } :: a.defers }.put o.dst undef : Act).defers = { target := .fn (.func g) cs'.toArray, args := #[] ++ args.map a.eval } :: a.defers := by cases o.dst <;> rfl
                    rw [this]
                    refine ⟨⟨cs'.toArray, #[] ++ args.map a.eval, rfl, rfl, ?_, fun x hx => ?_⟩, hB.df⟩
                    · have := h1.append (⟨hl, hh⟩ : VRs r cs cs')
                      simpa using this
                    · rcases List.mem_append.1 hx with hx | hx
                      · exact h2 x hx
                      · exact hbc x (by simpa using hx)
                  exact execOps_ok htb hcf hnt rest (k + 1) _ st' r _ w hrest he hB2 hQ
              · cases hdf
            · cases hdf
          · cases he
    · rename_i hd hw
      rw [wanted_ok hw hB.sa]
      simp only [Bool.false_eq_true, if_false]
      exact execOps_ok htb hcf hnt rest (k + 1) _ st' r _ w hrest he (hB.putSame hnt hd) hQ
    · cases he
end
end Go.Proofs.YtledghdlcdgepaaGreatDoor
