/- A verified abstract interpreter, part 25: calls. -/
import Derived.Test.YtledghdlcdgepaaGreatDoorE24
import Derived.Recover
noncomputable section
namespace Go.Proofs.YtledghdlcdgepaaGreatDoor
set_option linter.unusedVariables false
set_option linter.unusedSimpArgs false
open Go.RowKit

/-- The slots of a frame that begins. -/
def slotsL : Nat → List Value → Tr Value → Tr Value
  | _, [], s => s
  | k, v :: vs, s => slotsL (k + 1) vs (Tr.put 24 s k v)
theorem slotsL_get : ∀ (l : List Value) (k : Nat) (s : Tr Value) (j : Nat) (v : Value), k + l.length < 1000000 → (slotsL k l s).get j = some v → (k ≤ j ∧ l[j - k]? = some v) ∨ ((j < k ∨ k + l.length ≤ j) ∧ s.get j = some v)
  | [], k, s, j, v, hl, h => by
    right
    simp only [slotsL] at h
    exact ⟨by simp; omega, h⟩
  | x :: l, k, s, j, v, hl, h => by
    simp only [slotsL] at h
    simp only [List.length_cons] at hl
    have hk : k + 1 < 2 ^ 24 := by omega
    rcases slotsL_get l (k + 1) _ j v (by omega) h with ⟨h1, h2⟩ | ⟨h1, h2⟩
    · left
      refine ⟨by omega, ?_⟩
      rw [show j - k = (j - (k + 1)) + 1 by omega]
      simpa using h2
    · rw [Tr.get_put 24 s k x j hk] at h2
      split at h2
      · rename_i hj
        left
        injection h2 with h2
        subst hj; subst h2
        simp
      · rename_i hj
        right
        refine ⟨by simp only [List.length_cons]; omega, h2⟩

def aRes (tb : Nat → Option TI) (s : Tr Value) (h : AH) : List ResultVar → Option (List Value)
  | [] => some []
  | rv :: l => match (match rv with
      | .tmp t => s.get t
      | .cell a t => aLoad tb (aev s) h t (.tmp a)) with
    | some v => match aRes tb s h l with
      | some vs => some (v :: vs)
      | none => none
    | none => none
def tupV (l : List Value) : Value := match l with
  | [v] => v
  | l => .tuple l.toArray

section
variable {P : Program} {tb : Nat → Option TI} {r : Ren} {n nt : Nat} {N : Nat → Prop} {a : Act} {s : Tr Value} {h h' : AH} {w : World}

theorem load_var {t ad : Nat} {v : Value} (htb : TbOk P tb) (hv : aLoad tb (aev s) h t (.tmp ad) = some v) (he : EvOk r h.n (aev s) a) (hS : Sim P N r h w) :
    Bel h.n v ∧ ∃ v', VR r v v' ∧ (do loadVar t (← asAddr (a.tmps.getD ad undef)) : Sem Value).run P w = .ok v' w := by
  obtain ⟨h1, v', h2, h3⟩ := load_ok (o := { (default : Oper) with op := .load t (.tmp ad) }) rfl htb hv he hS
  refine ⟨h1, v', h2, ?_⟩
  simp only [execOp, Instr.loadAt, Act.eval, Sem.run_bind] at h3
  generalize hg : a.tmps.getD ad undef = x at h3 ⊢
  unfold aLoad at hv
  split at hv
  · rename_i i o hx
    obtain ⟨_, hx⟩ := he _ _ hx
    simp only [Act.eval] at hx
    rw [hg] at hx
    cases hx
    simp only [Instr.sureAddr, Sem.run_pure, Result.andThen_ok] at h3
    simp only [asAddr, Sem.run_bind, Sem.run_pure, Result.andThen_ok]
    generalize hr : (loadVar t ⟨r.φ i, o, none⟩).run P w = res at h3
    cases res with
    | ok u w2 =>
      simp only [Result.andThen_ok] at h3
      injection h3 with h3 h4
      injection h3 with h3
      rw [h3, h4]
    | halt x w2 => simp [Result.andThen] at h3
  · cases hv

theorem res_list {tmps : Array Value} (htb : TbOk P tb) (he : EvOk r h.n (aev s) a) (ht : tmps = a.tmps) (hsl : ∀ k v, s.get k = some v → Bel h.n v ∧ ∃ v', a.tmps[k]? = some v' ∧ VR r v v') (hS : Sim P N r h w) : ∀ (l : List ResultVar) (vs : List Value), aRes tb s h l = some vs →
    (∀ x ∈ vs, Bel h.n x) ∧ ∃ vs' : List Value, VRs r vs vs' ∧ (l.mapM (fun
      | .tmp t => pure (tmps.getD t undef)
      | .cell a t => do loadVar t (← asAddr (tmps.getD a undef))) : Sem (List Value)).run P w = .ok vs' w
  | [], vs, hv => by
    simp only [aRes] at hv
    injection hv with hv; subst hv
    exact ⟨by simp, [], VRs.nil, rfl⟩
  | rv :: l, vs, hv => by
    unfold aRes at hv
    split at hv
    · rename_i v hrv
      split at hv
      · rename_i us hus
        injection hv with hv; subst hv
        obtain ⟨h1, vs', h2, h3⟩ := res_list htb he ht hsl hS l us hus
        have hone : Bel h.n v ∧ ∃ v', VR r v v' ∧ ((fun
          | .tmp t => pure (tmps.getD t undef)
          | .cell a t => do loadVar t (← asAddr (tmps.getD a undef)) : ResultVar → Sem Value) rv).run P w = .ok v' w := by
          cases rv with
          | tmp t =>
            obtain ⟨q1, v', q2, q3⟩ := hsl t v hrv
            exact ⟨q1, v', q3, by subst ht; simp [Array.getD_eq_getD_getElem?, q2]⟩
          | cell ad t => subst ht; exact load_var htb hrv he hS
        obtain ⟨q1, v', q2, q3⟩ := hone
        refine ⟨by simpa using ⟨q1, h1⟩, v' :: vs', VRs.cons q2 h2, ?_⟩
        rw [List.mapM_cons]
        simp only [Sem.run_bind]
        rw [q3]
        simp only [Result.andThen_ok]
        rw [h3]
        rfl
      · cases hv
    · cases hv

theorem results_ok {fn : Func} {vs : List Value} (htb : TbOk P tb) (hA : SA P N r nt s h a w) (hv : aRes tb s h fn.results.toList = some vs) :
    Bel h.n (tupV vs) ∧ ∃ v', VR r (tupV vs) v' ∧ (results fn a.tmps).run P w = .ok v' w := by
  obtain ⟨h1, vs', h2, h3⟩ := res_list htb hA.ev rfl hA.sl hA.sim _ _ hv
  have hrun : (results fn a.tmps).run P w = .ok (if hh : vs'.toArray.size = 1 then vs'.toArray[0] else .tuple vs'.toArray) w := by
    unfold results
    rw [Array.mapM_eq_mapM_toList]
    simp only [Sem.run_bind, Sem.run_map]
    erw [h3]
    rfl
  refine ⟨?_, _, ?_, hrun⟩
  · unfold tupV
    split
    · exact h1 _ (by simp)
    · exact .tuple _ fun k x hx => h1 x (List.mem_of_getElem? hx)
  · unfold tupV
    split
    · rename_i v
      have hl : vs'.length = 1 := by simpa using h2.1.symm
      obtain ⟨v', rfl⟩ : ∃ v', vs' = [v'] := List.length_eq_one_iff.1 hl
      simp only [List.size_toArray, List.length_cons, List.length_nil, dite_true]
      exact h2.2 0 v v' rfl rfl
    · rename_i hne
      have hl : ¬ vs'.toArray.size = 1 := fun hl => by
        have : vs.length = 1 := by rw [h2.1]; simpa using hl
        obtain ⟨v, hv2⟩ := List.length_eq_one_iff.1 this
        exact hne v hv2
      rw [dif_neg hl]
      exact mk_tuple h2
end

/-! ### Deferred calls: a body that asks 'recover' first, and there was no panic -/
def recNil (P : Program) (tb : Nat → Option TI) (f : FuncId) (args : List Value) (h : AH) : Option AH := match P.funcs.toList[f]? with
  | some fn => match fn.body, fn.results.toList, Nat.blt fn.ntmps 1000000, Nat.ble args.length fn.ntmps with
    | some (.seq (.region _ ⟨[o]⟩ false) rest), [], true, true => match o.op, o.guard, dOk fn.ntmps o.dst with
      | .call ⟨.builtin .recover, ⟨[]⟩, _⟩, none, true => match exec tb (fun _ _ _ => none) (fun _ _ _ => none) jnM fn.ntmps 1000 rest ⟨sput (slotsL 0 args .leaf) o.dst .nilIface, h, []⟩ with
        | some (.normal, st) => match st.ds with
          | [] => some st.h
          | _ => none
        | some (.ret, st) => match st.ds with
          | [] => some st.h
          | _ => none
        | _ => none
      | _, _, _ => none
    | _, _, _, _ => none
  | none => none
def leaveA (P : Program) (tb : Nat → Option TI) : List (FuncId × List Value) → AH → Option AH
  | [], h => some h
  | (f, args) :: ds, h => match recNil P tb f args h with
    | some h' => leaveA P tb ds h'
    | none => none

section
variable {P : Program} {tb : Nat → Option TI} {r : Ren} {n nt : Nat} {N : Nat → Prop} {a : Act} {s : Tr Value} {h h' : AH} {w : World}

theorem begin_sa {args args' : List Value} (hv : VRs r args args') (hb : ∀ x ∈ args, Bel h.n x) (hS : Sim P N r h w) (hl : args.length ≤ nt) (hnt : nt < 1000000) :
    SA P N r nt (slotsL 0 args .leaf) h { tmps := args'.toArray ++ Array.replicate (nt - args'.toArray.size) undef, defers := [] } w := by
  have hl2 := hv.1
  refine ⟨by simp; omega, fun k v hk => ?_, hS⟩
  rcases slotsL_get args 0 .leaf k v (by omega) hk with ⟨_, h2⟩ | ⟨_, h2⟩
  · rw [Nat.sub_zero] at h2
    obtain ⟨y, h3, h4⟩ := hv.at_ h2
    refine ⟨hb v (List.mem_of_getElem? h2), y, ?_, h4⟩
    have hk3 : k < args'.length := (List.getElem?_eq_some_iff.1 h3).1
    show (args'.toArray ++ _)[k]? = _
    rw [Array.getElem?_append_left (by simpa using hk3)]
    simpa using h3
  · simp [Tr.get_leaf] at h2

theorem none_calls : CallsOk P (fun _ _ _ => none) := fun f args h v h' hh => by cases hh
theorem none_dr : DrOk P (fun _ _ _ => none) := fun nt ops st st' hh => by cases hh

theorem recNil_ok (htb : TbOk P tb) {f : FuncId} {args args' : List Value} (hr : recNil P tb f args h = some h') (hv : VRs r args args') (hb : ∀ x ∈ args, Bel h.n x) (hS : Sim P N r h w) :
    (∃ fn, P.funcs[f]? = some fn ∧ fn.body.isSome = true) ∧ CallsD P f args'.toArray .returning w fun e u' w' => u' = .returning ∧ ∃ v r', e = .returned v ∧ r.ext r' h.n ∧ h.n ≤ h'.n ∧ Sim P N r' h' w' ∧ Below N w w' := by
  unfold recNil at hr
  split at hr
  · rename_i fn hfn
    have hfn' : P.funcs[f]? = some fn := by simpa using hfn
    split at hr
    · rename_i id o rest hbody hres hnt hlen
      have hnt : fn.ntmps < 1000000 := by simpa using hnt
      have hlen : args.length ≤ fn.ntmps := by simpa using hlen
      have hres : fn.results = #[] := by cases hq : fn.results; rw [hq] at hres; simp at hres; subst hres; rfl
      split at hr
      · rename_i ats hop hg hd
        refine ⟨⟨fn, hfn', by rw [hbody]; rfl⟩, callsD_of_wpS hfn' hbody fun c₀ cs hc => ?_⟩
        have hA := begin_sa hv hb hS hlen hnt
        have hA2 := hA.put hnt hd (Ren.ext.refl r h.n) (Nat.le_refl _) (.inil) (.inil) hS
        have hB2 : SB P N r fn.ntmps ⟨sput (slotsL 0 args .leaf) o.dst .nilIface, h, []⟩ (Act.put { tmps := args'.toArray ++ Array.replicate (fn.ntmps - args'.toArray.size) undef, defers := [] } o.dst .nilIface) w := by
          refine ⟨hA2, ?_⟩
          rw [put_defers]
          trivial
        -- the rest
        obtain ⟨x, st, hex, hxx, hds, hh'⟩ : ∃ x st, exec tb (fun _ _ _ => none) (fun _ _ _ => none) jnM fn.ntmps 1000 rest ⟨sput (slotsL 0 args .leaf) o.dst .nilIface, h, []⟩ = some (x, st) ∧ (x = .normal ∨ x = .ret) ∧ st.ds = [] ∧ st.h = h' := by
          split at hr
          · rename_i st hex
            split at hr
            · rename_i hds
              injection hr with hr
              exact ⟨_, st, hex, .inl rfl, hds, hr⟩
            · cases hr
          · rename_i st hex
            split at hr
            · rename_i hds
              injection hr with hr
              exact ⟨_, st, hex, .inr rfl, hds, hr⟩
            · cases hr
          · cases hr
        have hrest : rest.wp P (fun e a' w' => bodyPostS P fn c₀ cs (fun e u' w' => u' = .returning ∧ ∃ v r', e = .returned v ∧ r.ext r' h.n ∧ h.n ≤ h'.n ∧ Sim P N r' h' w' ∧ Below N w w') e a' (c₀ :: cs) w') (Act.put { tmps := args'.toArray ++ Array.replicate (fn.ntmps - args'.toArray.size) undef, defers := [] } o.dst .nilIface) w := by
          refine (exec_ok htb none_calls none_dr jnM_ok hnt 1000 rest _ st x r _ w _ hex hB2 fun r' a' w' hA' => ?_).1
          obtain ⟨p1, p2, p3, p4⟩ := hA'
          have hdf := p3.df
          rw [hds] at hdf
          have hdn : a'.defers = [] := by
            cases hq : a'.defers with
            | nil => rfl
            | cons d ds => rw [hq] at hdf; exact hdf.elim
          have hrr : (results fn a'.tmps).run P w' = .ok (.tuple #[]) w' := by
            unfold results
            rw [hres]
            simp [Sem.run_bind]
          have hc0 : (c₀ :: cs) = { c₀ with mode := .returning } :: cs := by rw [← hc]
          have hfin : a'.defers = [] ∧ ∃ u', (c₀ :: cs) = { c₀ with mode := u' } :: cs ∧ ∃ v, (results fn a'.tmps).run P w' = .ok v w' ∧ (u' = .returning ∧ ∃ v2 r', (Ending.returned v) = .returned v2 ∧ r.ext r' h.n ∧ h.n ≤ h'.n ∧ Sim P N r' h' w' ∧ Below N w w') := by
            refine ⟨hdn, .returning, hc0, _, hrr, rfl, _, r', rfl, p1, ?_, ?_, p4⟩
            · rw [← hh']; exact p2
            · rw [← hh']; exact p3.sa.sim
          rcases hxx with rfl | rfl
          · exact hfin
          · exact hfin
        refine wpS_seq (wpS_region ?_)
        have hrun : (execOp (Act.eval { tmps := args'.toArray ++ Array.replicate (fn.ntmps - args'.toArray.size) undef, defers := [] }) o).run P w = .ok .recover w := by
          simp [execOp, hop, resolve, invoke, builtin, Sem.run_bind]
        have hl1 : List.range (Array.mk [o]).size = [0] := rfl
        rw [hl1]
        have hget : (Array.mk [o])[0]? = some o := rfl
        have hwant : Region.wanted o (yielded ⟨[o]⟩ (args'.toArray ++ Array.replicate (fn.ntmps - args'.toArray.size) undef)) = true := by
          unfold Region.wanted
          rw [hg]
        have hrec : recoverD (c₀ :: cs) = none := by simp [recoverD, hc]
        simp only [wpOpsS, hget, hwant, if_true, hrun, hrec, Exit.thenS]
        exact wpS_of_wp hrest
      · cases hr
    · cases hr
  · cases hr

theorem leave_ok (htb : TbOk P tb) (hnm : ∀ (f : Nat) (fn : Func), P.funcs[f]? = some fn → fn.name ≠ "runtime.NumGoroutine") {fn : Func} {tmps : Array Value} {R : Ending → World → Prop} : ∀ (ds : List (FuncId × List Value)) (es : List Deferred) (r : Ren) (h h' : AH) (w : World),
    leaveA P tb ds h = some h' → DRs r h.n ds es → Sim P N r h w →
    (∀ r' w', r.ext r' h.n → h.n ≤ h'.n → Sim P N r' h' w' → Below N w w' → ∃ v, (results fn tmps).run P w' = .ok v w' ∧ R (.returned v) w') → Leaves P fn tmps R es .returning w
  | [], [], r, h, h', w, hl, hd, hS, hR => by
    simp only [leaveA] at hl
    injection hl with hl
    subst hl
    exact hR r w (Ren.ext.refl r _) (Nat.le_refl _) hS (Below.refl N w)
  | [], _ :: _, r, h, h', w, hl, hd, hS, hR => hd.elim
  | _ :: _, [], r, h, h', w, hl, hd, hS, hR => hd.elim
  | (f, args) :: ds, e :: es, r, h, h', w, hl, hd, hS, hR => by
    obtain ⟨⟨cap, args2, h1, h2, h3, h4⟩, h5⟩ := hd
    simp only [leaveA] at hl
    split at hl
    · rename_i h1' hrec
      obtain ⟨⟨fn2, g1, g2⟩, hcd⟩ := recNil_ok (N := N) (w := w) htb hrec h3 h4 hS
      obtain ⟨tgt, ar⟩ := e
      simp only at h1 h2
      subst h1; subst h2
      have hinv : (invoke (.fn (.func f) cap) ar).run P w = .ok (.enter f (ar ++ cap)) w := by
        simp only [invoke]
        exact callFunc_run g1 g2 (hnm f fn2 g1) w
      have e1 : (ar.toList ++ cap.toList).toArray = ar ++ cap := by apply Array.ext'; simp
      rw [e1] at hcd
      refine leaves_cons (fun hh => by cases hh) hinv (hcd.mono fun en u' w' hh => ?_)
      obtain ⟨rfl, v, r', rfl, q1, q2, q3, q4⟩ := hh
      show Leaves P fn tmps R es .returning w'
      exact leave_ok htb hnm ds es r' h1' h' w' hl (h5.ext q1 q2) q3 fun r2 w2 p1 p2 p3 p4 => hR r2 w2 (q1.trans p1 q2) (Nat.le_trans q2 p2) p3 (q4.trans p4)
    · cases hl
end
end Go.Proofs.YtledghdlcdgepaaGreatDoor
