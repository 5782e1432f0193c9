/- A verified abstract interpreter, part 26: calls of functions, to a depth. -/
import Derived.Test.YtledghdlcdgepaaGreatDoorE25
noncomputable section
namespace Go.Proofs.YtledghdlcdgepaaGreatDoor
set_option linter.unusedVariables false
set_option linter.unusedSimpArgs false
open Go.RowKit

/-- The function whose text is not Go's: a byte's place in a string. -/
def aExt (x : Nat) (f : FuncId) (args : List Value) : Option Value := match Nat.beq f x, args with
  | true, [.string s, .int .u8 m] => some (.int .i64 (idxB m.toNat.toUInt8 s.data.toList 0))
  | _, _ => none
def ExtOk (P : Program) (x : Nat) : Prop := ∀ (s : ByteArray) (m : Int) (w : World), (callFunc x #[.string s, .int .u8 m]).run P w = .ok (.value (.int .i64 (idxB m.toNat.toUInt8 s.data.toList 0))) w

def callD (P : Program) (tb : Nat → Option TI) (x : Nat) : Nat → FuncId → List Value → AH → Option (Value × AH)
  | 0, _, _, _ => none
  | D + 1, f, args, h => match P.funcs.toList[f]? with
    | some fn => match fn.body with
      | some c => match Nat.blt fn.ntmps 1000000, Nat.ble args.length fn.ntmps with
        | true, true => match exec tb (callD P tb x D) (drM tb (callD P tb x D)) jnM fn.ntmps 100000 c ⟨slotsL 0 args .leaf, h, []⟩ with
          | some (.exit _, _) => none
          | some (_, st) => match leaveA P tb st.ds st.h with
            | some h' => match aRes tb st.s h' fn.results.toList with
              | some vs => some (tupV vs, h')
              | none => none
            | none => none
          | none => none
        | _, _ => none
      | none => match aExt x f args with
        | some v => some (v, h)
        | none => none
    | none => none

section
variable {P : Program} {tb : Nat → Option TI} {r : Ren} {n nt : Nat} {N : Nat → Prop} {a : Act} {s : Tr Value} {h h' : AH} {w : World}

theorem callD_ok (hm : P.follows .mixedOrders = true) (htb : TbOk P tb) (hnm : ∀ (f : Nat) (fn : Func), P.funcs[f]? = some fn → fn.name ≠ "runtime.NumGoroutine") {x : Nat} (hx : ExtOk P x) : ∀ D, CallsOk P (callD P tb x D)
  | 0, f, args, h, v, h', hc => by simp [callD] at hc
  | D + 1, f, args, h, v, h', hc => by
    intro N r w args' hv hb hS
    have hcf := callD_ok hm htb hnm hx D
    unfold callD at hc
    split at hc
    · rename_i fn hfn
      have hfn' : P.funcs[f]? = some fn := by simpa using hfn
      split at hc
      · rename_i c hbody
        split at hc
        · rename_i c1 c2
          have c1 : fn.ntmps < 1000000 := by simpa using c1
          have c2 : args.length ≤ fn.ntmps := by simpa using c2
          left
          refine ⟨?_, fn, hfn', by rw [hbody]; rfl, hnm f fn hfn'⟩
          have hA := begin_sa hv hb hS c2 c1
          have hB : SB P N r fn.ntmps ⟨slotsL 0 args .leaf, h, []⟩ { tmps := args'.toArray ++ Array.replicate (fn.ntmps - args'.toArray.size) undef, defers := [] } w := ⟨hA, trivial⟩
          refine calls_of_wp_defers hfn' hbody ?_
          split at hc
          · cases hc
          · rename_i xx st hne hex
            split at hc
            · rename_i h2 hlv
              split at hc
              · rename_i vs hres
                injection hc with hc
                injection hc with e1 e2
                subst e1; subst e2
                refine (exec_ok htb hcf (drM_ok hm htb hcf) jnM_ok c1 100000 c _ st xx r _ w _ hex hB fun r' a' w' hA' => ?_).1
                obtain ⟨p1, p2, p3, p4⟩ := hA'
                have hleave : Leaves P fn a'.tmps (CallR P N r h (tupV vs) h2 w) a'.defers .returning w' := by
                  refine leave_ok htb hnm st.ds a'.defers r' st.h h2 w' hlv p3.df p3.sa.sim fun r2 w2 q1 q2 q3 q4 => ?_
                  have hA2 : SA P N r2 fn.ntmps st.s h2 a' w2 := ⟨p3.sa.sz, fun k u hk => by
                    obtain ⟨z1, u', z2, z3⟩ := p3.sa.sl k u hk
                    exact ⟨z1.mono q2, u', z2, z3.ext q1 z1⟩, q3⟩
                  obtain ⟨z1, v', z2, z3⟩ := results_ok htb hA2 hres
                  exact ⟨v', z3, r2, v', rfl, p1.trans q1 p2, Nat.le_trans p2 q2, q3, p4.trans q4, z1, z2⟩
                cases xx with
                | normal => exact hleave
                | ret => exact hleave
                | exit id => exact absurd rfl (hne id)
              · cases hc
            · cases hc
          · cases hc
        · cases hc
      · rename_i hbody
        split at hc
        · rename_i u hu
          injection hc with hc
          injection hc with e1 e2
          subst e1; subst e2
          right
          unfold aExt at hu
          split at hu
          · rename_i ss m hfx
            injection hu with hu
            subst hu
            have hfx := nat_beq_true.1 hfx
            subst hfx
            have hl : args'.length = 2 := by rw [← hv.1]; rfl
            match args', hl, hv with
            | [a1, a2], _, hv =>
              have h1 := vr_string (hv.2 0 _ a1 rfl rfl)
              have h2 := vr_int (hv.2 1 _ a2 rfl rfl)
              subst h1; subst h2
              exact ⟨r, _, w, hx ss m w, Ren.ext.refl r _, Nat.le_refl _, hS, Below.refl N w, .int _ _, .int _ _⟩
          · cases hu
        · cases hc
    · cases hc
end
end Go.Proofs.YtledghdlcdgepaaGreatDoor
