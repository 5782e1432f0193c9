/- A verified abstract interpreter, part 12b: slices of strings. -/
import Derived.Test.YtledghdlcdgepaaGreatDoorE12
noncomputable section
namespace Go.Proofs.YtledghdlcdgepaaGreatDoor
set_option linter.unusedVariables false
set_option linter.unusedSimpArgs false
open Go.RowKit

section
variable {P : Program} {tb : Nat → Option TI} {r : Ren} {n : Nat} {N : Nat → Prop} {a : Act} {ev : Operand → Option Value} {h h' : AH} {w : World}

def aBnd (ev : Operand → Option Value) (d : Nat) (x : Option Operand) : Option Nat := match x with
  | none => some d
  | some x => match ev x with
    | some (.int _ (.ofNat m)) => some m
    | _ => none
def sext (s : ByteArray) (l h : Nat) : ByteArray := ⟨((s.data.toList.drop l).take (h - l)).toArray⟩
theorem sext_eq (s : ByteArray) (l h : Nat) : sext s l h = s.extract l h := by
  apply ByteArray.ext
  simp only [ByteArray.data_extract, sext]
  apply Array.ext'
  simp

/-- A bound of a slice. -/
theorem bnd_ok {d m y : Nat} {x : Option Operand} {c : BoundsCode} (hv : aBnd ev d x = some m) (he : EvOk r n ev a) (hy : m ≤ y) (w : World) :
    (match x.map a.eval with | some v => Instr.sliceBound v y c | none => pure d).run P w = .ok m w := by
  cases x with
  | none => simp [aBnd] at hv; subst hv; rfl
  | some x =>
    simp only [aBnd] at hv
    split at hv
    · rename_i k m2 hx
      injection hv with hv; subst hv
      obtain ⟨_, hx⟩ := he x _ hx
      have hx := vr_int hx
      have h0 : (0 : Int) ≤ Int.ofNat m2 := Int.natCast_nonneg m2
      have h1 : Int.ofNat m2 ≤ (y : Int) := by simpa using hy
      simp only [Option.map_some, hx, Instr.sliceBound, asIntOf, Sem.run_bind, Sem.run_pure, Result.andThen_ok, h0, h1, and_self, if_true]
      rfl
    · cases hv

def aSliceS (tb : Nat → Option TI) (ev : Operand → Option Value) (t : TypeId) (x : Operand) (lo hi mx : Option Operand) : Option Value := match ev x with
  | some (.string s) => match tb t with
    | some ti => match ti.desc, mx with
      | .string, none => match aBnd ev (slen s) hi, aBnd ev 0 lo with
        | some hh, some l => match Nat.ble hh (slen s), Nat.ble l hh with
          | true, true => some (.string (sext s l hh))
          | _, _ => none
        | _, _ => none
      | _, _ => none
    | none => none
  | _ => none
theorem yld_sliceS {o : Oper} {t : TypeId} {x : Operand} {lo hi mx : Option Operand} (ho : o.op = .slice t x lo hi mx) (htb : TbOk P tb) {v : Value} (hv : aSliceS tb ev t x lo hi mx = some v) (he : EvOk r n ev a) : Yld P r n a o v := by
  unfold aSliceS at hv
  split at hv
  · rename_i s hx
    obtain ⟨_, hx⟩ := he x _ hx
    have hx := vr_string hx
    split at hv
    · rename_i ti hti
      split at hv
      · rename_i hd
        split at hv
        · rename_i hh l hhi hlo
          split at hv
          · rename_i c1 c2
            injection hv with hv; subst hv
            have c1 : hh ≤ s.size := by simpa [slen_eq] using c1
            have c2 : l ≤ hh := by simpa using c2
            refine ⟨.string _, _, .string _, fun w => ?_⟩
            have hu := (htb _ _ hti).under w
            rw [hd] at hu
            rw [slen_eq] at hhi
            have b1 := bnd_ok (P := P) (c := .sliceAlen) hhi he c1 w
            have b2 := bnd_ok (P := P) (c := .sliceB) hlo he c2 w
            have hb : (Instr.sliceBounds false s.size s.size (lo.map a.eval) (hi.map a.eval) none).run P w = .ok (l, hh, s.size) w := by
              unfold Instr.sliceBounds
              simp only [Sem.run_bind, Sem.run_pure, Result.andThen_ok, Bool.false_eq_true, if_false]
              cases hi <;> cases lo <;> simp only [Option.map_some, Option.map_none] at b1 b2 ⊢ <;> simp only [Sem.run_bind, Sem.run_pure, Result.andThen_ok, b1, Option.isSome_none, Bool.false_eq_true, if_false, b2]
              all_goals (injection b2 with b2; rw [b2])
            simp only [execOp, ho, hx, Sem.run_bind, Instr.sliceAt, hu, Result.andThen_ok, Instr.slice, Option.map_none, Option.isSome_none, Bool.false_eq_true, if_false, Sem.run_pure]
            rw [show (Instr.sliceBounds false s.size s.size (lo.map a.eval) (hi.map a.eval) none).run P w = .ok (l, hh, s.size) w from hb]
            simp only [Result.andThen_ok, sext_eq]
          · cases hv
        · cases hv
      · cases hv
    · cases hv
  · cases hv
end
end Go.Proofs.YtledghdlcdgepaaGreatDoor
