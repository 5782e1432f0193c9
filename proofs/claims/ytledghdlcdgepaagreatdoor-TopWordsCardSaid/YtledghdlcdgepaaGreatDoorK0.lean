/- The facts of the program that the interpreter needs. -/
import Derived.Test.YtledghdlcdgepaaGreatDoorE28
import Derived.Test.YtledghdlcdgepaaGreatDoorProg
import Derived.KernelRfl
noncomputable section
namespace Go.Proofs.YtledghdlcdgepaaGreatDoor
set_option linter.unusedVariables false
open Go.RowKit

theorem mixed : Tryz.prog.follows .mixedOrders = true := by kernel_rfl
def nmOk : List Func → Bool
  | [] => true
  | f :: fs => match decide (f.name = "runtime.NumGoroutine") with
    | true => false
    | false => nmOk fs
theorem nmOk_ok : ∀ (l : List Func), nmOk l = true → ∀ f ∈ l, f.name ≠ "runtime.NumGoroutine"
  | [], _, f, hf => by simp at hf
  | g :: l, h, f, hf => by
    unfold nmOk at h
    split at h
    · cases h
    · rename_i hg
      rcases List.mem_cons.1 hf with rfl | hf
      · exact of_decide_eq_false hg
      · exact nmOk_ok l h f hf
theorem nms : nmOk Tryz.prog.funcs.toList = true := by kernel_rfl
theorem names : ∀ (f : Nat) (fn : Func), Tryz.prog.funcs[f]? = some fn → fn.name ≠ "runtime.NumGoroutine" := fun f fn h => nmOk_ok _ nms fn (by
  have : Tryz.prog.funcs.toList[f]? = some fn := by simpa using h
  exact List.mem_of_getElem? this)
theorem ext : ExtOk Tryz.prog 212 := by
  intro s m w
  have h1 : Tryz.prog.funcs[212]? = some Tryz.f212 := by kernel_rfl
  have h2 : Tryz.f212.body.isNone = true := by kernel_rfl
  have h3 : (Tryz.f212.name == "runtime.NumGoroutine") = false := by kernel_rfl
  have h4 : Extern.findNext Tryz.f212 = none := by kernel_rfl
  have h5 : Extern.find Tryz.f212 = some Extern.BytealgIndexByte.indexByte := by kernel_rfl
  have hi := indexByte_run (P := Tryz.prog) (s := s) (m := m) w
  simp only [callFunc, Sem.run_bind, run_program, Result.andThen_ok, h1, h2, h3, h4, h5, if_true, Bool.false_eq_true, if_false, run_mark, hi, Sem.run_pure]
/-- Types, functions: of this program. -/
def tbl : Nat → Option TI := mkTI Tryz.prog
theorem tbl_ok : TbOk Tryz.prog tbl := mkTI_ok Tryz.prog
def call : FuncId → List Value → AH → Option (Value × AH) := callD Tryz.prog tbl 212 60
theorem call_ok : CallsOk Tryz.prog call := callD_ok mixed tbl_ok names ext 60
end Go.Proofs.YtledghdlcdgepaaGreatDoor
