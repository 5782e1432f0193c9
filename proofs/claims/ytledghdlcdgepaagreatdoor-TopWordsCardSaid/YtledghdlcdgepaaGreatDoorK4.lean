/- The sanity check of the law answers true. -/
import Derived.Test.YtledghdlcdgepaaGreatDoorK1
namespace Go.Proofs.YtledghdlcdgepaaGreatDoor
theorem awakeB : ansT (call 7 [] ⟨.leaf, 0⟩) = true := by kernel_rfl
theorem awake : TrueCall Tryz.prog 7 := trueCall_of call_ok awakeB ⟨Tryz.f7, by kernel_rfl, by kernel_rfl, names 7 Tryz.f7 (by kernel_rfl)⟩
end Go.Proofs.YtledghdlcdgepaaGreatDoor
