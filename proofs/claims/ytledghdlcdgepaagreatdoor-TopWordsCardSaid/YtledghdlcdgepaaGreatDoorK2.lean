/- The rounds of the law's loop, the first ones. -/
import Derived.Test.YtledghdlcdgepaaGreatDoorK1
namespace Go.Proofs.YtledghdlcdgepaaGreatDoor
theorem r0 : ev cB (S 0) (S 1) = true := by kernel_rfl
theorem r1 : ev cB (S 1) (S 2) = true := by kernel_rfl
theorem r2 : ev cB (S 2) (S 3) = true := by kernel_rfl
theorem r3 : ev cB (S 3) (S 4) = true := by kernel_rfl
theorem r4 : ev cB (S 4) (S 5) = true := by kernel_rfl
theorem r5 : ev cB (S 5) (S 6) = true := by kernel_rfl
theorem r6 : ev cB (S 6) (S 7) = true := by kernel_rfl
end Go.Proofs.YtledghdlcdgepaaGreatDoor
