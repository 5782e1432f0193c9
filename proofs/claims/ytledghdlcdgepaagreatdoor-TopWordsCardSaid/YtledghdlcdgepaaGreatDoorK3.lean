/- The rounds of the law's loop, the last ones. -/
import Derived.Test.YtledghdlcdgepaaGreatDoorK1
namespace Go.Proofs.YtledghdlcdgepaaGreatDoor
theorem r7 : ev cB (S 7) (S 8) = true := by kernel_rfl
theorem r8 : ev cB (S 8) (S 9) = true := by kernel_rfl
theorem r9 : ev cB (S 9) (S 10) = true := by kernel_rfl
theorem r10 : ev cB (S 10) (S 11) = true := by kernel_rfl
theorem r11 : ev cB (S 11) (S 12) = true := by kernel_rfl
theorem r12 : ev cB (S 12) (S 13) = true := by kernel_rfl
end Go.Proofs.YtledghdlcdgepaaGreatDoor
