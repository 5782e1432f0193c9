/- The sanity check: its program is read. -/
import Derived.Test.YtledghdlcdgepaaGreatDoorK4
namespace Go.Proofs.YtledghdlcdgepaaGreatDoor
theorem q0 : ev7 d0 T0 A1 = true := by kernel_rfl
theorem q1 : ev7 d1 A1 A2 = true := by kernel_rfl
end Go.Proofs.YtledghdlcdgepaaGreatDoor
