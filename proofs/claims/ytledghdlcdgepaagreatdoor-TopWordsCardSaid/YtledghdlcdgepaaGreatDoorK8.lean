/- The sanity check: rendered, built, handled, rendered again, compared. -/
import Derived.Test.YtledghdlcdgepaaGreatDoorK4
namespace Go.Proofs.YtledghdlcdgepaaGreatDoor
theorem q2 : ev7 d2 A2 A3 = true := by kernel_rfl
theorem q3 : ev7 d3 A3 A4 = true := by kernel_rfl
theorem q4 : ev7 d4 A4 A5 = true := by kernel_rfl
theorem q5 : ev7 d5 A5 A6 = true := by kernel_rfl
theorem q6 : ev7 d6 A6 A7 = true := by kernel_rfl
theorem q7 : ev7 d7 A7 A8 = true := by kernel_rfl
end Go.Proofs.YtledghdlcdgepaaGreatDoor
