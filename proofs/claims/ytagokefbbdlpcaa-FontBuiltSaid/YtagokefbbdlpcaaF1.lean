/- Small functions of the font layer walked. -/
import Derived.Test.YtagokefbbdlpcaaC1
namespace Go.Proofs.Ytagokefbbdlpcaa
set_option linter.unusedVariables false
set_option linter.unusedSimpArgs false
open Go.RowKit

/-- A number, and the world as it was. -/
def Num (v : Int) (w : World) (e : Ending) (w' : World) : Prop := e = .returned (.int .i64 v) ∧ w = w'
def Bl (v : Bool) (w : World) (e : Ending) (w' : World) : Prop := e = .returned (.bool v) ∧ w = w'
def Blb (v : Bool) (w : World) (e : Ending) (w' : World) : Prop := e = .returned (.bool v) ∧ Below w.heap.size w w'

theorem ret_bool {a b : Bool} (h : a = b) : Ending.returned (.bool a) = .returned (.bool b) := by rw [h]
theorem ret_int {k : IntKind} {a b : Int} (h : a = b) : Ending.returned (.int k a) = .returned (.int k b) := by rw [h]

def inB (n lo hi : Int) : Bool := decide (lo ≤ n ∧ n ≤ hi)

theorem within_any (n lo hi : Int) (w : World) : Calls Try.prog 64 #[.int .i64 n, .int .i64 lo, .int .i64 hi] w (Bl (inB n lo hi) w) := by
  go_enter Try.func64, Try.ntmps64
  go_wp2
  all_goals
    go_ret
    refine ⟨ret_bool ?_, rfl⟩
    simp only [inB]
    rw [Bool.eq_iff_iff]
    simp
    omega
theorem is_any (r : Int) (w : World) : Calls Try.prog 76 #[.int .i32 r] w (Bl (inB r 0 1114111) w) := by
  go_enter Try.func76, Try.ntmps76
  go_wp2
  all_goals
    go_ret
    refine ⟨ret_bool ?_, rfl⟩
    simp only [inB]
    rw [Bool.eq_iff_iff]
    simp
    omega
theorem metric_any (n : Int) (w : World) : Calls Try.prog 69 #[.int .i64 n] w (Bl (inB n 0 4096) w) := by
  go_enter Try.func69, Try.ntmps69
  go_wp2
  all_goals
    go_ret
    refine ⟨ret_bool ?_, rfl⟩
    simp only [inB]
    rw [Bool.eq_iff_iff]
    simp
    omega
theorem rvalid_any (r : Int) (w : World) : Calls Try.prog 70 #[.int .i32 r] w (Bl (inB r 0 1114111) w) := by
  go_enter Try.func70, Try.ntmps70
  go_wp2
  all_goals
    go_ret
    refine ⟨ret_bool ?_, rfl⟩
    simp only [inB]
    rw [Bool.eq_iff_iff]
    simp
    omega

/-- The pair a, b is less than the pair c, d. -/
def ltB (a b c d : Int) : Bool := decide (a < c ∨ a = c ∧ b < d)
theorem ascending_any (a b c d : Int) (w : World) : Calls Try.prog 71 #[.int .i32 a, .int .i32 b, .int .i32 c, .int .i32 d] w (Bl (ltB a b c d) w) := by
  go_enter Try.func71, Try.ntmps71
  go_wp2
  all_goals
    go_ret
    refine ⟨ret_bool ?_, rfl⟩
    simp only [ltB]
    rw [Bool.eq_iff_iff]
    simp
    omega

theorem isnan_any (r : Int) (w : World) : Calls Try.prog 82 #[.int .i32 r] w (Bl false w) := by
  go_enter Try.func82, Try.ntmps82
  go_wp2
  go_ret
  exact ⟨rfl, rfl⟩

def cmpI (a b : Int) : Int := if a < b then -1 else if b < a then 1 else 0
theorem compare_any (a b : Int) (w : World) : Calls Try.prog 80 #[.int .i32 a, .int .i32 b] w (Num (cmpI a b) w) := by
  go_enter Try.func80, Try.ntmps80
  go_wp2_with fail
  refine (isnan_any a _).mono ?_
  rintro e w1 ⟨rfl, rfl⟩
  go_wp2_with fail
  refine (isnan_any b _).mono ?_
  rintro e w1 ⟨rfl, rfl⟩
  go_wp2
  all_goals
    go_ret
    refine ⟨ret_int ?_, rfl⟩
    simp only [cmpI]
    first | rfl | (split <;> first | omega | (split <;> omega))

/-- How two pairs compare. -/
def cmpP (a b c d : Int) : Int := if cmpI a c ≠ 0 then cmpI a c else cmpI b d
theorem cmpP_lt (a b c d : Int) : cmpP a b c d < 0 ↔ ltB a b c d = true := by
  simp only [cmpP, cmpI, ltB, decide_eq_true_eq]
  repeat' split
  all_goals omega
theorem cmpP_zero (a b c d : Int) : cmpP a b c d = 0 ↔ a = c ∧ b = d := by
  simp only [cmpP, cmpI]
  repeat' split
  all_goals omega
end Go.Proofs.Ytagokefbbdlpcaa
