/- cmp.Or, pair, and the two roundings walked. -/
import Derived.Test.YtagokefbbdlpcaaF1
namespace Go.Proofs.Ytagokefbbdlpcaa
set_option linter.unusedVariables false
set_option linter.unusedSimpArgs false
open Go.RowKit

def or2 (x y : Int) : Int := if x ≠ 0 then x else y
theorem or_any (b : Nat) (x y : Int) (w : World) (c0 : w.cell? ⟨b, 0, none⟩ = some (.int .i64 x)) (c1 : w.cell? ⟨b, 1, none⟩ = some (.int .i64 y)) :
    Calls Try.prog 79 #[.slice (some ⟨b, 0, none⟩) 2 2] w (Num (or2 x y) w) := by
  go_enter Try.func79, Try.ntmps79
  go_wp2
  go_loop [8] (fun s8 => (s8 = .int .i64 0) ∨ (s8 = .int .i64 1 ∧ x = 0) ∨ (s8 = .int .i64 2 ∧ x = 0 ∧ y = 0)) (fun s8 => 2 - (intOf s8).toNat)
  case atStart => exact .inl rfl
  case round =>
    rcases hrel with rfl | ⟨rfl, hx⟩ | ⟨rfl, hx, hy⟩
    · by_cases h : x = 0
      · have hb : (x != 0) = false := by simpa using h
        have H := Lib.hid h
        clear h
        go_wp2
        go_round
        case rel => exact .inr (.inl ⟨rfl, H.out⟩)
        case measure => simp [intOf]
      · have hb : (x != 0) = true := by simpa using h
        have H := Lib.hid (show or2 x y = x from if_pos h)
        clear h
        go_wp2
        go_ret
        exact ⟨by rw [H.out]; rfl, rfl⟩
    · have H0 := Lib.hid (show or2 x y = y from if_neg (by simpa using hx))
      have HX := Lib.hid hx
      clear hx
      by_cases h : y = 0
      · have hb : (y != 0) = false := by simpa using h
        have H := Lib.hid h
        clear h
        go_wp2
        go_round
        case rel => exact .inr (.inr ⟨rfl, HX.out, H.out⟩)
        case measure => simp [intOf]
      · have hb : (y != 0) = true := by simpa using h
        clear h
        go_wp2
        go_ret
        exact ⟨by rw [H0.out]; rfl, rfl⟩
    · have H0 := Lib.hid (show or2 x y = 0 by rw [or2, if_neg (by simpa using hx), hy])
      clear hx hy
      go_wp2
      go_ret
      exact ⟨by rw [H0.out]; rfl, rfl⟩

theorem or2_cmp (a b c d : Int) : or2 (cmpI a c) (cmpI b d) = cmpP a b c d := rfl

theorem pair_any (a b c d : Int) (w : World) : Calls Try.prog 68 #[.int .i32 a, .int .i32 b, .int .i32 c, .int .i32 d] w (Cls (cmpP a b c d) w) := by
  go_enter Try.func68, Try.ntmps68
  go_wp2_with fail
  refine (compare_any a c _).mono ?_
  rintro e w1 ⟨rfl, rfl⟩
  go_wp2_with fail
  refine (compare_any b d _).mono ?_
  rintro e w1 ⟨rfl, rfl⟩
  generalize hx : cmpI a c = x
  generalize hy : cmpI b d = y
  have HO := Lib.hid (show or2 x y = cmpP a b c d by rw [← hx, ← hy]; rfl)
  clear hx hy
  have hk := Blk.new w 3 #[.int .i64 x, .int .i64 y]
  go_wp2_with fail
  refine (or_any w.heap.size x y _ (by rw [hk.cell]; rfl) (by rw [hk.cell]; rfl)).mono ?_
  rintro e w1 ⟨rfl, rfl⟩
  go_wp2
  go_ret
  exact ⟨by rw [← HO.out]; rfl, (Below.refl _ _).alloc (Nat.le_refl _) _⟩

/-- a/b rounded to the nearest integer, for b > 0. -/
def rnd (a b : Int) : Int := (2 * a + b) / (2 * b)

theorem ok_any (a b : Int) (w : World) (hb : 1 ≤ b ∧ b ≤ 4096) (ha : -10000000 ≤ a ∧ a ≤ 10000000) : Calls Try.prog 77 #[.int .i64 a, .int .i64 b] w (Bl true w) := by
  have d1 : (b != 0) = true := by rw [bne_iff_ne]; omega
  have d2 : decide ((-1152921504606846976 : Int) ≤ a) = true := by simp; omega
  have d3 : decide (a ≤ (1152921504606846976 : Int)) = true := by simp; omega
  have d4 : decide ((-1152921504606846976 : Int) ≤ b) = true := by simp; omega
  have d5 : decide (b ≤ (1152921504606846976 : Int)) = true := by simp; omega
  clear ha hb
  go_enter Try.func77, Try.ntmps77
  go_wp2
  go_ret
  exact ⟨rfl, rfl⟩

theorem floor_any (a b : Int) (w : World) (hb : 1 ≤ b ∧ b ≤ 10000) (ha : -30000000 ≤ a ∧ a ≤ 30000000) : Calls Try.prog 78 #[.int .i64 a, .int .i64 b] w (Num (a / b) w) := by
  obtain ⟨hb1, hb2⟩ := hb
  obtain ⟨ha1, ha2⟩ := ha
  have d0 : (b == 0) = false := beq_eq_false_iff_ne.2 (by omega)
  have t1 : a.tdiv b ≤ 30000000 := by
    have := Int.natAbs_tdiv_le_natAbs a b
    omega
  have t2 : -30000000 ≤ a.tdiv b := by
    have := Int.natAbs_tdiv_le_natAbs a b
    omega
  by_cases h : a.tmod b < 0
  · have HE := Lib.hid (show a / b = a.tdiv b - 1 by
      have e1 := Int.mul_tdiv_add_tmod a b
      have e2 := Int.mul_ediv_add_emod a b
      have e3 := Int.emod_nonneg a (show b ≠ 0 by omega)
      have e4 := Int.emod_lt_of_pos a (show 0 < b by omega)
      have e5 := Int.lt_tmod_of_pos a (show 0 < b by omega)
      have e6 : b * (a / b - a.tdiv b) = a.tmod b - a % b := by rw [Int.mul_sub]; omega
      have e7 : a / b - a.tdiv b < 0 := by
        rcases Int.lt_or_le (a / b - a.tdiv b) 0 with h | h
        · exact h
        · have := Int.mul_nonneg (show 0 ≤ b by omega) h; omega
      have e8 : -2 < a / b - a.tdiv b := by
        rcases Int.lt_or_le (-2) (a / b - a.tdiv b) with h | h
        · exact h
        · have := Int.mul_le_mul_of_nonneg_left h (show 0 ≤ b by omega); omega
      omega)
    go_enter Try.func78, Try.ntmps78
    go_wp2
    go_ret
    exact ⟨by rw [HE.out]; rfl, rfl⟩
  · have HE := Lib.hid (show a / b = a.tdiv b by
      have e1 := Int.mul_tdiv_add_tmod a b
      have e2 := Int.mul_ediv_add_emod a b
      have e3 := Int.emod_nonneg a (show b ≠ 0 by omega)
      have e4 := Int.emod_lt_of_pos a (show 0 < b by omega)
      have e5 := Int.tmod_lt_of_pos a (show 0 < b by omega)
      have e6 : b * (a / b - a.tdiv b) = a.tmod b - a % b := by rw [Int.mul_sub]; omega
      have e7 : a / b - a.tdiv b < 1 := by
        rcases Int.lt_or_le (a / b - a.tdiv b) 1 with h | h
        · exact h
        · have := Int.mul_le_mul_of_nonneg_left h (show 0 ≤ b by omega); omega
      have e8 : -1 < a / b - a.tdiv b := by
        rcases Int.lt_or_le (-1) (a / b - a.tdiv b) with h | h
        · exact h
        · have := Int.mul_le_mul_of_nonneg_left h (show 0 ≤ b by omega); omega
      omega)
    go_enter Try.func78, Try.ntmps78
    go_wp2
    go_ret
    exact ⟨by rw [HE.out]; rfl, rfl⟩

theorem round_any (a b : Int) (w : World) (hb : 1 ≤ b ∧ b ≤ 4096) (ha : -10000000 ≤ a ∧ a ≤ 10000000) : Calls Try.prog 65 #[.int .i64 a, .int .i64 b] w (Num (rnd a b) w) := by
  obtain ⟨hb1, hb2⟩ := hb
  obtain ⟨ha1, ha2⟩ := ha
  go_enter Try.func65, Try.ntmps65
  go_wp2_with fail
  refine (ok_any a b _ ⟨hb1, hb2⟩ ⟨ha1, ha2⟩).mono ?_
  rintro e w1 ⟨rfl, rfl⟩
  have d0 : decide (b < 0) = false := by simp; omega
  go_wp2_with fail
  refine (floor_any _ _ _ (by omega) (by omega)).mono ?_
  rintro e w1 ⟨rfl, rfl⟩
  go_wp2
  go_ret
  exact ⟨rfl, rfl⟩

theorem rnd_of (a b q r : Int) (hb : 0 < b) (h : a = b * q + r) (h0 : 0 ≤ r) (h1 : r < b) : rnd a b = if b - r ≤ r then q + 1 else q := by
  have e : 2 * a + b = (2 * r + b) + (2 * b) * q := by rw [h, Int.mul_add, Int.mul_assoc]; omega
  rw [rnd, e, Int.add_mul_ediv_left _ _ (show 2 * b ≠ 0 by omega)]
  split
  · have e2 : 2 * r + b = (2 * r - b) + (2 * b) * 1 := by omega
    rw [e2, Int.add_mul_ediv_left _ _ (show 2 * b ≠ 0 by omega), Int.ediv_eq_zero_of_lt (by omega) (by omega)]
    omega
  · rw [Int.ediv_eq_zero_of_lt (by omega) (by omega)]
    omega

theorem rround_any (a b : Int) (w : World) (hb : 1 ≤ b ∧ b ≤ 4096) (ha : -10000000 ≤ a ∧ a ≤ 10000000) : Calls Try.prog 81 #[.int .i64 a, .int .i64 b] w (Num (rnd a b) w) := by
  obtain ⟨hb1, hb2⟩ := hb
  obtain ⟨ha1, ha2⟩ := ha
  have d1 : (b == 0) = false := beq_eq_false_iff_ne.2 (by omega)
  have d2 : decide (a < (-1152921504606846976 : Int)) = false := by simp; omega
  have d3 : decide ((1152921504606846976 : Int) < a) = false := by simp; omega
  have d4 : decide (b < (-1152921504606846976 : Int)) = false := by simp; omega
  have d5 : decide ((1152921504606846976 : Int) < b) = false := by simp; omega
  have d6 : decide (b < 0) = false := by simp; omega
  have t0 := Int.natAbs_tdiv_le_natAbs a b
  have t1 : a.tdiv b ≤ 30000000 := by omega
  have t2 : -30000000 ≤ a.tdiv b := by omega
  have t3 := Int.lt_tmod_of_pos a (show 0 < b by omega)
  have t4 := Int.tmod_lt_of_pos a (show 0 < b by omega)
  have E := Lib.hid (Int.mul_tdiv_add_tmod a b)
  clear t0
  by_cases hm : a.tmod b < 0
  · have R := Lib.hid (rnd_of a b (a.tdiv b - 1) (a.tmod b + b) (by omega) (by have := E.out; rw [Int.mul_sub]; omega) (by omega) (by omega))
    go_enter Try.func81, Try.ntmps81
    go_wp2
    · have hc : b - (a.tmod b + b) ≤ a.tmod b + b := by first | assumption | omega
      go_ret
      exact ⟨by rw [R.out, if_pos hc, Int.sub_add_cancel]; rfl, rfl⟩
    · have hc : ¬ b - (a.tmod b + b) ≤ a.tmod b + b := by omega
      go_ret
      exact ⟨by rw [R.out, if_neg hc]; rfl, rfl⟩
  · have R := Lib.hid (rnd_of a b (a.tdiv b) (a.tmod b) (by omega) (by have := E.out; omega) (by omega) (by omega))
    go_enter Try.func81, Try.ntmps81
    go_wp2
    · have hc : b - a.tmod b ≤ a.tmod b := by first | assumption | omega
      go_ret
      exact ⟨by rw [R.out, if_pos hc]; rfl, rfl⟩
    · have hc : ¬ b - a.tmod b ≤ a.tmod b := by omega
      go_ret
      exact ⟨by rw [R.out, if_neg hc]; rfl, rfl⟩
end Go.Proofs.Ytagokefbbdlpcaa
