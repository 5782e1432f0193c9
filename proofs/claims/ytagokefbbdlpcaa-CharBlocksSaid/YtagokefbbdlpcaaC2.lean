/- CharClasses, CharMirrors, CharBlocks walked. -/
import Derived.Test.YtagokefbbdlpcaaC1
namespace Go.Proofs.Ytagokefbbdlpcaa
set_option linter.unusedVariables false
set_option linter.unusedSimpArgs false
open Go.RowKit

set_option maxHeartbeats 1000000 in
theorem classes_any (r : Int) (w : World) (h : -2147483648 ≤ r) : Calls Try.prog 3 #[.int .i32 r] w (Tru w) := by
  go_enter Try.func3, Try.ntmps3
  go_wp2_with fail
  refine (brk_any r _ h).mono ?_
  rintro e w1 ⟨rfl, hb1⟩
  have HB1 := Lib.hid hb1
  clear hb1
  go_wp2_with fail
  refine (rbrk_any r _).mono ?_
  rintro e w2 ⟨rfl, hb2⟩
  have HB2 := Lib.hid (HB1.out.trans (hb2.mono HB1.out.size))
  clear hb2
  go_wp2_with fail
  refine (word_any r _ h).mono ?_
  rintro e w3 ⟨rfl, hb3⟩
  have HB3 := Lib.hid (HB2.out.trans (hb3.mono HB2.out.size))
  clear hb3
  go_wp2_with fail
  refine (rword_any r _).mono ?_
  rintro e w4 ⟨rfl, hb4⟩
  have HB4 := Lib.hid (HB3.out.trans (hb4.mono HB3.out.size))
  clear hb4
  go_wp2_with fail
  refine (line_any r _ h).mono ?_
  rintro e w5 ⟨rfl, hb5⟩
  have HB5 := Lib.hid (HB4.out.trans (hb5.mono HB4.out.size))
  clear hb5
  go_wp2_with fail
  refine (rline_any r _).mono ?_
  rintro e w6 ⟨rfl, hb6⟩
  have HB6 := Lib.hid (HB5.out.trans (hb6.mono HB5.out.size))
  clear hb6
  go_wp2_with fail
  refine (bidi_any r _ h).mono ?_
  rintro e w7 ⟨rfl, hb7⟩
  have HB7 := Lib.hid (HB6.out.trans (hb7.mono HB6.out.size))
  clear hb7
  go_wp2_with fail
  refine (rbidi_any r _).mono ?_
  rintro e w8 ⟨rfl, hb8⟩
  have HB8 := Lib.hid (HB7.out.trans (hb8.mono HB7.out.size))
  clear hb8
  go_wp2_with fail
  refine (join_any r _ h).mono ?_
  rintro e w9 ⟨rfl, hb9⟩
  have HB9 := Lib.hid (HB8.out.trans (hb9.mono HB8.out.size))
  clear hb9
  go_wp2_with fail
  refine (rjoin_any r _).mono ?_
  rintro e w10 ⟨rfl, hb10⟩
  have HB10 := Lib.hid (HB9.out.trans (hb10.mono HB9.out.size))
  clear hb10
  go_wp2_with fail
  refine (awake3_any _).mono ?_
  rintro e w11 ⟨rfl, hb11⟩
  have HB11 := Lib.hid (HB10.out.trans (hb11.mono HB10.out.size))
  clear hb11
  go_wp2
  go_ret
  exact ⟨rfl, HB11.out⟩

set_option maxHeartbeats 1000000 in
theorem mirrors_any (r : Int) (w : World) : Calls Try.prog 5 #[.int .i32 r] w (Tru w) := by
  obtain ⟨m1, m2, m3, m4⟩ := mir_ok r
  have M1 := Lib.hid m1
  have M2 := Lib.hid m2
  have M3 := Lib.hid m3
  have M4 := Lib.hid m4
  have K1 := Lib.hid (fun w => (show Calls Try.prog 23 #[.int .i32 r] w (Rn (iMir r) w) by rw [M1.out]; exact rmirror_any r w))
  have K2 := Lib.hid (fun w => (show Calls Try.prog 20 #[.int .i32 (iMir r)] w (Rn r w) by have := mirror_any (iMir r) w; rwa [M2.out] at this))
  have K3 := Lib.hid (fun w => (show Calls Try.prog 22 #[.int .i32 r] w (Bra (iBra r) w) by rw [M3.out]; exact rbracket_any r w))
  clear m1 m2 m3 m4
  go_enter Try.func5, Try.ntmps5
  go_wp2_with fail
  refine (mirror_any r _).mono ?_
  rintro e w1 ⟨rfl, hb1⟩
  have HB1 := Lib.hid hb1
  clear hb1
  go_wp2_with fail
  refine (bracket_any r _).mono ?_
  rintro e w2 ⟨rfl, hb2⟩
  have HB2 := Lib.hid (HB1.out.trans (hb2.mono HB1.out.size))
  clear hb2
  go_wp2_with fail
  refine (K3.out _).mono ?_
  rintro e w3 ⟨rfl, hb3⟩
  have HB3 := Lib.hid (HB2.out.trans (hb3.mono HB2.out.size))
  clear hb3
  go_wp2_with fail
  refine (K1.out _).mono ?_
  rintro e w4 ⟨rfl, hb4⟩
  have HB4 := Lib.hid (HB3.out.trans (hb4.mono HB3.out.size))
  clear hb4
  go_wp2_with fail
  refine (K2.out _).mono ?_
  rintro e w5 ⟨rfl, hb5⟩
  have HB5 := Lib.hid (HB4.out.trans (hb5.mono HB4.out.size))
  clear hb5
  by_cases h0 : (iBra r).1 = 0
  · have d0 : ((iBra r).1 == 0) = true := by simpa using h0
    have d1 : ((iBra r).1 != 0) = false := by simpa using h0
    clear h0
    go_wp2_with fail
    refine (awake3_any _).mono ?_
    rintro e w6 ⟨rfl, hb6⟩
    have HB6 := Lib.hid (HB5.out.trans (hb6.mono HB5.out.size))
    clear hb6
    go_wp2
    go_ret
    exact ⟨rfl, HB6.out⟩
  · have d0 : ((iBra r).1 == 0) = false := by simpa using h0
    have d1 : ((iBra r).1 != 0) = true := by simpa using h0
    obtain ⟨q1, q2, q3, q4, q5⟩ := M4.out h0
    obtain ⟨X, hX⟩ : ∃ X, X = (iBra (iBra r).2).1 := ⟨_, rfl⟩
    have K4 := Lib.hid (fun w => (show Calls Try.prog 21 #[.int .i32 (iBra r).2] w (Bra (X, r) w) by have := bracket_any (iBra r).2 w; rwa [show iBra (iBra r).2 = (X, r) from Prod.ext hX.symm q2] at this))
    rw [← hX] at q3 q4 q5
    have e1 : (iMir r != (iBra r).2) = false := by simpa using q1
    have e2 : (X + (iBra r).1 != 3) = false := by simpa using q3
    have q6 : 0 ≤ (iBra r).1 := by omega
    have q7 : (iBra r).1 ≤ 3 := by omega
    clear h0 q1 q2 q3 hX
    go_wp2_with fail
    refine (K4.out _).mono ?_
    rintro e w6 ⟨rfl, hb6⟩
    have HB6 := Lib.hid (HB5.out.trans (hb6.mono HB5.out.size))
    clear hb6
    go_wp2_with fail
    refine (awake3_any _).mono ?_
    rintro e w7 ⟨rfl, hb7⟩
    have HB7 := Lib.hid (HB6.out.trans (hb7.mono HB6.out.size))
    clear hb7
    go_wp2
    go_ret
    exact ⟨rfl, HB7.out⟩
end Go.Proofs.Ytagokefbbdlpcaa
