/- The check of the font statements walked. -/
import Derived.Test.YtagokefbbdlpcaaG3
namespace Go.Proofs.Ytagokefbbdlpcaa
set_option linter.unusedVariables false
set_option linter.unusedSimpArgs false
open Go.RowKit

theorem awakeF_any (w : World) : Calls Try.prog 31 #[] w (Blb true w) := by
  have k0 := Lib.hid (fun w => (show Calls Try.prog 33 #[PL.val none 0 none 0 none 0] w (Cls 0 w) by have := validate_any PL none 0 none 0 none 0 w (pl_fm w); rwa [pl_vld] at this))
  have k1 := Lib.hid (fun w => (show Calls Try.prog 27 #[PL.val none 0 none 0 none 0, .int .i64 16, .int .i32 97] w (Cls 8 w) by have := advance_any PL 16 97 none 0 none 0 none 0 w (pl_fm w) (by omega); rwa [pl_adv] at this))
  have k2 := Lib.hid (fun w => (show Calls Try.prog 28 #[PL.val none 0 none 0 none 0, .int .i64 10] w (Cls 8 w) by have := ascent_any PL 10 none 0 none 0 none 0 w (pl_fm w); rwa [pl_asc] at this))
  have k3 := Lib.hid (fun w => (show Calls Try.prog 30 #[PL.val none 0 none 0 none 0, .int .i64 10] w (Cls 10 w) by have := height_any PL 10 none 0 none 0 none 0 w (pl_fm w); rwa [pl_hei] at this))
  go_enter Try.func31, Try.ntmps31
  go_wp2_with fail
  refine (plain_any _).mono ?_
  rintro e w1 ⟨rfl, hb1⟩
  go_wp2_with fail
  refine (k0.out _).mono ?_
  rintro e w2 ⟨rfl, hb2⟩
  have HB := Lib.hid (hb1.trans (hb2.mono hb1.size))
  clear hb1 hb2
  go_wp2_with fail
  refine (plain_any _).mono ?_
  rintro e w3 ⟨rfl, hb1⟩
  go_wp2_with fail
  refine (k1.out _).mono ?_
  rintro e w4 ⟨rfl, hb2⟩
  have HB := Lib.hid (HB.out.trans ((hb1.trans (hb2.mono hb1.size)).mono HB.out.size))
  clear hb1 hb2
  go_wp2_with fail
  refine (plain_any _).mono ?_
  rintro e w5 ⟨rfl, hb1⟩
  go_wp2_with fail
  refine (k2.out _).mono ?_
  rintro e w6 ⟨rfl, hb2⟩
  have HB := Lib.hid (HB.out.trans ((hb1.trans (hb2.mono hb1.size)).mono HB.out.size))
  clear hb1 hb2
  go_wp2_with fail
  refine (plain_any _).mono ?_
  rintro e w7 ⟨rfl, hb1⟩
  go_wp2_with fail
  refine (k3.out _).mono ?_
  rintro e w8 ⟨rfl, hb2⟩
  have HB := Lib.hid (HB.out.trans ((hb1.trans (hb2.mono hb1.size)).mono HB.out.size))
  clear hb1 hb2
  go_wp2
  go_ret
  exact ⟨rfl, HB.out⟩
end Go.Proofs.Ytagokefbbdlpcaa
