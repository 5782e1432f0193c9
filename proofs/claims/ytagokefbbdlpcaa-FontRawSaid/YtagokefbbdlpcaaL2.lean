/- FontRaw walked. -/
import Derived.Test.YtagokefbbdlpcaaK8
import Derived.Test.YtagokefbbdlpcaaR3
import Derived.Test.YtagokefbbdlpcaaG4
namespace Go.Proofs.Ytagokefbbdlpcaa
set_option linter.unusedVariables false
set_option linter.unusedSimpArgs false
open Go.RowKit

set_option maxRecDepth 100000 in
set_option maxHeartbeats 4000000 in
theorem fraw_any (f : Fnt) (s a b : Int) (A1 : Option Addr) (c1 : Nat) (A2 : Option Addr) (c2 : Nat) (A3 : Option Addr) (c3 : Nat) (w : World) (hf : FM w f A1 c1 A2 c2 A3 c3) (ha : -2147483648 ≤ a) :
    Calls Try.prog 7 #[f.val A1 c1 A2 c2 A3 c3, .int .i64 s, .int .i32 a, .int .i32 b] w (Blb true w) := by
  have HF := Lib.hid (fm_box hf)
  have HB := Lib.hid ((Below.refl w.heap.size w).alloc (Nat.le_refl _) (Obj.cells (f.cs A1 c1 A2 c2 A3 c3) 38))
  clear hf
  by_cases h1 : 150 < f.adv.length
  · have h1' : (150 : Int) < (f.adv.length : Int) := by omega
    unfold Fnt.val
    go_enter Try.func7, Try.ntmps7
    go_wp2
    go_ret
    exact ⟨rfl, HB.out⟩
  · have h1' : (f.adv.length : Int) ≤ 150 := by omega
    by_cases h2 : 150 < f.ker.length
    · have h2' : (150 : Int) < (f.ker.length : Int) := by omega
      unfold Fnt.val
      go_enter Try.func7, Try.ntmps7
      go_wp2
      go_ret
      exact ⟨rfl, HB.out⟩
    · have h2' : (f.ker.length : Int) ≤ 150 := by omega
      by_cases h3 : 150 < f.lig.length
      · have h3' : (150 : Int) < (f.lig.length : Int) := by omega
        unfold Fnt.val
        go_enter Try.func7, Try.ntmps7
        go_wp2
        go_ret
        exact ⟨rfl, HB.out⟩
      · have h3' : (f.lig.length : Int) ≤ 150 := by omega
        clear h1 h2 h3
        unfold Fnt.val
        go_enter Try.func7, Try.ntmps7
        go_wp2_with fail
        refine (same_any rv f s a b A1 c1 A2 c2 A3 c3 _ HF.out ha).mono ?_
        rintro e w1 ⟨rfl, hb1⟩
        have HB1 := Lib.hid (HB.out.trans (hb1.mono HB.out.size))
        clear hb1
        go_wp2_with fail
        refine (awakeF_any _).mono ?_
        rintro e w2 ⟨rfl, hb2⟩
        have HB2 := Lib.hid (HB1.out.trans (hb2.mono HB1.out.size))
        clear hb2
        go_wp2
        go_ret
        exact ⟨rfl, HB2.out⟩
end Go.Proofs.Ytagokefbbdlpcaa
