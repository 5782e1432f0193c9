/- Validate, usable, scaled of the font layer walked. -/
import Derived.Test.YtagokefbbdlpcaaF5
namespace Go.Proofs.Ytagokefbbdlpcaa
set_option linter.unusedVariables false
set_option linter.unusedSimpArgs false
open Go.RowKit

set_option maxHeartbeats 1000000 in
theorem validate_any (f : Fnt) (A1 : Option Addr) (c1 : Nat) (A2 : Option Addr) (c2 : Nat) (A3 : Option Addr) (c3 : Nat) (w : World) (hf : FM w f A1 c1 A2 c2 A3 c3) :
    Calls Try.prog 33 #[f.val A1 c1 A2 c2 A3 c3] w (Cls (vld f) w) := by
  have k1 := hf.l1
  have k2 := hf.l2
  have k3 := hf.l3
  unfold maxLen at k1 k2 k3
  have HF := Lib.hid (hf.below ((Below.refl w.heap.size w).alloc (Nat.le_refl _) (Obj.cells (f.cs A1 c1 A2 c2 A3 c3) 38)))
  have HB := Lib.hid ((Below.refl w.heap.size w).alloc (Nat.le_refl _) (Obj.cells (f.cs A1 c1 A2 c2 A3 c3) 38))
  have HK := Lib.hid (Blk.new w 38 (f.cs A1 c1 A2 c2 A3 c3))
  clear hf
  by_cases h1 : 100 < f.adv.length
  · have HE := Lib.hid (show vld f = 2 by simp [vld, longB, h1])
    have h1' : (100 : Int) < (f.adv.length : Int) := by omega
    unfold Fnt.val
    go_enter Try.func33, Try.ntmps33
    go_wp2
    go_ret
    exact ⟨by rw [HE.out]; rfl, HB.out⟩
  · have h1' : (f.adv.length : Int) ≤ 100 := by omega
    by_cases h2 : 100 < f.ker.length
    · have HE := Lib.hid (show vld f = 2 by simp [vld, longB, h2])
      have h2' : (100 : Int) < (f.ker.length : Int) := by omega
      unfold Fnt.val
      go_enter Try.func33, Try.ntmps33
      go_wp2
      go_ret
      exact ⟨by rw [HE.out]; rfl, HB.out⟩
    · have h2' : (f.ker.length : Int) ≤ 100 := by omega
      by_cases h3 : 100 < f.lig.length
      · have HE := Lib.hid (show vld f = 2 by simp [vld, longB, h3])
        have h3' : (100 : Int) < (f.lig.length : Int) := by omega
        unfold Fnt.val
        go_enter Try.func33, Try.ntmps33
        go_wp2
        go_ret
        exact ⟨by rw [HE.out]; rfl, HB.out⟩
      · have h3' : (f.lig.length : Int) ≤ 100 := by omega
        have HL := Lib.hid (show longB f = false by simp [longB, h1, h2, h3])
        unfold Fnt.val
        go_enter Try.func33, Try.ntmps33
        go_wp2_with fail
        refine (ranges_any f A1 c1 A2 c2 A3 c3 _ HF.out (by omega) (by omega) (by omega)).mono ?_
        rintro e w1 ⟨rfl, hb1⟩
        have HB1 := Lib.hid (HB.out.trans (hb1.mono HB.out.size))
        have HF1 := Lib.hid (HF.out.below hb1)
        have hK1 := HK.out.below hb1 HK.out.lt
        have g0 : w1.cell? ⟨w.heap.size, 0, none⟩ = some (.int .i64 f.u) := by rw [hK1.cell]; rfl
        have g1 : w1.cell? ⟨w.heap.size, 1, none⟩ = some (.int .i64 f.a) := by rw [hK1.cell]; rfl
        have g2 : w1.cell? ⟨w.heap.size, 2, none⟩ = some (.int .i64 f.d) := by rw [hK1.cell]; rfl
        have g3 : w1.cell? ⟨w.heap.size, 3, none⟩ = some (.int .i64 f.g) := by rw [hK1.cell]; rfl
        have g4 : w1.cell? ⟨w.heap.size, 4, none⟩ = some (.int .i64 f.df) := by rw [hK1.cell]; rfl
        have g5 : w1.cell? ⟨w.heap.size, 5, none⟩ = some (.slice A1 f.adv.length c1) := by rw [hK1.cell]; rfl
        have g6 : w1.cell? ⟨w.heap.size, 6, none⟩ = some (.slice A2 f.ker.length c2) := by rw [hK1.cell]; rfl
        have g7 : w1.cell? ⟨w.heap.size, 7, none⟩ = some (.slice A3 f.lig.length c3) := by rw [hK1.cell]; rfl
        clear hb1 hK1
        cases hr : rangesB f
        · have HE := Lib.hid (show vld f = 1 by simp [vld, HL.out, hr])
          clear hr
          go_wp2
          go_ret
          exact ⟨by rw [HE.out]; rfl, HB1.out⟩
        · have HR := Lib.hid hr
          clear hr
          go_wp2_with fail
          refine (ordered_any f A1 c1 A2 c2 A3 c3 _ HF1.out (by omega) (by omega) (by omega)).mono ?_
          rintro e w2 ⟨rfl, hb2⟩
          have HB2 := Lib.hid (HB1.out.trans (hb2.mono HB1.out.size))
          clear hb2
          cases ho : ordB f
          · have HE := Lib.hid (show vld f = 10 by simp [vld, HL.out, HR.out, ho])
            clear ho
            go_wp2
            go_ret
            exact ⟨by rw [HE.out]; rfl, HB2.out⟩
          · have HE := Lib.hid (show vld f = 0 by simp [vld, HL.out, HR.out, ho])
            clear ho
            go_wp2
            go_ret
            exact ⟨by rw [HE.out]; rfl, HB2.out⟩

/-- Whether a font and a size can be used. -/
def useB (f : Fnt) (size : Int) : Bool := inB size 1 1000 && decide (vld f = 0)

theorem fm_box {w : World} {f : Fnt} {A1 A2 A3 : Option Addr} {c1 c2 c3 : Nat} (h : FM w f A1 c1 A2 c2 A3 c3) : FM (w.alloc (Obj.cells (f.cs A1 c1 A2 c2 A3 c3) 38)) f A1 c1 A2 c2 A3 c3 :=
  h.below ((Below.refl w.heap.size w).alloc (Nat.le_refl _) _)

theorem usable_any (f : Fnt) (size : Int) (A1 : Option Addr) (c1 : Nat) (A2 : Option Addr) (c2 : Nat) (A3 : Option Addr) (c3 : Nat) (w : World) (hf : FM w f A1 c1 A2 c2 A3 c3) :
    Calls Try.prog 45 #[f.val A1 c1 A2 c2 A3 c3, .int .i64 size] w (Blb (useB f size) w) := by
  have HF := Lib.hid (fm_box hf)
  have HB := Lib.hid ((Below.refl w.heap.size w).alloc (Nat.le_refl _) (Obj.cells (f.cs A1 c1 A2 c2 A3 c3) 38))
  clear hf
  unfold Fnt.val
  go_enter Try.func45, Try.ntmps45
  go_wp2_with fail
  refine (within_any size 1 1000 _).mono ?_
  rintro e wc ⟨rfl, rfl⟩
  cases hs : inB size 1 1000
  · have HE := Lib.hid (show useB f size = false by simp [useB, hs])
    clear hs
    go_wp2
    go_ret
    exact ⟨by rw [HE.out]; rfl, HB.out⟩
  · have HS := Lib.hid hs
    clear hs
    go_wp2_with fail
    refine (validate_any f A1 c1 A2 c2 A3 c3 _ HF.out).mono ?_
    rintro e w1 ⟨rfl, hb1⟩
    have HB1 := Lib.hid (HB.out.trans (hb1.mono HB.out.size))
    clear hb1
    by_cases hv : vld f = 0
    · have hd : (vld f == 0) = true := by simpa using hv
      have HE := Lib.hid (show useB f size = true by simp [useB, HS.out, hv])
      clear hv
      go_wp2
      go_ret
      exact ⟨by rw [HE.out]; rfl, HB1.out⟩
    · have hd : (vld f == 0) = false := by simpa using hv
      have HE := Lib.hid (show useB f size = false by simp [useB, hv])
      clear hv
      go_wp2
      go_ret
      exact ⟨by rw [HE.out]; rfl, HB1.out⟩

theorem scaled_any (f : Fnt) (size v : Int) (A1 : Option Addr) (c1 : Nat) (A2 : Option Addr) (c2 : Nat) (A3 : Option Addr) (c3 : Nat) (w : World) (hu : 16 ≤ f.u ∧ f.u ≤ 4096) (hv : -10000000 ≤ v * size ∧ v * size ≤ 10000000) :
    Calls Try.prog 46 #[f.val A1 c1 A2 c2 A3 c3, .int .i64 size, .int .i64 v] w (Cls (rnd (v * size) f.u) w) := by
  obtain ⟨hu1, hu2⟩ := hu
  obtain ⟨hv1, hv2⟩ := hv
  have HB := Lib.hid ((Below.refl w.heap.size w).alloc (Nat.le_refl _) (Obj.cells (f.cs A1 c1 A2 c2 A3 c3) 38))
  unfold Fnt.val
  go_enter Try.func46, Try.ntmps46
  go_wp2_with fail
  refine (round_any (v * size) f.u _ (by omega) ⟨hv1, hv2⟩).mono ?_
  rintro e wc ⟨rfl, rfl⟩
  go_wp2
  go_ret
  exact ⟨rfl, HB.out⟩
theorem rscaled_any (f : Fnt) (size v : Int) (A1 : Option Addr) (c1 : Nat) (A2 : Option Addr) (c2 : Nat) (A3 : Option Addr) (c3 : Nat) (w : World) (hu : 16 ≤ f.u ∧ f.u ≤ 4096) (hv : -10000000 ≤ v * size ∧ v * size ≤ 10000000) :
    Calls Try.prog 73 #[f.val A1 c1 A2 c2 A3 c3, .int .i64 size, .int .i64 v] w (Cls (rnd (v * size) f.u) w) := by
  obtain ⟨hu1, hu2⟩ := hu
  obtain ⟨hv1, hv2⟩ := hv
  have HB := Lib.hid ((Below.refl w.heap.size w).alloc (Nat.le_refl _) (Obj.cells (f.cs A1 c1 A2 c2 A3 c3) 38))
  unfold Fnt.val
  go_enter Try.func73, Try.ntmps73
  go_wp2_with fail
  refine (rround_any (v * size) f.u _ (by omega) ⟨hv1, hv2⟩).mono ?_
  rintro e wc ⟨rfl, rfl⟩
  go_wp2
  go_ret
  exact ⟨rfl, HB.out⟩
end Go.Proofs.Ytagokefbbdlpcaa
