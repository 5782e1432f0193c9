/- The source's font walked. -/
import Derived.Test.YtagokefbbdlpcaaG5
import Derived.Deep.RegionHeld3
import Derived.Deep.RegionLawGrows
import Derived.Deep.CutBlock
namespace Go.Proofs.Ytagokefbbdlpcaa
set_option linter.unusedVariables false
set_option linter.unusedSimpArgs false
open Go.RowKit

def FontIn (g B : Nat) (w : World) (e : Ending) (w' : World) : Prop :=
  ∃ (f : Fnt) (v1 v2 v3 : Value), e = .returned (.agg (f.cv v1 v2 v3)) ∧ vld f = 0 ∧ w'.ownsRow w.heap.size 54 3 v1 f.adv.length (acells f.adv) ∧ w'.ownsRow w.heap.size 48 3 v2 f.ker.length (kcells f.ker) ∧
    w'.ownsRow w.heap.size 50 4 v3 f.lig.length (lcells f.lig) ∧ SrcIs w' g B ∧ w.grownBy w' (some g)

section
variable {w0 w w' : World} {g B r fb ab : Nat} {f : Fnt} {v1 v2 v3 : Value}
theorem FS.c5 (h : FS w0 g B r fb ab f v1 v2 v3 w) : w.cell? ⟨fb, 5, none⟩ = some v1 := by rw [h.blk.cell]; rfl
theorem FS.c6 (h : FS w0 g B r fb ab f v1 v2 v3 w) : w.cell? ⟨fb, 6, none⟩ = some v2 := by rw [h.blk.cell]; rfl
theorem FS.c7 (h : FS w0 g B r fb ab f v1 v2 v3 w) : w.cell? ⟨fb, 7, none⟩ = some v3 := by rw [h.blk.cell]; rfl
end

theorem own_sl {w : World} {base e size n : Nat} {v : Value} {xs : List Value} (h : w.ownsRow base e size v n xs) : ∃ A c, v = .slice A n c ∧ n ≤ maxLen := by
  obtain ⟨A, c, rfl, h1, h2, _⟩ := own_slr h
  exact ⟨A, c, rfl, Nat.le_trans h1 h2⟩
def Asc2 (x y p q : Int) : Prop := x < p ∨ x = p ∧ y < q
theorem res_cells {w : World} {r : Nat} {u0 u1 u2 u3 u4 u5 u6 u7 : Value} (h : Blk w r 38 #[u0, u1, u2, u3, u4, u5, u6, u7]) :
    w.cell? ⟨r, 0, none⟩ = some u0 ∧ w.cell? ⟨r, 1, none⟩ = some u1 ∧ w.cell? ⟨r, 2, none⟩ = some u2 ∧ w.cell? ⟨r, 3, none⟩ = some u3 ∧ w.cell? ⟨r, 4, none⟩ = some u4 ∧ w.cell? ⟨r, 5, none⟩ = some u5 ∧ w.cell? ⟨r, 6, none⟩ = some u6 ∧ w.cell? ⟨r, 7, none⟩ = some u7 := by
  refine ⟨?_, ?_, ?_, ?_, ?_, ?_, ?_, ?_⟩ <;> (rw [h.cell]; rfl)
/-- Eight stores into the result's variable. -/
def set8 (w : World) (r : Nat) (u0 u1 u2 u3 u4 u5 u6 u7 : Value) : World :=
  (((((((w.setCell ⟨r, 0, none⟩ u0).setCell ⟨r, 1, none⟩ u1).setCell ⟨r, 2, none⟩ u2).setCell ⟨r, 3, none⟩ u3).setCell ⟨r, 4, none⟩ u4).setCell ⟨r, 5, none⟩ u5).setCell ⟨r, 6, none⟩ u6).setCell ⟨r, 7, none⟩ u7
theorem blk_set8 {w : World} {r : Nat} (h : Blk w r 38 fontZ) (u0 u1 u2 u3 u4 u5 u6 u7 : Value) :
    Blk ((((((((w.setCell ⟨r, 0, none⟩ u0).setCell ⟨r, 1, none⟩ u1).setCell ⟨r, 2, none⟩ u2).setCell ⟨r, 3, none⟩ u3).setCell ⟨r, 4, none⟩ u4).setCell ⟨r, 5, none⟩ u5).setCell ⟨r, 6, none⟩ u6).setCell ⟨r, 7, none⟩ u7) r 38 #[u0, u1, u2, u3, u4, u5, u6, u7] := by
  have := (((((((h.set_ 0 u0).set_ 1 u1).set_ 2 u2).set_ 3 u3).set_ 4 u4).set_ 5 u5).set_ 6 u6).set_ 7 u7
  simpa [fontZ] using this
theorem own_set8 {w : World} {base e size n r : Nat} {v : Value} {xs : List Value} (h : w.ownsRow base e size v n xs) (hne : v.ownBlock ≠ some r) (u0 u1 u2 u3 u4 u5 u6 u7 : Value) :
    ((((((((w.setCell ⟨r, 0, none⟩ u0).setCell ⟨r, 1, none⟩ u1).setCell ⟨r, 2, none⟩ u2).setCell ⟨r, 3, none⟩ u3).setCell ⟨r, 4, none⟩ u4).setCell ⟨r, 5, none⟩ u5).setCell ⟨r, 6, none⟩ u6).setCell ⟨r, 7, none⟩ u7).ownsRow base e size v n xs :=
  own_far (own_far (own_far (own_far (own_far (own_far (own_far (own_far h hne _) hne _) hne _) hne _) hne _) hne _) hne _) hne _
theorem below_set8 {w : World} {r H : Nat} (hr : H ≤ r) (u0 u1 u2 u3 u4 u5 u6 u7 : Value) :
    Below H w ((((((((w.setCell ⟨r, 0, none⟩ u0).setCell ⟨r, 1, none⟩ u1).setCell ⟨r, 2, none⟩ u2).setCell ⟨r, 3, none⟩ u3).setCell ⟨r, 4, none⟩ u4).setCell ⟨r, 5, none⟩ u5).setCell ⟨r, 6, none⟩ u6).setCell ⟨r, 7, none⟩ u7) :=
  ((((((((Below.refl H w).setCell (p := ⟨r, 0, none⟩) hr _).setCell (p := ⟨r, 1, none⟩) hr _).setCell (p := ⟨r, 2, none⟩) hr _).setCell (p := ⟨r, 3, none⟩) hr _).setCell (p := ⟨r, 4, none⟩) hr _).setCell (p := ⟨r, 5, none⟩) hr _).setCell (p := ⟨r, 6, none⟩) hr _).setCell (p := ⟨r, 7, none⟩) hr _
theorem FS.fin {w0 w : World} {g B r fb ab : Nat} {f : Fnt} {v1 v2 v3 : Value} (h : FS w0 g B r fb ab f v1 v2 v3 w) (u0 u1 u2 u3 u4 u5 u6 u7 : Value) {w' : World}
    (hw : w' = ((((((((w.setCell ⟨r, 0, none⟩ u0).setCell ⟨r, 1, none⟩ u1).setCell ⟨r, 2, none⟩ u2).setCell ⟨r, 3, none⟩ u3).setCell ⟨r, 4, none⟩ u4).setCell ⟨r, 5, none⟩ u5).setCell ⟨r, 6, none⟩ u6).setCell ⟨r, 7, none⟩ u7)) :
    w'.ownsRow w0.heap.size 54 3 v1 f.adv.length (acells f.adv) ∧ w'.ownsRow w0.heap.size 48 3 v2 f.ker.length (kcells f.ker) ∧ w'.ownsRow w0.heap.size 50 4 v3 f.lig.length (lcells f.lig) ∧ SrcIs w' g B ∧ w0.grownBy w' (some g) := by
  subst hw
  exact ⟨own_set8 h.o1 (own_blk_ne h.o1 h.res (by decide)) _ _ _ _ _ _ _ _, own_set8 h.o2 (own_blk_ne h.o2 h.res (by decide)) _ _ _ _ _ _ _ _, own_set8 h.o3 (own_blk_ne h.o3 h.res (by decide)) _ _ _ _ _ _ _ _,
    h.src.belowH (below_set8 h.lr _ _ _ _ _ _ _ _) h.gl, gb_below h.gb (below_set8 h.lr _ _ _ _ _ _ _ _)⟩
theorem FS.font {w0 w : World} {g B r fb ab : Nat} {f : Fnt} {v1 v2 v3 : Value} (h : FS w0 g B r fb ab f v1 v2 v3 w) (hv : vld f = 0) (u0 u1 u2 u3 u4 u5 u6 u7 : Value) :
    FontIn g B w0 (.returned (.agg (f.cv v1 v2 v3))) ((((((((w.setCell ⟨r, 0, none⟩ u0).setCell ⟨r, 1, none⟩ u1).setCell ⟨r, 2, none⟩ u2).setCell ⟨r, 3, none⟩ u3).setCell ⟨r, 4, none⟩ u4).setCell ⟨r, 5, none⟩ u5).setCell ⟨r, 6, none⟩ u6).setCell ⟨r, 7, none⟩ u7) := by
  obtain ⟨k1, k2, k3, k4, k5⟩ := h.fin u0 u1 u2 u3 u4 u5 u6 u7 rfl
  exact ⟨f, v1, v2, v3, rfl, hv, k1, k2, k3, k4, k5⟩

set_option maxRecDepth 100000 in
set_option maxHeartbeats 4000000 in
theorem font_any (g B : Nat) (w : World) (h : SrcIs w g B) : Calls Try.prog 25 #[.pointer (some ⟨g, 0, none⟩)] w (FontIn g B w) := by
  have hg := h.lt
  obtain ⟨i1, hi1, hz1, hy1, hx1⟩ := info_parts adv_info
  obtain ⟨i2, hi2, hz2, hy2, hx2⟩ := info_parts ker_info
  obtain ⟨i3, hi3, hz3, hy3, hx3⟩ := info_parts lig_info
  have hs0 := h.belowH ((Below.refl w.heap.size w).alloc (Nat.le_refl _) (Obj.cells fontZ 38)) hg
  have HG0 := Lib.hid (gb_below (World.grownBy.refl w (some g)) ((Below.refl w.heap.size w).alloc (Nat.le_refl _) (Obj.cells fontZ 38)))
  have HR0 := Lib.hid (Blk.new w 38 fontZ)
  go_enter Try.func25, Try.ntmps25
  go_wp2_with fail
  refine (range_any g B _ _ _ hs0 (by omega) (by omega) (by omega)).mono ?_
  rintro e w1 ⟨r1, rfl, a1, b1, hs1, hg1⟩
  go_wp2_with fail
  refine (range_any g B _ _ _ hs1 (by omega) (by omega) (by omega)).mono ?_
  rintro e w2 ⟨r2, rfl, a2, b2, hs2, hg2⟩
  go_wp2_with fail
  refine (n_any g B _ _ hs2 (by omega) (by omega)).mono ?_
  rintro e w3 ⟨r3, rfl, a3, b3, _, hs3, hg3⟩
  have b3 := b3 (by omega)
  go_wp2_with fail
  refine (n_any g B _ _ hs3 (by omega) (by omega)).mono ?_
  rintro e w4 ⟨r4, rfl, a4, b4, _, hs4, hg4⟩
  have b4 := b4 (by omega)
  go_wp2_with fail
  refine (n_any g B _ _ hs4 (by omega) (by omega)).mono ?_
  rintro e w5 ⟨r5, rfl, a5, b5, _, hs5, hg5⟩
  have b5 := b5 (by omega)
  have hg15 := gb_trans (gb_trans (gb_trans (gb_trans hg1 hg2) hg3) hg4) hg5
  have HG5 := Lib.hid (gb_trans HG0.out hg15)
  have HR5 := Lib.hid (blk_gb HR0.out hg15 (by omega))
  clear hg15 hg1 hg2 hg3 hg4 hg5 hs0 hs1 hs2 hs3 hs4
  have hw5 : w.heap.size < w5.heap.size := HR5.out.lt
  go_wp2_with fail
  refine (alph_any _).mono ?_
  rintro e w7 ⟨ab, rfl, hab, hbk, hbl⟩
  have HFS := Lib.hid (show FS w g B w.heap.size w5.heap.size ab ⟨r1, r2, r3, r4, r5, [], [], []⟩ (.slice none 0 0) (.slice none 0 0) (.slice none 0 0) w7 from by
    have hx : w5.heap.size < w7.heap.size := by have := hbl.size; simp at this; omega
    refine ⟨((Blk.new w5 38 _).below hbl (by simp) :), (HR5.out.alloc _).below hbl (by simp; omega), hbk, World.ownsRow_nil _ _ _ _, World.ownsRow_nil _ _ _ _, World.ownsRow_nil _ _ _ _, (hs5.belowH ((Below.refl w.heap.size _).alloc (by omega) _) hg).belowH (hbl.mono (by simp; omega)) hg, gb_below (gb_below HG5.out ((Below.refl w.heap.size _).alloc (by omega) _)) (hbl.mono (by simp; omega)), hg, by omega, Nat.le_refl _, by simp at hab; omega, by omega⟩)
  have HAB := Lib.hid hab
  have HR := Lib.hid (show (16 ≤ r1 ∧ r1 ≤ 200) ∧ (1 ≤ r2 ∧ r2 ≤ 100) ∧ (0 ≤ r3 ∧ r3 < 40) ∧ (0 ≤ r4 ∧ r4 < 30) ∧ (0 ≤ r5 ∧ r5 < 120) by omega)
  clear hab hbk hbl hs5 a1 a2 a3 a4 a5 b1 b2 b3 b4 b5
  go_wp2
  go_loopw [5, 6] (fun s5 s6 wr => ∃ (k : Nat) (at_ : Int) (l : List Adv) (v1 : Value), s5 = .int .i32 at_ ∧ s6 = .int .i64 (k : Int) ∧ k ≤ 4 ∧ l.length ≤ k ∧ AInv at_ l ∧ FS w g B w.heap.size w5.heap.size ab ⟨r1, r2, r3, r4, r5, l, [], []⟩ v1 (.slice none 0 0) (.slice none 0 0) wr) (fun _ s6 _ => 4 - (intOf s6).toNat)
  case atStart => exact ⟨0, -1, [], _, rfl, rfl, by omega, by simp, AInv.nil, HFS.out⟩
  case round =>
    obtain ⟨k, at_, l, v1, rfl, rfl, hk, hll, hai, hfs⟩ := hrel
    have HAI := Lib.hid hai
    have HF := Lib.hid hfs
    have HLL := Lib.hid hll
    clear hai hfs hll
    by_cases hk4 : k < 4
    · have hk4' : (k : Int) < 4 := by omega
      go_wp2_with fail
      refine (n_any g B _ _ HF.out.src (by omega) (by omega)).mono ?_
      rintro e w8 ⟨r8, rfl, a8, b8, _, hs8, hg8⟩
      have b8 := b8 (by omega)
      have HF8 := Lib.hid (HF.out.call hs8 hg8)
      clear hs8 hg8
      obtain ⟨i8, rfl⟩ := Int.eq_ofNat_of_zero_le a8
      obtain ⟨p, hp, _, p0, p1⟩ := HF8.out.ab_cell i8 (by omega)
      have hi8 : (i8 : Int) < 89 := b8
      by_cases hpa : at_ < p
      · go_wp2_with fail
        refine (n_any g B _ _ HF8.out.src (by omega) (by omega)).mono ?_
        rintro e w9 ⟨r9, rfl, a9, b9, _, hs9, hg9⟩
        have b9 := b9 (by omega)
        have HF9 := Lib.hid (HF8.out.call hs9 hg9)
        clear hs9 hg9 hp
        have hw1 : wrap32 r9 = r9 := by unfold wrap32; omega
        have hw2 : wrap32 (p + r9) = p + r9 := by unfold wrap32; omega
        go_upto_region 10 with (fail)
        generalize hq : (if 1114111 < p + r9 then 1114111 else p + r9) = q
        have q0 : p ≤ q ∧ q ≤ 1114111 := by split at hq <;> omega
        have HQ := Lib.hid q0
        have c5 := HF9.out.c5
        have hfr := HF9.out.blk.frozen 5
        clear hq q0
        go_region_law (first
          | (refine step_append_any _ (by rfl) (.tmp 50) (.tmp 56) _ (by rfl) w.heap.size 54 i1 _ 3 16 Try.underlying34 hi1 hz1 hy1 hx1 rfl (by omega) v1 l.length (acells l) (by rfl)
               (HF10.out.alloc (Obj.cells #[.int .i32 p, .int .i32 q, .int .i64 r10] 54)).o1 _ _ 1 1 _ (by rfl) (reads_new w10 #[.int .i32 p, .int .i32 q, .int .i64 r10] 54 3 1 rfl) (by intro u hu; simp at hu; rcases hu with rfl | rfl | rfl <;> rfl) (by have := HLL.out; simp only [maxLen]; omega) (by have := HLL.out; omega) (by have := HF10.out.gb.size; simp; omega) ?_
             intro v13 w13 hown13 hg13 hat13
             obtain ⟨g13, k13, rfl, _, _, _⟩ := own_form hown13 (by omega)
             have hb13 := blk_own (HF10.out.alloc (Obj.cells #[.int .i32 p, .int .i32 q, .int .i64 r10] 54)).blk (HF10.out.alloc (Obj.cells #[.int .i32 p, .int .i32 q, .int .i64 r10] 54)).o1 (by decide) hg13
             have c13 : w13.cell? ⟨w5.heap.size, 5, none⟩ = some v1 := by rw [hb13.cell]; rfl
             have f13 := hb13.frozen 5
             have HF13 := Lib.hid ((HF10.out.alloc (Obj.cells #[.int .i32 p, .int .i32 q, .int .i64 r10] 54)).app1 ⟨p, q, r10⟩ hown13 hg13)
             clear hown13 hg13 hat13 hb13)
          | (go_simp; go_at_call 34; refine (n_any g B _ _ HF9.out.drew.src (by omega) (by omega)).mono ?_
             rintro e w10 ⟨r10, rfl, a10, b10, _, hs10, hg10⟩
             have b10 := b10 (by omega)
             have HF10 := Lib.hid (HF9.out.drew.call hs10 hg10)
             have c10 := HF10.out.c5
             have c10a := (HF10.out.alloc (Obj.cells #[.int .i32 p, .int .i32 q, .int .i64 r10] 54)).c5
             clear hs10 hg10))
        all_goals
          go_wp2
          go_roundw
          case rel => exact ⟨k + 1, q, l ++ [⟨p, q, r10⟩], _, rfl, by go_num, by omega, by have := HLL.out; simp; omega, HAI.out.snoc hpa p0 HQ.out.1 HQ.out.2 a10 (by omega), HF13.out⟩
          case measure => simp [intOf]; omega
      · go_wp2
        go_roundw
        case rel => exact ⟨k + 1, at_, l, v1, rfl, by go_num, by omega, by have := HLL.out; omega, HAI.out, HF8.out⟩
        case measure => simp [intOf]; omega
    · obtain rfl : k = 4 := by omega
      have HLA := Lib.hid (show l.length ≤ 4 from HLL.out)
      go_wp2
      go_loopw [9, 10, 11] (fun s9 s10 s11 wr => ∃ (k : Nat) (x y : Int) (m : List Ker) (v2 : Value), s9 = .int .i32 x ∧ s10 = .int .i32 y ∧ s11 = .int .i64 (k : Int) ∧ k ≤ 5 ∧ m.length ≤ k ∧ KInv x y m ∧ FS w g B w.heap.size w5.heap.size ab ⟨r1, r2, r3, r4, r5, l, m, []⟩ v1 v2 (.slice none 0 0) wr) (fun _ _ s11 _ => 5 - (intOf s11).toNat)
      case atStart => exact ⟨0, -1, -1, [], _, rfl, rfl, rfl, by omega, by simp, KInv.nil _ _, HF.out⟩
      case round =>
        clear hk hk4 HF HLL
        obtain ⟨k, x, y, m, v2, rfl, rfl, rfl, hk, hml, hki, hfs⟩ := hrel
        have HKI := Lib.hid hki
        have HM := Lib.hid hfs
        have HML := Lib.hid hml
        clear hki hfs hml
        by_cases hk5 : k < 5
        · have hk5' : (k : Int) < 5 := by omega
          go_upto_region 16 with (fail)
          go_cut [12, 13] from 60 to 98 (fun sP sQ wx => ∃ (p q : Int), sP = .int .i32 p ∧ sQ = .int .i32 q ∧ (0 ≤ p ∧ p ≤ 1114111) ∧ (0 ≤ q ∧ q ≤ 1114111) ∧ FS w g B w.heap.size w5.heap.size ab ⟨r1, r2, r3, r4, r5, l, m, []⟩ v1 v2 (.slice none 0 0) wx)
          case first =>
            go_region_with (first
              | (go_at_call 34; refine (n_any g B _ _ HC1.out.src (by omega) (by omega)).mono ?_
                 rintro e w21 ⟨r21, rfl, a21, b21, _, hs21, hg21⟩
                 have b21 := b21 (by omega)
                 have HC2 := Lib.hid (HC1.out.call hs21 hg21)
                 clear hs21 hg21
                 obtain ⟨i21, rfl⟩ := Int.eq_ofNat_of_zero_le a21
                 obtain ⟨p21, hp21, hx21, u0, u1⟩ := HC2.out.ab_cell i21 (by omega)
                 have hp20 := HC2.out.ab_keep HX20.out
                 have hi21 : (i21 : Int) < 89 := by omega)
              | (go_at_call 34; refine (n_any g B _ _ HM.out.drew.src (by omega) (by omega)).mono ?_
                 rintro e w20 ⟨r20, rfl, a20, b20, _, hs20, hg20⟩
                 have b20 := b20 (by omega)
                 have HC1 := Lib.hid (HM.out.drew.call hs20 hg20)
                 clear hs20 hg20
                 obtain ⟨i20, rfl⟩ := Int.eq_ofNat_of_zero_le a20
                 obtain ⟨p20, hp20, hx20, t0, t1⟩ := HC1.out.ab_cell i20 (by omega)
                 have HX20 := Lib.hid hx20
                 have hi20 : (i20 : Int) < 89 := by omega))
            all_goals
              go_wp2
              go_meet
              case rel => exact ⟨_, _, rfl, rfl, ⟨by assumption, by assumption⟩, ⟨by assumption, by assumption⟩, HC2.out⟩

          case rest =>
            obtain ⟨p, q, rfl, rfl, hp0, hq0, hfx⟩ := hcut
            have HC := Lib.hid hfx
            clear hfx
            by_cases h1 : x < p
            · have h1b : decide (x < p) = true := by simpa using h1
              have HXY := Lib.hid (show Asc2 x y p q from .inl h1)
              go_upto_region 18 with (fail)
              have c5 := HC.out.c6
              have hfr := HC.out.blk.frozen 6
              go_region_law (first
                | (refine step_append_any _ (by rfl) (.tmp 88) (.tmp 94) _ (by rfl) w.heap.size 48 i2 _ 3 16 Try.underlying35 hi2 hz2 hy2 hx2 rfl (by omega) v2 m.length (kcells m) (by rfl)
                     (HF10.out.alloc (Obj.cells #[.int .i32 p, .int .i32 q, .int .i64 r30] 48)).o2 _ _ 1 1 _ (by rfl) (reads_new w30 #[.int .i32 p, .int .i32 q, .int .i64 r30] 48 3 1 rfl) (by intro u hu; simp at hu; rcases hu with rfl | rfl | rfl <;> rfl) (by have := HML.out; simp only [maxLen]; omega) (by have := HML.out; omega) (by have := HF10.out.gb.size; simp; omega) ?_
                   intro v13 w13 hown13 hg13 hat13
                   obtain ⟨g13, k13, rfl, _, _, _⟩ := own_form hown13 (by omega)
                   have hb13 := blk_own (HF10.out.alloc (Obj.cells #[.int .i32 p, .int .i32 q, .int .i64 r30] 48)).blk (HF10.out.alloc (Obj.cells #[.int .i32 p, .int .i32 q, .int .i64 r30] 48)).o2 (by decide) hg13
                   have c13 : w13.cell? ⟨w5.heap.size, 6, none⟩ = some v2 := by rw [hb13.cell]; rfl
                   have f13 := hb13.frozen 6
                   have HF13 := Lib.hid ((HF10.out.alloc (Obj.cells #[.int .i32 p, .int .i32 q, .int .i64 r30] 48)).app2 ⟨p, q, r30⟩ hown13 hg13)
                   clear hown13 hg13 hat13 hb13)
                | (go_simp; go_at_call 42; refine (range_any g B _ _ _ HC.out.drew.src (by omega) (by omega) (by omega)).mono ?_
                   rintro e w30 ⟨r30, rfl, a30, b30, hs30, hg30⟩
                   have HF10 := Lib.hid (HC.out.drew.call hs30 hg30)
                   have c10 := HF10.out.c6
                   have c10a := (HF10.out.alloc (Obj.cells #[.int .i32 p, .int .i32 q, .int .i64 r30] 48)).c6
                   clear hs30 hg30))
              all_goals
                go_wp2
                go_roundw
                case rel => first | exact ⟨k + 1, p, q, m ++ [⟨p, q, r30⟩], _, rfl, rfl, by go_num, by omega, by have := HML.out; simp; omega, HKI.out.snoc HXY.out hp0 hq0 (by omega), HF13.out⟩ | exact ⟨_, _, _, ⟨k + 1, p, rfl, q, rfl, by go_num, by omega, m ++ [⟨p, q, r30⟩], by have := HML.out; simp; omega, HKI.out.snoc HXY.out hp0 hq0 (by omega), _, HF13.out⟩, rfl, rfl, rfl⟩
                case measure => simp [intOf]; omega

            · have h1b : decide (x < p) = false := by simpa using h1
              by_cases h2 : x = p
              · subst h2
                have h2b : (x == x) = true := by simp
                by_cases h3 : y < q
                · have h3b : decide (y < q) = true := by simpa using h3
                  have HXY := Lib.hid (show Asc2 x y x q from .inr ⟨rfl, h3⟩)
                  go_upto_region 18 with (fail)
                  have c5 := HC.out.c6
                  have hfr := HC.out.blk.frozen 6
                  go_region_law (first
                    | (refine step_append_any _ (by rfl) (.tmp 88) (.tmp 94) _ (by rfl) w.heap.size 48 i2 _ 3 16 Try.underlying35 hi2 hz2 hy2 hx2 rfl (by omega) v2 m.length (kcells m) (by rfl)
                         (HF10.out.alloc (Obj.cells #[.int .i32 x, .int .i32 q, .int .i64 r30] 48)).o2 _ _ 1 1 _ (by rfl) (reads_new w30 #[.int .i32 x, .int .i32 q, .int .i64 r30] 48 3 1 rfl) (by intro u hu; simp at hu; rcases hu with rfl | rfl | rfl <;> rfl) (by have := HML.out; simp only [maxLen]; omega) (by have := HML.out; omega) (by have := HF10.out.gb.size; simp; omega) ?_
                       intro v13 w13 hown13 hg13 hat13
                       obtain ⟨g13, k13, rfl, _, _, _⟩ := own_form hown13 (by omega)
                       have hb13 := blk_own (HF10.out.alloc (Obj.cells #[.int .i32 x, .int .i32 q, .int .i64 r30] 48)).blk (HF10.out.alloc (Obj.cells #[.int .i32 x, .int .i32 q, .int .i64 r30] 48)).o2 (by decide) hg13
                       have c13 : w13.cell? ⟨w5.heap.size, 6, none⟩ = some v2 := by rw [hb13.cell]; rfl
                       have f13 := hb13.frozen 6
                       have HF13 := Lib.hid ((HF10.out.alloc (Obj.cells #[.int .i32 x, .int .i32 q, .int .i64 r30] 48)).app2 ⟨x, q, r30⟩ hown13 hg13)
                       clear hown13 hg13 hat13 hb13)
                    | (go_simp; go_at_call 42; refine (range_any g B _ _ _ HC.out.drew.src (by omega) (by omega) (by omega)).mono ?_
                       rintro e w30 ⟨r30, rfl, a30, b30, hs30, hg30⟩
                       have HF10 := Lib.hid (HC.out.drew.call hs30 hg30)
                       have c10 := HF10.out.c6
                       have c10a := (HF10.out.alloc (Obj.cells #[.int .i32 x, .int .i32 q, .int .i64 r30] 48)).c6
                       clear hs30 hg30))
                  all_goals
                    go_wp2
                    go_roundw
                    case rel => first | exact ⟨k + 1, x, q, m ++ [⟨x, q, r30⟩], _, rfl, rfl, by go_num, by omega, by have := HML.out; simp; omega, HKI.out.snoc HXY.out hp0 hq0 (by omega), HF13.out⟩ | exact ⟨_, _, _, ⟨k + 1, x, rfl, q, rfl, by go_num, by omega, m ++ [⟨x, q, r30⟩], by have := HML.out; simp; omega, HKI.out.snoc HXY.out hp0 hq0 (by omega), _, HF13.out⟩, rfl, rfl, rfl⟩
                    case measure => simp [intOf]; omega

                · have h3b : decide (y < q) = false := by simpa using h3
                  go_wp2
                  go_roundw
                  case rel => exact ⟨k + 1, x, y, m, _, rfl, rfl, by go_num, by omega, by have := HML.out; omega, HKI.out, HC.out⟩
                  case measure => simp [intOf]; omega
              · have h2b : (p == x) = false := by simpa using fun h => h2 h.symm
                go_wp2
                go_roundw
                case rel => exact ⟨k + 1, x, y, m, _, rfl, rfl, by go_num, by omega, by have := HML.out; omega, HKI.out, HC.out⟩
                case measure => simp [intOf]; omega

        · obtain rfl : k = 5 := by omega
          have HLM := Lib.hid (show m.length ≤ 5 from HML.out)
          go_wp2
          go_loopw [9, 10, 14] (fun s9 s10 s14 wr => ∃ (k : Nat) (x y : Int) (n : List Lig) (v3 : Value), s9 = .int .i32 x ∧ s10 = .int .i32 y ∧ s14 = .int .i64 (k : Int) ∧ k ≤ 4 ∧ n.length ≤ k ∧ LInv x y n ∧ FS w g B w.heap.size w5.heap.size ab ⟨r1, r2, r3, r4, r5, l, m, n⟩ v1 v2 v3 wr) (fun _ _ s14 _ => 4 - (intOf s14).toNat)
          case atStart => exact ⟨0, -1, -1, [], _, rfl, rfl, rfl, by omega, by simp, LInv.nil _ _, HM.out⟩
          case round =>
            clear hk hk5 HM HML
            have HKX := HKI
            clear HKI
            obtain ⟨k, x, y, n, v3, rfl, rfl, rfl, hk, hnl, hli, hfs⟩ := hrel
            have HLI := Lib.hid hli
            have HM := Lib.hid hfs
            have HML := Lib.hid hnl
            clear hli hfs hnl
            by_cases hk5 : k < 4
            · have hk5' : (k : Int) < 4 := by omega
              go_upto_region 24 with (fail)
              go_cut [15, 16] from 99 to 140 (fun sP sQ wx => ∃ (p q : Int), sP = .int .i32 p ∧ sQ = .int .i32 q ∧ (0 ≤ p ∧ p ≤ 1114111) ∧ (0 ≤ q ∧ q ≤ 1114111) ∧ FS w g B w.heap.size w5.heap.size ab ⟨r1, r2, r3, r4, r5, l, m, n⟩ v1 v2 v3 wx)
              case first =>
                go_region_with (first
                  | (go_at_call 34; refine (n_any g B _ _ HC1.out.src (by omega) (by omega)).mono ?_
                     rintro e w21 ⟨r21, rfl, a21, b21, _, hs21, hg21⟩
                     have b21 := b21 (by omega)
                     have HC2 := Lib.hid (HC1.out.call hs21 hg21)
                     clear hs21 hg21
                     obtain ⟨i21, rfl⟩ := Int.eq_ofNat_of_zero_le a21
                     obtain ⟨p21, hp21, hx21, u0, u1⟩ := HC2.out.ab_cell i21 (by omega)
                     have hp20 := HC2.out.ab_keep HX20.out
                     have hi21 : (i21 : Int) < 89 := by omega)
                  | (go_at_call 34; refine (n_any g B _ _ HM.out.drew.src (by omega) (by omega)).mono ?_
                     rintro e w20 ⟨r20, rfl, a20, b20, _, hs20, hg20⟩
                     have b20 := b20 (by omega)
                     have HC1 := Lib.hid (HM.out.drew.call hs20 hg20)
                     clear hs20 hg20
                     obtain ⟨i20, rfl⟩ := Int.eq_ofNat_of_zero_le a20
                     obtain ⟨p20, hp20, hx20, t0, t1⟩ := HC1.out.ab_cell i20 (by omega)
                     have HX20 := Lib.hid hx20
                     have hi20 : (i20 : Int) < 89 := by omega))
                all_goals
                  go_wp2
                  go_meet
                  case rel => exact ⟨_, _, rfl, rfl, ⟨by assumption, by assumption⟩, ⟨by assumption, by assumption⟩, HC2.out⟩

              case rest =>
                obtain ⟨p, q, rfl, rfl, hp0, hq0, hfx⟩ := hcut
                have HC := Lib.hid hfx
                clear hfx
                by_cases h1 : x < p
                · have h1b : decide (x < p) = true := by simpa using h1
                  have HXY := Lib.hid (show Asc2 x y p q from .inl h1)
                  go_upto_region 26 with (fail)
                  have c5 := HC.out.c7
                  have hfr := HC.out.blk.frozen 7
                  go_region_law (first
                    | (refine step_append_any _ (by rfl) (.tmp 127) (.tmp 136) _ (by rfl) w.heap.size 50 i3 _ 4 24 Try.underlying36 hi3 hz3 hy3 hx3 rfl (by omega) v3 n.length (lcells n) (by rfl)
                         (HF10.out.alloc (Obj.cells #[.int .i32 p, .int .i32 q, .int .i64 (1114112 + r30), .int .i64 r31] 50)).o3 _ _ 1 1 _ (by rfl) (reads_new w31 #[.int .i32 p, .int .i32 q, .int .i64 (1114112 + r30), .int .i64 r31] 50 4 1 rfl) (by intro u hu; simp at hu; rcases hu with rfl | rfl | rfl | rfl <;> rfl) (by have := HML.out; simp only [maxLen]; omega) (by have := HML.out; omega) (by have := HF10.out.gb.size; simp; omega) ?_
                       intro v13 w13 hown13 hg13 hat13
                       obtain ⟨g13, k13, rfl, _, _, _⟩ := own_form hown13 (by omega)
                       have hb13 := blk_own (HF10.out.alloc (Obj.cells #[.int .i32 p, .int .i32 q, .int .i64 (1114112 + r30), .int .i64 r31] 50)).blk (HF10.out.alloc (Obj.cells #[.int .i32 p, .int .i32 q, .int .i64 (1114112 + r30), .int .i64 r31] 50)).o3 (by decide) hg13
                       have c13 : w13.cell? ⟨w5.heap.size, 7, none⟩ = some v3 := by rw [hb13.cell]; rfl
                       have f13 := hb13.frozen 7
                       have HF13 := Lib.hid ((HF10.out.alloc (Obj.cells #[.int .i32 p, .int .i32 q, .int .i64 (1114112 + r30), .int .i64 r31] 50)).app3 ⟨p, q, 1114112 + r30, r31⟩ hown13 hg13)
                       clear hown13 hg13 hat13 hb13)
                    | (go_simp; first
                        | (go_at_call_of 34 (Value.int IntKind.i64 9); refine (n_any g B _ _ (by first | exact HC.out.drew.src | exact HFa.out.src) (by omega) (by omega)).mono ?_
                           rintro e w30 ⟨r30, rfl, a30, b30, _, hs30, hg30⟩
                           have b30 := b30 (by omega)
                           have hwr : IntKind.i64.wrap (1114112 + r30) = 1114112 + r30 := IntWalk.i64_in _ (by omega)
                           first
                             | (have HF10 := Lib.hid (HFa.out.call hs30 hg30)
                                have c10 := HF10.out.c7
                                have c10a := (HF10.out.alloc (Obj.cells #[.int .i32 p, .int .i32 q, .int .i64 (1114112 + r30), .int .i64 r31] 50)).c7)
                             | (have HFb := Lib.hid (HC.out.drew.call hs30 hg30)
                                have c10 := HFb.out.c7)
                           clear hs30 hg30)
                        | (go_at_call_of 34 (Value.int IntKind.i64 200); refine (n_any g B _ _ (by first | exact HC.out.drew.src | exact HFb.out.src) (by omega) (by omega)).mono ?_
                           rintro e w31 ⟨r31, rfl, a31, b31, _, hs31, hg31⟩
                           have b31 := b31 (by omega)
                           first
                             | (have HF10 := Lib.hid (HFb.out.call hs31 hg31)
                                have c10 := HF10.out.c7
                                have c10a := (HF10.out.alloc (Obj.cells #[.int .i32 p, .int .i32 q, .int .i64 (1114112 + r30), .int .i64 r31] 50)).c7)
                             | (have HFa := Lib.hid (HC.out.drew.call hs31 hg31)
                                have c10 := HFa.out.c7)
                           clear hs31 hg31)))
                  all_goals
                    go_wp2
                    go_roundw
                    case rel => first | exact ⟨k + 1, p, q, n ++ [⟨p, q, 1114112 + r30, r31⟩], _, rfl, rfl, by go_num, by omega, by have := HML.out; simp; omega, HLI.out.snoc HXY.out hp0 hq0 (by omega) (by omega), HF13.out⟩ | exact ⟨_, _, _, ⟨k + 1, p, rfl, q, rfl, by go_num, by omega, n ++ [⟨p, q, 1114112 + r30, r31⟩], by have := HML.out; simp; omega, HLI.out.snoc HXY.out hp0 hq0 (by omega) (by omega), _, HF13.out⟩, rfl, rfl, rfl⟩
                    case measure => simp [intOf]; omega

                · have h1b : decide (x < p) = false := by simpa using h1
                  by_cases h2 : x = p
                  · subst h2
                    have h2b : (x == x) = true := by simp
                    by_cases h3 : y < q
                    · have h3b : decide (y < q) = true := by simpa using h3
                      have HXY := Lib.hid (show Asc2 x y x q from .inr ⟨rfl, h3⟩)
                      go_upto_region 26 with (fail)
                      have c5 := HC.out.c7
                      have hfr := HC.out.blk.frozen 7
                      go_region_law (first
                        | (refine step_append_any _ (by rfl) (.tmp 127) (.tmp 136) _ (by rfl) w.heap.size 50 i3 _ 4 24 Try.underlying36 hi3 hz3 hy3 hx3 rfl (by omega) v3 n.length (lcells n) (by rfl)
                             (HF10.out.alloc (Obj.cells #[.int .i32 x, .int .i32 q, .int .i64 (1114112 + r30), .int .i64 r31] 50)).o3 _ _ 1 1 _ (by rfl) (reads_new w31 #[.int .i32 x, .int .i32 q, .int .i64 (1114112 + r30), .int .i64 r31] 50 4 1 rfl) (by intro u hu; simp at hu; rcases hu with rfl | rfl | rfl | rfl <;> rfl) (by have := HML.out; simp only [maxLen]; omega) (by have := HML.out; omega) (by have := HF10.out.gb.size; simp; omega) ?_
                           intro v13 w13 hown13 hg13 hat13
                           obtain ⟨g13, k13, rfl, _, _, _⟩ := own_form hown13 (by omega)
                           have hb13 := blk_own (HF10.out.alloc (Obj.cells #[.int .i32 x, .int .i32 q, .int .i64 (1114112 + r30), .int .i64 r31] 50)).blk (HF10.out.alloc (Obj.cells #[.int .i32 x, .int .i32 q, .int .i64 (1114112 + r30), .int .i64 r31] 50)).o3 (by decide) hg13
                           have c13 : w13.cell? ⟨w5.heap.size, 7, none⟩ = some v3 := by rw [hb13.cell]; rfl
                           have f13 := hb13.frozen 7
                           have HF13 := Lib.hid ((HF10.out.alloc (Obj.cells #[.int .i32 x, .int .i32 q, .int .i64 (1114112 + r30), .int .i64 r31] 50)).app3 ⟨x, q, 1114112 + r30, r31⟩ hown13 hg13)
                           clear hown13 hg13 hat13 hb13)
                        | (go_simp; first
                            | (go_at_call_of 34 (Value.int IntKind.i64 9); refine (n_any g B _ _ (by first | exact HC.out.drew.src | exact HFa.out.src) (by omega) (by omega)).mono ?_
                               rintro e w30 ⟨r30, rfl, a30, b30, _, hs30, hg30⟩
                               have b30 := b30 (by omega)
                               have hwr : IntKind.i64.wrap (1114112 + r30) = 1114112 + r30 := IntWalk.i64_in _ (by omega)
                               first
                                 | (have HF10 := Lib.hid (HFa.out.call hs30 hg30)
                                    have c10 := HF10.out.c7
                                    have c10a := (HF10.out.alloc (Obj.cells #[.int .i32 x, .int .i32 q, .int .i64 (1114112 + r30), .int .i64 r31] 50)).c7)
                                 | (have HFb := Lib.hid (HC.out.drew.call hs30 hg30)
                                    have c10 := HFb.out.c7)
                               clear hs30 hg30)
                            | (go_at_call_of 34 (Value.int IntKind.i64 200); refine (n_any g B _ _ (by first | exact HC.out.drew.src | exact HFb.out.src) (by omega) (by omega)).mono ?_
                               rintro e w31 ⟨r31, rfl, a31, b31, _, hs31, hg31⟩
                               have b31 := b31 (by omega)
                               first
                                 | (have HF10 := Lib.hid (HFb.out.call hs31 hg31)
                                    have c10 := HF10.out.c7
                                    have c10a := (HF10.out.alloc (Obj.cells #[.int .i32 x, .int .i32 q, .int .i64 (1114112 + r30), .int .i64 r31] 50)).c7)
                                 | (have HFa := Lib.hid (HC.out.drew.call hs31 hg31)
                                    have c10 := HFa.out.c7)
                               clear hs31 hg31)))
                      all_goals
                        go_wp2
                        go_roundw
                        case rel => first | exact ⟨k + 1, x, q, n ++ [⟨x, q, 1114112 + r30, r31⟩], _, rfl, rfl, by go_num, by omega, by have := HML.out; simp; omega, HLI.out.snoc HXY.out hp0 hq0 (by omega) (by omega), HF13.out⟩ | exact ⟨_, _, _, ⟨k + 1, x, rfl, q, rfl, by go_num, by omega, n ++ [⟨x, q, 1114112 + r30, r31⟩], by have := HML.out; simp; omega, HLI.out.snoc HXY.out hp0 hq0 (by omega) (by omega), _, HF13.out⟩, rfl, rfl, rfl⟩
                        case measure => simp [intOf]; omega

                    · have h3b : decide (y < q) = false := by simpa using h3
                      go_wp2
                      go_roundw
                      case rel => exact ⟨k + 1, x, y, n, _, rfl, rfl, by go_num, by omega, by have := HML.out; omega, HLI.out, HC.out⟩
                      case measure => simp [intOf]; omega
                  · have h2b : (p == x) = false := by simpa using fun h => h2 h.symm
                    go_wp2
                    go_roundw
                    case rel => exact ⟨k + 1, x, y, n, _, rfl, rfl, by go_num, by omega, by have := HML.out; omega, HLI.out, HC.out⟩
                    case measure => simp [intOf]; omega

            · obtain rfl : k = 4 := by omega
              obtain ⟨e1, e2, e3, e4, e5⟩ := HR.out
              have HV := Lib.hid (built_vld HAI.out HKX.out HLI.out HLA.out HLM.out HML.out e1 e2 e3 e4 e5)
              clear e1 e2 e3 e4 e5
              obtain ⟨A1, d1, hv1, _⟩ := own_sl HM.out.o1
              obtain ⟨A2, d2, hv2, _⟩ := own_sl HM.out.o2
              obtain ⟨A3, d3, hv3, _⟩ := own_sl HM.out.o3
              subst hv1 hv2 hv3
              have hb := HM.out.blk
              have c0 : wr.cell? ⟨w5.heap.size, 0, none⟩ = some (.int .i64 r1) := by rw [hb.cell]; rfl
              have c1 : wr.cell? ⟨w5.heap.size, 1, none⟩ = some (.int .i64 r2) := by rw [hb.cell]; rfl
              have c2 : wr.cell? ⟨w5.heap.size, 2, none⟩ = some (.int .i64 r3) := by rw [hb.cell]; rfl
              have c3 : wr.cell? ⟨w5.heap.size, 3, none⟩ = some (.int .i64 r4) := by rw [hb.cell]; rfl
              have c4 : wr.cell? ⟨w5.heap.size, 4, none⟩ = some (.int .i64 r5) := by rw [hb.cell]; rfl
              have c5 := HM.out.c5
              have c6 := HM.out.c6
              have c7 := HM.out.c7
              obtain ⟨z0, z1, z2, z3, z4, z5, z6, z7⟩ := res_cells HM.out.res
              have hff := HM.out.res.frozen
              have fr0 := hff 0
              have fr1 := hff 1
              have fr2 := hff 2
              have fr3 := hff 3
              have fr4 := hff 4
              have fr5 := hff 5
              have fr6 := hff 6
              have fr7 := hff 7
              clear hff hb
              obtain ⟨y0, y1, y2, y3, y4, y5, y6, y7⟩ := res_cells (blk_set8 HM.out.res (.int .i64 r1) (.int .i64 r2) (.int .i64 r3) (.int .i64 r4) (.int .i64 r5) (.slice A1 l.length d1) (.slice A2 m.length d2) (.slice A3 n.length d3))
              go_wp2
              exact bodyPost_ret (v := .agg #[.int .i64 r1, .int .i64 r2, .int .i64 r3, .int .i64 r4, .int .i64 r5, .slice A1 l.length d1, .slice A2 m.length d2, .slice A3 n.length d3]) (by simp [results, Try.results25, go_sem, y0, y1, y2, y3, y4, y5, y6, y7]) rfl
                (HM.out.font HV.out _ _ _ _ _ _ _ _)


end Go.Proofs.Ytagokefbbdlpcaa
