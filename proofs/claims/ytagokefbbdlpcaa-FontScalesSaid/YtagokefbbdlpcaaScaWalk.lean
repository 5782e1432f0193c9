/- FontScales walked. -/
import Derived.Test.YtagokefbbdlpcaaG6
import Derived.Test.YtagokefbbdlpcaaS1
namespace Go.Proofs.Ytagokefbbdlpcaa
set_option linter.unusedVariables false
set_option linter.unusedSimpArgs false
open Go.RowKit

theorem fm_of_own {w : World} {H : Nat} {f : Fnt} {A1 A2 A3 : Option Addr} {c1 c2 c3 : Nat} (h1 : w.ownsRow H 54 3 (.slice A1 f.adv.length c1) f.adv.length (acells f.adv)) (h2 : w.ownsRow H 48 3 (.slice A2 f.ker.length c2) f.ker.length (kcells f.ker)) (h3 : w.ownsRow H 50 4 (.slice A3 f.lig.length c3) f.lig.length (lcells f.lig)) :
    FM w f A1 c1 A2 c2 A3 c3 := by
  obtain ⟨_, _, _, m1⟩ := own_sl h1
  obtain ⟨_, _, _, m2⟩ := own_sl h2
  obtain ⟨_, _, _, m3⟩ := own_sl h3
  exact ⟨Reads.of_own h1, Reads.of_own h2, Reads.of_own h3, m1, m2, m3⟩

set_option maxRecDepth 100000 in
set_option maxHeartbeats 4000000 in
theorem scales_any : LawAny 6 := by
  intro A n c zs w hnc hc hr hz
  have HR := Lib.hid hr
  have HZ := Lib.hid hz
  clear hr hz
  go_enter Try.func6, Try.ntmps6
  go_wp2_with fail
  refine (new_any w.heap.size A n c zs _ (Nat.le_refl _) hnc hc HR.out HZ.out).mono ?_
  rintro e w1 ⟨g, rfl, hg0, hs1, hb1⟩
  have hgl1 := hs1.lt
  have HB1 := Lib.hid hb1
  clear hb1
  go_wp2_with fail
  refine (font_any g w.heap.size _ hs1).mono ?_
  rintro e w2 ⟨f, v1, v2, v3, rfl, hv, ho1, ho2, ho3, hs2, hg2⟩
  have hlt2 : w1.heap.size ≤ w2.heap.size := hg2.size
  have HB2 := Lib.hid (HB1.out.grown hg2 HB1.out.size (fun k hk => by cases hk; exact hg0))
  obtain ⟨A1, c1, rfl, _⟩ := own_sl ho1
  obtain ⟨A2, c2, rfl, _⟩ := own_sl ho2
  obtain ⟨A3, c3, rfl, _⟩ := own_sl ho3
  have hs3 := hs2.belowH ((Below.refl w2.heap.size w2).alloc (Nat.le_refl _) (Obj.cells (f.cs A1 c1 A2 c2 A3 c3) 38)) hs2.lt
  unfold Fnt.cv
  go_wp2_with fail
  refine (rune_any g w.heap.size _ hs3).mono ?_
  rintro e w3 ⟨r, rfl, hr0, hr1, hs4, hg4⟩
  have HB3 := Lib.hid ((HB2.out.alloc HB2.out.size (Obj.cells (f.cs A1 c1 A2 c2 A3 c3) 38)).grown hg4 (by have := HB2.out.size; simp; omega) (fun k hk => by cases hk; exact hg0))
  have hk3 := blk_gb (Blk.new w2 38 (f.cs A1 c1 A2 c2 A3 c3)) hg4 (by omega)
  have hfm := fm_of_own (own_gb (ho1.alloc _) hg4 hgl1) (own_gb (ho2.alloc _) hg4 hgl1) (own_gb (ho3.alloc _) hg4 hgl1)
  obtain ⟨H, hH⟩ : ∃ H, H = w2.heap.size := ⟨_, rfl⟩
  have hHw : w.heap.size ≤ H := by have := HB2.out.size; omega
  rw [← hH] at hk3 ⊢
  have HK3 := Lib.hid hk3
  have HF3 := Lib.hid hfm
  have HV := Lib.hid hv
  clear hH hk3 hfm hv ho1 ho2 ho3 hs2 hg2 hs3 hs4 hg4 HB2 HR HZ hs1 hlt2
  go_wp2
  go_loopw [6] (fun s6 wr => ∃ (k : Nat), s6 = .int .i64 (k : Int) ∧ 1 ≤ k ∧ k ≤ 61 ∧ Below w.heap.size w wr ∧ FM wr f A1 c1 A2 c2 A3 c3 ∧ Blk wr H 38 (f.cs A1 c1 A2 c2 A3 c3)) (fun s6 _ => 61 - (intOf s6).toNat)
  case atStart => exact ⟨1, rfl, by omega, by omega, HB3.out, HF3.out, HK3.out⟩
  case round =>
    obtain ⟨k, rfl, hk1, hk2, hbr, hfr, hkr⟩ := hrel
    have HBR := Lib.hid hbr
    have HFR := Lib.hid hfr
    have HKR := Lib.hid hkr
    clear hbr hfr hkr HB3 HK3 HF3
    by_cases hk : k ≤ 60
    · have hki : (k : Int) ≤ 60 := by omega
      have SC := Lib.hid (scl (f := f) (s := (k : Int)) HV.out (by omega))
      obtain ⟨x, hx⟩ : ∃ x, x = iAsc f k := ⟨_, rfl⟩
      obtain ⟨y, hy⟩ : ∃ y, y = iDes f k := ⟨_, rfl⟩
      obtain ⟨z, hz⟩ : ∃ z, z = iHei f k := ⟨_, rfl⟩
      obtain ⟨_, _, _, q1, q2, q3, q4, q5⟩ := SC.out
      rw [← hx] at q1 q2 q3
      rw [← hy] at q1 q2 q4
      rw [← hz] at q2
      have CA0 := Lib.hid (fun w hf => (show Calls Try.prog 27 #[f.val A1 c1 A2 c2 A3 c3, .int .i64 (k : Int), .int .i32 769] w (Cls 0 w) by rw [← q5]; exact advance_any f k 769 A1 c1 A2 c2 A3 c3 w hf (by omega)))
      have CA := Lib.hid (fun w hf => (show Calls Try.prog 28 #[f.val A1 c1 A2 c2 A3 c3, .int .i64 (k : Int)] w (Cls x w) by rw [hx]; exact ascent_any f k A1 c1 A2 c2 A3 c3 w hf))
      have CD := Lib.hid (fun w hf => (show Calls Try.prog 29 #[f.val A1 c1 A2 c2 A3 c3, .int .i64 (k : Int)] w (Cls y w) by rw [hy]; exact descent_any f k A1 c1 A2 c2 A3 c3 w hf))
      have CH := Lib.hid (fun w hf => (show Calls Try.prog 30 #[f.val A1 c1 A2 c2 A3 c3, .int .i64 (k : Int)] w (Cls z w) by rw [hz]; exact height_any f k A1 c1 A2 c2 A3 c3 w hf))
      have HY := Lib.hid hy
      have wx : IntKind.i64.wrap (x + y) = x + y := IntWalk.i64_in _ (by omega)
      have d1 : decide (x + y < 1) = false := by simp; omega
      have d2 : decide (z < x + y) = false := by simp; omega
      have d3 : ¬ x + y < 1 := by omega
      have d4 : ¬ z < x + y := by omega
      clear hx hy hz q1 q2 q3 q4 q5 SC
      obtain ⟨g0, g1, g2, g3, g4, g5, g6, g7⟩ := box_cells HKR.out (Below.refl _ _)
      have hlt : H < wr.heap.size := HKR.out.lt
      go_upto_region 7 with (fail)
      have HBX := Lib.hid (show Below wr.heap.size wr wr.drew from (Below.refl _ _).drew)
      go_region_held3 (fun w' => w'.cell? ⟨H, 0, none⟩ = some (.int .i64 f.u) ∧ w'.cell? ⟨H, 1, none⟩ = some (.int .i64 f.a) ∧ w'.cell? ⟨H, 2, none⟩ = some (.int .i64 f.d) ∧ w'.cell? ⟨H, 3, none⟩ = some (.int .i64 f.g) ∧ w'.cell? ⟨H, 4, none⟩ = some (.int .i64 f.df) ∧
        w'.cell? ⟨H, 5, none⟩ = some (.slice A1 f.adv.length c1) ∧ w'.cell? ⟨H, 6, none⟩ = some (.slice A2 f.ker.length c2) ∧ w'.cell? ⟨H, 7, none⟩ = some (.slice A3 f.lig.length c3)) (first | with_reducible assumption | go_keep)
        (first
          | (go_at_call 27; refine (CA0.out _ (HFR.out.below HBX.out)).mono ?_; rintro e w2 ⟨rfl, hb2⟩
             have HBX := Lib.hid (HBX.out.trans (hb2.mono HBX.out.size))
             have hS := box_cells HKR.out HBX.out
             clear hb2)
          | (go_at_call 28; refine (CA.out _ (HFR.out.below HBX.out)).mono ?_; rintro e w2 ⟨rfl, hb2⟩
             have HBX := Lib.hid (HBX.out.trans (hb2.mono HBX.out.size))
             have hS := box_cells HKR.out HBX.out
             clear hb2)
          | (go_at_call 29; refine (CD.out _ (HFR.out.below HBX.out)).mono ?_; rintro e w2 ⟨rfl, hb2⟩
             have HBX := Lib.hid (HBX.out.trans (hb2.mono HBX.out.size))
             have hS := box_cells HKR.out HBX.out
             clear hb2)
          | (go_at_call 30; refine (CH.out _ (HFR.out.below HBX.out)).mono ?_; rintro e w2 ⟨rfl, hb2⟩
             have HBX := Lib.hid (HBX.out.trans (hb2.mono HBX.out.size))
             have hS := box_cells HKR.out HBX.out
             clear hb2)
          | fail)
      have HFY := Lib.hid (HFR.out.below HBX.out)
      have HKY := Lib.hid (HKR.out.below HBX.out hlt)
      have HBY := Lib.hid (HBR.out.trans (HBX.out.mono HBR.out.size))
      clear hS g0 g1 g2 g3 g4 g5 g6 g7 HBX HKR HFR HBR CA0 CA CH hlt
      by_cases hk1' : k = 1
      · subst hk1'
        go_upto_region 9 with (fail)
        go_quiet (fail)
        go_wp2
        go_roundw
        case rel => exact ⟨2, by go_num, by omega, by omega, below_drewN HBY.out _, HFY.out.below (below_drewN (Below.refl _ _) _), HKY.out.below (below_drewN (Below.refl _ _) _) HKY.out.lt⟩
        case measure => simp [intOf]
      · have hg1 : (1 : Int) < (k : Int) := by omega
        have hg1b : decide ((1 : Int) < (k : Int)) = true := by simp; omega
        have MO := scl_mono (f := f) (s := (k : Int)) (r := r) HV.out (by omega)
        obtain ⟨kp, hkp⟩ : ∃ kp : Int, kp = (k : Int) - 1 := ⟨_, rfl⟩
        have wk : IntKind.i64.wrap ((k : Int) - 1) = kp := by rw [hkp]; exact IntWalk.i64_in _ (by omega)
        rw [← hkp] at MO
        obtain ⟨p1, hp1⟩ : ∃ p1, p1 = iAdv f k r := ⟨_, rfl⟩
        obtain ⟨p0, hp0⟩ : ∃ p0, p0 = iAdv f kp r := ⟨_, rfl⟩
        obtain ⟨y0, hy0⟩ : ∃ y0, y0 = iDes f kp := ⟨_, rfl⟩
        rw [← hp1, ← hp0, ← hy0, ← HY.out] at MO
        obtain ⟨m1, m2⟩ := MO
        have d1 : decide (p1 < p0) = false := by simp; omega
        have d2 : decide (y < y0) = false := by simp; omega
        have d3 : ¬ p1 < p0 := by omega
        have d4 : ¬ y < y0 := by omega
        have CX := Lib.hid (fun w hf => (show Calls Try.prog 27 #[f.val A1 c1 A2 c2 A3 c3, .int .i64 (k : Int), .int .i32 r] w (Cls p1 w) by rw [hp1]; exact advance_any f k r A1 c1 A2 c2 A3 c3 w hf hr0))
        have CY := Lib.hid (fun w hf => (show Calls Try.prog 27 #[f.val A1 c1 A2 c2 A3 c3, .int .i64 kp, .int .i32 r] w (Cls p0 w) by rw [hp0]; exact advance_any f kp r A1 c1 A2 c2 A3 c3 w hf hr0))
        have CE := Lib.hid (fun w hf => (show Calls Try.prog 29 #[f.val A1 c1 A2 c2 A3 c3, .int .i64 kp] w (Cls y0 w) by rw [hy0]; exact descent_any f kp A1 c1 A2 c2 A3 c3 w hf))
        clear hp1 hp0 hy0 hkp
        go_upto_region 9 with (fail)
        obtain ⟨g0, g1, g2, g3, g4, g5, g6, g7⟩ := box_cells HKY.out (Below.refl _ _)
        have hlt := HKY.out.lt
        have HBX := Lib.hid (show Below w2.heap.size w2 w2.drew from (Below.refl _ _).drew)
        go_region_held3 (fun w' => w'.cell? ⟨H, 0, none⟩ = some (.int .i64 f.u) ∧ w'.cell? ⟨H, 1, none⟩ = some (.int .i64 f.a) ∧ w'.cell? ⟨H, 2, none⟩ = some (.int .i64 f.d) ∧ w'.cell? ⟨H, 3, none⟩ = some (.int .i64 f.g) ∧ w'.cell? ⟨H, 4, none⟩ = some (.int .i64 f.df) ∧
          w'.cell? ⟨H, 5, none⟩ = some (.slice A1 f.adv.length c1) ∧ w'.cell? ⟨H, 6, none⟩ = some (.slice A2 f.ker.length c2) ∧ w'.cell? ⟨H, 7, none⟩ = some (.slice A3 f.lig.length c3)) (first | with_reducible assumption | go_keep)
          (first
            | (go_at_call_of 27 (Value.int IntKind.i64 kp); refine (CY.out _ (HFY.out.below HBX.out)).mono ?_; rintro e w2 ⟨rfl, hb2⟩
               have HBX := Lib.hid (HBX.out.trans (hb2.mono HBX.out.size))
               have hS := box_cells HKY.out HBX.out
               clear hb2)
            | (go_at_call 27; refine (CX.out _ (HFY.out.below HBX.out)).mono ?_; rintro e w2 ⟨rfl, hb2⟩
               have HBX := Lib.hid (HBX.out.trans (hb2.mono HBX.out.size))
               have hS := box_cells HKY.out HBX.out
               clear hb2)
            | (go_at_call_of 29 (Value.int IntKind.i64 kp); refine (CE.out _ (HFY.out.below HBX.out)).mono ?_; rintro e w2 ⟨rfl, hb2⟩
               have HBX := Lib.hid (HBX.out.trans (hb2.mono HBX.out.size))
               have hS := box_cells HKY.out HBX.out
               clear hb2)
            | (go_at_call 29; refine (CD.out _ (HFY.out.below HBX.out)).mono ?_; rintro e w2 ⟨rfl, hb2⟩
               have HBX := Lib.hid (HBX.out.trans (hb2.mono HBX.out.size))
               have hS := box_cells HKY.out HBX.out
               clear hb2)
            | fail)
        all_goals
          go_wp2
          go_roundw
          case rel => exact ⟨k + 1, by go_num, by omega, by omega, HBY.out.trans (HBX.out.mono HBY.out.size), HFY.out.below HBX.out, HKY.out.below HBX.out hlt⟩
          case measure => simp [intOf]; omega
    · obtain rfl : k = 61 := by omega
      have hki : ¬ (61 : Int) ≤ 60 := by omega
      go_wp2_with fail
      refine (awakeF_any _).mono ?_
      rintro e w9 ⟨rfl, hb9⟩
      go_wp2
      go_ret
      exact ⟨rfl, HBR.out.trans (hb9.mono HBR.out.size)⟩
end Go.Proofs.Ytagokefbbdlpcaa
