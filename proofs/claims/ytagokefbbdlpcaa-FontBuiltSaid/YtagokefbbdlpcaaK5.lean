/- The reference's Kern of the font layer walked. -/
import Derived.Test.YtagokefbbdlpcaaK4
namespace Go.Proofs.Ytagokefbbdlpcaa
set_option linter.unusedVariables false
set_option linter.unusedSimpArgs false
open Go.RowKit

set_option maxRecDepth 100000 in
set_option maxHeartbeats 4000000 in
theorem rkern_any (hv : RV) (f : Fnt) (s a b : Int) (A1 : Option Addr) (c1 : Nat) (A2 : Option Addr) (c2 : Nat) (A3 : Option Addr) (c3 : Nat) (w : World) (hf : FM w f A1 c1 A2 c2 A3 c3) :
    Calls Try.prog 53 #[f.val A1 c1 A2 c2 A3 c3, .int .i64 s, .int .i32 a, .int .i32 b] w (Cls (iKer f s a b) w) := by
  have HF := Lib.hid (fm_box hf)
  have HB := Lib.hid ((Below.refl w.heap.size w).alloc (Nat.le_refl _) (Obj.cells (f.cs A1 c1 A2 c2 A3 c3) 38))
  have HK := Lib.hid (Blk.new w 38 (f.cs A1 c1 A2 c2 A3 c3))
  have hl1 := hf.l2
  unfold maxLen at hl1
  clear hf
  unfold Fnt.val
  go_enter Try.func53, Try.ntmps53
  go_wp2_with fail
  refine (good_any hv f s A1 c1 A2 c2 A3 c3 _ HF.out).mono ?_
  rintro e w2 ⟨rfl, hb1⟩
  have HB2 := Lib.hid (HB.out.trans (hb1.mono HB.out.size))
  have HF2 := Lib.hid (HF.out.below hb1)
  have HK2 := Lib.hid (HK.out.below hb1 HK.out.lt)
  clear hb1
  cases hu : useB f s
  · have HE := Lib.hid (show iKer f s a b = 0 by simp [iKer, hu])
    clear hu
    go_wp2
    go_ret
    exact ⟨by rw [HE.out]; rfl, HB2.out⟩
  · have HU := Lib.hid hu
    clear hu
    obtain ⟨N, hN⟩ : ∃ N, N = f.ker.length := ⟨_, rfl⟩
    have HN := Lib.hid hN
    rw [← hN] at hl1
    clear hN
    have HST := Lib.hid (show firstK Ker.a Ker.b a b f.ker = firstK Ker.a Ker.b a b (f.ker.drop 0) from rfl)
    go_wp2
    go_loopw [9] (fun sk wr => ∃ (k : Nat), sk = .int .i64 (k : Int) ∧ k ≤ N ∧ firstK Ker.a Ker.b a b f.ker = firstK Ker.a Ker.b a b (f.ker.drop k) ∧ Below w.heap.size w wr ∧ FM wr f A1 c1 A2 c2 A3 c3 ∧ Blk wr w.heap.size 38 (f.cs A1 c1 A2 c2 A3 c3)) (fun sk _ => N - (intOf sk).toNat)
    case atStart => exact ⟨0, rfl, by omega, HST.out, HB2.out, HF2.out, HK2.out⟩
    case round =>
      obtain ⟨k, rfl, hk, ho, hbr, hfr, hkr⟩ := hrel
      have HO := Lib.hid ho
      have HBR := Lib.hid hbr
      have HFR := Lib.hid hfr
      have HKR := Lib.hid hkr
      clear ho hbr hfr hkr
      obtain ⟨g0, g1, g2, g3, g4, g5, g6, g7⟩ := box_cells HKR.out (Below.refl _ _)
      rw [← HN.out] at g6
      by_cases hkn : k < N
      · have hk0 : (k : Int) < (N : Int) := by omega
        obtain ⟨x, bb, off, hx, hA, hbl, hc⟩ := elem_at (cells := Ker.cells) (size := 3) (fun _ => rfl) (by omega) HFR.out.r2 (Below.refl wr.heap.size wr) k (by rw [← HN.out]; exact hkn)
        subst hA
        obtain ⟨xa, xb, xd⟩ := x
        have d0 : wr.cell? ⟨bb, off + k * 3, none⟩ = some (.int .i32 xa) := hc 0 _ (by omega) rfl
        have d1 : wr.cell? ⟨bb, off + k * 3 + 1, none⟩ = some (.int .i32 xb) := hc 1 _ (by omega) rfl
        have d2 : wr.cell? ⟨bb, off + k * 3 + 2, none⟩ = some (.int .i64 xd) := hc 2 _ (by omega) rfl
        have HD := Lib.hid (firstK_drop Ker.a Ker.b (a := a) (b := b) f.ker k _ hx)
        have HX := Lib.hid hx
        clear hc hx
        by_cases t1 : xa = a
        · have t1b : (xa == a) = true := by simpa using t1
          by_cases t2 : xb = b
          · have t2b : (xb == b) = true := by simpa using t2
            have e3 : firstK Ker.a Ker.b a b f.ker = some ⟨xa, xb, xd⟩ := by rw [HO.out, HD.out, if_pos ⟨t1, t2⟩]
            obtain ⟨_, hh, hs, _, hka, _⟩ := use_bd HU.out
            obtain ⟨k1, _⟩ := head_bd hh
            have hxo := List.all_eq_true.1 hka _ (List.mem_of_getElem? HX.out)
            simp only [kerOk, Bool.and_eq_true, inB_iff] at hxo
            have hm := Lib.hid (mul_bd (v := xd) (by omega) hs)
            have HE := Lib.hid (show iKer f s a b = rnd (xd * s) f.u by simp [iKer, HU.out, e3, kerV])
            have K1 := Lib.hid k1
            clear hxo hka hh hs k1 e3 t1 t2
            go_upto_region 7 with (fail)
            have HBX := Lib.hid (show Below wr.heap.size wr wr.drew from (Below.refl _ _).drew)
            go_region_held3 (fun w' => w'.cell? ⟨w.heap.size, 0, none⟩ = some (.int .i64 f.u) ∧ w'.cell? ⟨w.heap.size, 1, none⟩ = some (.int .i64 f.a) ∧ w'.cell? ⟨w.heap.size, 2, none⟩ = some (.int .i64 f.d) ∧ w'.cell? ⟨w.heap.size, 3, none⟩ = some (.int .i64 f.g) ∧ w'.cell? ⟨w.heap.size, 4, none⟩ = some (.int .i64 f.df) ∧
              w'.cell? ⟨w.heap.size, 5, none⟩ = some (.slice A1 f.adv.length c1) ∧ w'.cell? ⟨w.heap.size, 6, none⟩ = some (.slice (some ⟨bb, off, none⟩) N c2) ∧ w'.cell? ⟨w.heap.size, 7, none⟩ = some (.slice A3 f.lig.length c3) ∧ w'.cell? ⟨bb, off + k * 3 + 2, none⟩ = some (.int .i64 xd)) (first | with_reducible assumption | go_keep)
              (first
                | (go_at_call 73; rw [HN.out]; refine (rscaled_any f s xd A1 c1 (some ⟨bb, off, none⟩) c2 A3 c3 _ K1.out hm.out).mono ?_; rintro e w5 ⟨rfl, hb5⟩
                   have HBX := Lib.hid (HBX.out.trans (hb5.mono HBX.out.size))
                   have hS := box_cells HKR.out HBX.out
                   rw [← HN.out] at hS
                   have hS2 := (HBX.out.cell (p := ⟨bb, off + k * 3 + 2, none⟩) hbl).trans d2
                   clear hb5)
                | fail)
            all_goals
              go_wp2
              go_ret
              exact ⟨by rw [HE.out]; rfl, HBR.out.trans (HBX.out.mono HBR.out.size)⟩
          · have t2b : (xb == b) = false := by simpa using t2
            have HO2 := Lib.hid (show firstK Ker.a Ker.b a b f.ker = firstK Ker.a Ker.b a b (f.ker.drop (k + 1)) by rw [HO.out, HD.out, if_neg (fun h => t2 h.2)])
            go_wp2
            go_roundw
            case rel => exact ⟨k + 1, by go_num, by omega, HO2.out, HBR.out, HFR.out, HKR.out⟩
            case measure => simp [intOf]; omega
        · have t1b : (xa == a) = false := by simpa using t1
          have HO2 := Lib.hid (show firstK Ker.a Ker.b a b f.ker = firstK Ker.a Ker.b a b (f.ker.drop (k + 1)) by rw [HO.out, HD.out, if_neg (fun h => t1 h.1)])
          go_wp2
          go_roundw
          case rel => exact ⟨k + 1, by go_num, by omega, HO2.out, HBR.out, HFR.out, HKR.out⟩
          case measure => simp [intOf]; omega
      · obtain rfl : N = k := by omega
        have hns : ¬ ((N : Int) < (N : Int)) := by omega
        have HE := Lib.hid (show iKer f s a b = 0 by
          have : firstK Ker.a Ker.b a b f.ker = none := by rw [HO.out, List.drop_of_length_le (by rw [← HN.out]; exact Nat.le_refl _)]; rfl
          simp [iKer, HU.out, this, kerV])
        go_wp2
        go_ret
        exact ⟨by rw [HE.out]; rfl, HBR.out⟩
end Go.Proofs.Ytagokefbbdlpcaa
