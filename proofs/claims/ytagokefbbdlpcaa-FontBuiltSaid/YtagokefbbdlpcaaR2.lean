/- The reference's Advance of the font layer walked: the first entry that holds the rune is the last one. -/
import Derived.Test.YtagokefbbdlpcaaR1
import Derived.Deep.RegionHeld3
namespace Go.Proofs.Ytagokefbbdlpcaa
set_option linter.unusedVariables false
set_option linter.unusedSimpArgs false
open Go.RowKit

/-- The width of the first entry that holds r. -/
def firstW : Int → List Adv → Int → Int
  | d, [], _ => d
  | d, x :: t, r => if x.f ≤ r ∧ r ≤ x.t then x.w else firstW d t r

theorem lastW_below (l : List Adv) (r : Int) : ∀ p v, advOrd p l = true → r ≤ p → lastW v l r = v := by
  induction l with
  | nil => intro p v _ _; rfl
  | cons x t ih =>
    intro p v h hr
    simp only [advOrd, Bool.and_eq_true, decide_eq_true_eq] at h
    rw [lastW, if_neg (by omega)]
    exact ih _ _ h.2 (by omega)
theorem lastW_first (l : List Adv) (r d : Int) : ∀ p, advOrd p l = true → lastW d l r = firstW d l r := by
  induction l with
  | nil => intro p _; rfl
  | cons x t ih =>
    intro p h
    simp only [advOrd, Bool.and_eq_true, decide_eq_true_eq] at h
    rw [lastW, firstW]
    split
    · rename_i hx
      exact lastW_below t r _ _ h.2 hx.2
    · exact ih _ h.2
theorem firstW_drop (l : List Adv) (d r : Int) (k : Nat) (x : Adv) (h : l[k]? = some x) : firstW d (l.drop k) r = if x.f ≤ r ∧ r ≤ x.t then x.w else firstW d (l.drop (k + 1)) r := by
  obtain ⟨hk, hp⟩ := List.getElem?_eq_some_iff.1 h
  rw [List.drop_eq_getElem_cons hk, hp, firstW]

set_option maxRecDepth 100000 in
set_option maxHeartbeats 4000000 in
theorem radvance_any (hv : RV) (f : Fnt) (s r : Int) (A1 : Option Addr) (c1 : Nat) (A2 : Option Addr) (c2 : Nat) (A3 : Option Addr) (c3 : Nat) (w : World) (hf : FM w f A1 c1 A2 c2 A3 c3) :
    Calls Try.prog 51 #[f.val A1 c1 A2 c2 A3 c3, .int .i64 s, .int .i32 r] w (Cls (iAdv f s r) w) := by
  have HF := Lib.hid (fm_box hf)
  have HB := Lib.hid ((Below.refl w.heap.size w).alloc (Nat.le_refl _) (Obj.cells (f.cs A1 c1 A2 c2 A3 c3) 38))
  have HK := Lib.hid (Blk.new w 38 (f.cs A1 c1 A2 c2 A3 c3))
  have hl1 := hf.l1
  unfold maxLen at hl1
  clear hf
  unfold Fnt.val
  go_enter Try.func51, Try.ntmps51
  go_wp2_with fail
  refine (good_any hv f s A1 c1 A2 c2 A3 c3 _ HF.out).mono ?_
  rintro e w1 ⟨rfl, hb1⟩
  have HB1 := Lib.hid (HB.out.trans (hb1.mono HB.out.size))
  have HF1 := Lib.hid (HF.out.below hb1)
  have HK1 := Lib.hid (HK.out.below hb1 HK.out.lt)
  clear hb1
  cases hu : useB f s
  · have HE := Lib.hid (show iAdv f s r = 0 by simp [iAdv, hu])
    clear hu
    go_wp2
    go_ret
    exact ⟨by rw [HE.out]; rfl, HB1.out⟩
  · have HU := Lib.hid hu
    clear hu
    go_wp2_with fail
    refine (rbrk_any r _).mono ?_
    rintro e w2 ⟨rfl, hb2⟩
    have HB2 := Lib.hid (HB1.out.trans (hb2.mono HB1.out.size))
    have HF2 := Lib.hid (HF1.out.below hb2)
    have HK2 := Lib.hid (HK1.out.below hb2 HK1.out.lt)
    clear hb2
    obtain ⟨c, hc⟩ : ∃ c, c = (rfind r).c := ⟨_, rfl⟩
    rw [← hc]
    by_cases hm : 1 ≤ c ∧ c ≤ 5
    · have HE := Lib.hid (show iAdv f s r = 0 by
        have : mute r = true := by simp only [mute, decide_eq_true_eq]; rw [← hc]; exact hm
        simp [iAdv, this])
      clear hc
      have hcs : c = 1 ∨ c = 2 ∨ c = 3 ∨ c = 4 ∨ c = 5 := by omega
      clear hm
      rcases hcs with rfl | rfl | rfl | rfl | rfl
      all_goals
        go_wp2
        go_ret
        exact ⟨by rw [HE.out]; rfl, HB2.out⟩
    · have HM := Lib.hid (show mute r = false by simp only [mute, decide_eq_false_iff_not]; rw [← hc]; exact hm)
      obtain ⟨m1, m2, m3, m4, m5⟩ := mute_cases hm
      clear hm hc
      obtain ⟨N, hN⟩ : ∃ N, N = f.adv.length := ⟨_, rfl⟩
      have HN := Lib.hid hN
      obtain ⟨g0, g1, g2, g3, g4, g5, g6, g7⟩ := box_cells HK2.out (Below.refl _ _)
      rw [← hN] at g5 hl1
      clear hN
      have HST := Lib.hid (show firstW f.df f.adv r = firstW f.df (f.adv.drop 0) r from rfl)
      have HLF := Lib.hid (show lastW f.df f.adv r = firstW f.df f.adv r from by
        obtain ⟨hv0, _⟩ := use_bd HU.out
        obtain ⟨_, _, h3⟩ := vld_zero hv0
        simp only [ordB, Bool.and_eq_true] at h3
        exact lastW_first _ _ _ _ h3.1)
      go_wp2
      go_loopw [8] (fun sk wr => ∃ (k : Nat), sk = .int .i64 (k : Int) ∧ k ≤ N ∧ firstW f.df f.adv r = firstW f.df (f.adv.drop k) r ∧ Below w.heap.size w wr ∧ FM wr f A1 c1 A2 c2 A3 c3 ∧ Blk wr w.heap.size 38 (f.cs A1 c1 A2 c2 A3 c3)) (fun sk _ => N - (intOf sk).toNat)
      case atStart => exact ⟨0, rfl, by omega, HST.out, HB2.out, HF2.out, HK2.out⟩
      case round =>
        obtain ⟨k, rfl, hk, ho, hbr, hfr, hkr⟩ := hrel
        have HO := Lib.hid ho
        have HBR := Lib.hid hbr
        have HFR := Lib.hid hfr
        have HKR := Lib.hid hkr
        clear ho hbr hfr hkr g0 g1 g2 g3 g4 g5 g6 g7
        obtain ⟨g0, g1, g2, g3, g4, g5, g6, g7⟩ := box_cells HKR.out (Below.refl _ _)
        rw [← HN.out] at g5
        by_cases hkn : k < N
        · have hk0 : (k : Int) < (N : Int) := by omega
          obtain ⟨x, b, off, hx, hA, hbl, hc⟩ := elem_at (cells := Adv.cells) (size := 3) (fun _ => rfl) (by omega) HFR.out.r1 (Below.refl wr.heap.size wr) k (by rw [← HN.out]; exact hkn)
          subst hA
          obtain ⟨xf, xt, xw⟩ := x
          have d0 : wr.cell? ⟨b, off + k * 3, none⟩ = some (.int .i32 xf) := hc 0 _ (by omega) rfl
          have d1 : wr.cell? ⟨b, off + k * 3 + 1, none⟩ = some (.int .i32 xt) := hc 1 _ (by omega) rfl
          have d2 : wr.cell? ⟨b, off + k * 3 + 2, none⟩ = some (.int .i64 xw) := hc 2 _ (by omega) rfl
          have HD := Lib.hid (firstW_drop f.adv f.df r k _ hx)
          have HX := Lib.hid hx
          clear hc hx
          by_cases t1 : xf ≤ r
          · by_cases t2 : r ≤ xt
            · have hv2 : lastW f.df f.adv r = xw := by rw [HLF.out, HO.out, HD.out, if_pos ⟨t1, t2⟩]
              obtain ⟨_, hh, hs, ha, _⟩ := use_bd HU.out
              obtain ⟨k1, k2, k3, k4, k5, k6⟩ := head_bd hh
              have hvb := lastW_bd f.adv r ha f.df k6
              rw [hv2] at hvb
              have hm := Lib.hid (mul_bd (v := xw) (by omega) hs)
              have HE := Lib.hid (show iAdv f s r = rnd (xw * s) f.u by simp [iAdv, HU.out, HM.out, hv2])
              have K1 := Lib.hid k1
              clear hv2 hh hs ha hvb k1 k2 k3 k4 k5 k6
              go_upto_region 10 with (fail)
              have HBX := Lib.hid (show Below wr.heap.size wr wr.drew from (Below.refl _ _).drew)
              go_region_held3 (fun w' => w'.cell? ⟨w.heap.size, 0, none⟩ = some (.int .i64 f.u) ∧ w'.cell? ⟨w.heap.size, 1, none⟩ = some (.int .i64 f.a) ∧ w'.cell? ⟨w.heap.size, 2, none⟩ = some (.int .i64 f.d) ∧ w'.cell? ⟨w.heap.size, 3, none⟩ = some (.int .i64 f.g) ∧ w'.cell? ⟨w.heap.size, 4, none⟩ = some (.int .i64 f.df) ∧
                w'.cell? ⟨w.heap.size, 5, none⟩ = some (.slice (some ⟨b, off, none⟩) N c1) ∧ w'.cell? ⟨w.heap.size, 6, none⟩ = some (.slice A2 f.ker.length c2) ∧ w'.cell? ⟨w.heap.size, 7, none⟩ = some (.slice A3 f.lig.length c3) ∧ w'.cell? ⟨b, off + k * 3 + 2, none⟩ = some (.int .i64 xw)) (first | with_reducible assumption | go_keep)
                (first
                  | (go_at_call 73; rw [HN.out]; refine (rscaled_any f s xw (some ⟨b, off, none⟩) c1 A2 c2 A3 c3 _ K1.out hm.out).mono ?_; rintro e w5 ⟨rfl, hb5⟩
                     have HBX := Lib.hid (HBX.out.trans (hb5.mono HBX.out.size))
                     have hS := box_cells HKR.out HBX.out
                     rw [← HN.out] at hS
                     have hS2 := (HBX.out.cell (p := ⟨b, off + k * 3 + 2, none⟩) hbl).trans d2
                     clear hb5)
                  | fail)
              all_goals
                go_wp2
                go_ret
                exact ⟨by rw [HE.out]; rfl, HBR.out.trans (HBX.out.mono HBR.out.size)⟩
            · have HO2 := Lib.hid (show firstW f.df f.adv r = firstW f.df (f.adv.drop (k + 1)) r by rw [HO.out, HD.out, if_neg (fun h => t2 h.2)])
              go_wp2
              go_roundw
              case rel => exact ⟨k + 1, by go_num, by omega, HO2.out, HBR.out, HFR.out, HKR.out⟩
              case measure => simp [intOf]; omega
          · have HO2 := Lib.hid (show firstW f.df f.adv r = firstW f.df (f.adv.drop (k + 1)) r by rw [HO.out, HD.out, if_neg (fun h => t1 h.1)])
            go_wp2
            go_roundw
            case rel => exact ⟨k + 1, by go_num, by omega, HO2.out, HBR.out, HFR.out, HKR.out⟩
            case measure => simp [intOf]; omega
        · obtain rfl : N = k := by omega
          have hv2 : lastW f.df f.adv r = f.df := by rw [HLF.out, HO.out, List.drop_of_length_le (by rw [← HN.out]; exact Nat.le_refl _)]; rfl
          obtain ⟨_, hh, hs, ha, _⟩ := use_bd HU.out
          obtain ⟨k1, k2, k3, k4, k5, k6⟩ := head_bd hh
          have hm := Lib.hid (mul_bd (v := f.df) (by omega) hs)
          have HE := Lib.hid (show iAdv f s r = rnd (f.df * s) f.u by simp [iAdv, HU.out, HM.out, hv2])
          have hns : ¬ ((N : Int) < (N : Int)) := by omega
          clear hv2 hh hs ha k2 k3 k4 k5 k6
          go_wp2_with fail
          rw [HN.out]
          refine (rscaled_any f s f.df A1 c1 A2 c2 A3 c3 _ k1 hm.out).mono ?_
          rintro e w3 ⟨rfl, hb3⟩
          have HB3 := Lib.hid (HBR.out.trans (hb3.mono HBR.out.size))
          clear hb3
          go_wp2
          go_ret
          exact ⟨by rw [HE.out]; rfl, HB3.out⟩
end Go.Proofs.Ytagokefbbdlpcaa
