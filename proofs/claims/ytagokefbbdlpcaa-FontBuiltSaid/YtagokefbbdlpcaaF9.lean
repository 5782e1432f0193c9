/- Advance of the font layer walked. -/
import Derived.Test.YtagokefbbdlpcaaF8
namespace Go.Proofs.Ytagokefbbdlpcaa
set_option linter.unusedVariables false
set_option linter.unusedSimpArgs false
open Go.RowKit

theorem lastW_bd (l : List Adv) (r : Int) (h : l.all advOk = true) : ∀ v, 0 ≤ v ∧ v ≤ 4096 → 0 ≤ lastW v l r ∧ lastW v l r ≤ 4096 := by
  induction l with
  | nil => intro v hv; exact hv
  | cons x t ih =>
    intro v hv
    simp only [List.all_cons, Bool.and_eq_true] at h
    have hx := h.1
    simp only [advOk, Bool.and_eq_true, inB_iff] at hx
    rw [lastW]
    refine ih h.2 _ ?_
    split
    · exact hx.2.2
    · exact hv

/-- What the switch on the class does: five classes are mute. -/
theorem mute_cases {c : Int} (h : ¬ (1 ≤ c ∧ c ≤ 5)) : (c == 4) = false ∧ (c == 5) = false ∧ (c == 3) = false ∧ (c == 1) = false ∧ (c == 2) = false := by
  refine ⟨?_, ?_, ?_, ?_, ?_⟩ <;> (simp; omega)

set_option maxRecDepth 100000 in
set_option maxHeartbeats 4000000 in
theorem advance_any (f : Fnt) (s r : Int) (A1 : Option Addr) (c1 : Nat) (A2 : Option Addr) (c2 : Nat) (A3 : Option Addr) (c3 : Nat) (w : World) (hf : FM w f A1 c1 A2 c2 A3 c3) (hr : -2147483648 ≤ r) :
    Calls Try.prog 27 #[f.val A1 c1 A2 c2 A3 c3, .int .i64 s, .int .i32 r] w (Cls (iAdv f s r) w) := by
  have HF := Lib.hid (fm_box hf)
  have HB := Lib.hid ((Below.refl w.heap.size w).alloc (Nat.le_refl _) (Obj.cells (f.cs A1 c1 A2 c2 A3 c3) 38))
  have HK := Lib.hid (Blk.new w 38 (f.cs A1 c1 A2 c2 A3 c3))
  have hl1 := hf.l1
  unfold maxLen at hl1
  clear hf
  unfold Fnt.val
  go_enter Try.func27, Try.ntmps27
  go_wp2_with fail
  refine (usable_any f s A1 c1 A2 c2 A3 c3 _ HF.out).mono ?_
  rintro e w1 ⟨rfl, hb1⟩
  have HB1 := Lib.hid (HB.out.trans (hb1.mono HB.out.size))
  have HF1 := Lib.hid (HF.out.below hb1)
  have HK1 := Lib.hid (HK.out.below hb1 HK.out.lt)
  clear hb1
  cases hu : useB f s
  · have HE := Lib.hid (show iAdv f s r = 0 by simp [iAdv, hu])
    clear hu
    go_wp2
    go_ret
    exact ⟨by rw [HE.out]; rfl, HB1.out⟩
  · have HU := Lib.hid hu
    clear hu
    go_wp2_with fail
    refine (brk_any r _ hr).mono ?_
    rintro e w2 ⟨rfl, hb2⟩
    have HB2 := Lib.hid (HB1.out.trans (hb2.mono HB1.out.size))
    have HF2 := Lib.hid (HF1.out.below hb2)
    have HK2 := Lib.hid (HK1.out.below hb2 HK1.out.lt)
    clear hb2
    obtain ⟨c, hc⟩ : ∃ c, c = (rfind r).c := ⟨_, rfl⟩
    rw [← hc]
    by_cases hm : 1 ≤ c ∧ c ≤ 5
    · have HE := Lib.hid (show iAdv f s r = 0 by
        have : mute r = true := by simp only [mute, decide_eq_true_eq]; rw [← hc]; exact hm
        simp [iAdv, this])
      clear hc
      have hcs : c = 1 ∨ c = 2 ∨ c = 3 ∨ c = 4 ∨ c = 5 := by omega
      clear hm
      rcases hcs with rfl | rfl | rfl | rfl | rfl
      all_goals
        go_wp2
        go_ret
        exact ⟨by rw [HE.out]; rfl, HB2.out⟩
    · have HM := Lib.hid (show mute r = false by simp only [mute, decide_eq_false_iff_not]; rw [← hc]; exact hm)
      obtain ⟨m1, m2, m3, m4, m5⟩ := mute_cases hm
      clear hm hc
      obtain ⟨N, hN⟩ : ∃ N, N = f.adv.length := ⟨_, rfl⟩
      have HN := Lib.hid hN
      obtain ⟨g0, g1, g2, g3, g4, g5, g6, g7⟩ := box_cells HK2.out (Below.refl _ _)
      rw [← hN] at g5 hl1
      clear hN
      have HST := Lib.hid (show lastW f.df f.adv r = lastW f.df (f.adv.drop 0) r from rfl)
      go_wp2
      go_loopw [7, 27] (fun s7 sk wr => ∃ (k : Nat) (v : Int), s7 = .int .i64 v ∧ sk = .int .i64 (k : Int) ∧ k ≤ N ∧ lastW f.df f.adv r = lastW v (f.adv.drop k) r ∧ Below w.heap.size w wr ∧ FM wr f A1 c1 A2 c2 A3 c3 ∧ Blk wr w.heap.size 38 (f.cs A1 c1 A2 c2 A3 c3)) (fun _ sk _ => N - (intOf sk).toNat)
      case atStart => exact ⟨0, f.df, rfl, rfl, by omega, HST.out, HB2.out, HF2.out, HK2.out⟩
      case round =>
        obtain ⟨k, v, rfl, rfl, hk, ho, hbr, hfr, hkr⟩ := hrel
        have HO := Lib.hid ho
        have HBR := Lib.hid hbr
        have HFR := Lib.hid hfr
        have HKR := Lib.hid hkr
        clear ho hbr hfr hkr g0 g1 g2 g3 g4 g5 g6 g7
        by_cases hkn : k < N
        · have hk0 : (k : Int) < (N : Int) := by omega
          obtain ⟨x, b, off, hx, hA, hbl, hc⟩ := elem_at (cells := Adv.cells) (size := 3) (fun _ => rfl) (by omega) HFR.out.r1 (Below.refl wr.heap.size wr) k (by rw [← HN.out]; exact hkn)
          subst hA
          obtain ⟨xf, xt, xw⟩ := x
          have d0 : wr.cell? ⟨b, off + k * 3, none⟩ = some (.int .i32 xf) := hc 0 _ (by omega) rfl
          have d1 : wr.cell? ⟨b, off + k * 3 + 1, none⟩ = some (.int .i32 xt) := hc 1 _ (by omega) rfl
          have d2 : wr.cell? ⟨b, off + k * 3 + 2, none⟩ = some (.int .i64 xw) := hc 2 _ (by omega) rfl
          have HD := Lib.hid (lastW_drop f.adv v r k _ hx)
          have HBN := Lib.hid (HBR.out.alloc HBR.out.size (Obj.cells #[.int .i32 xf, .int .i32 xt, .int .i64 xw] 54))
          have HKN := Lib.hid (HKR.out.alloc (Obj.cells #[.int .i32 xf, .int .i32 xt, .int .i64 xw] 54))
          have HFN := Lib.hid (HFR.out.below ((Below.refl wr.heap.size wr).alloc (Nat.le_refl _) (Obj.cells #[.int .i32 xf, .int .i32 xt, .int .i64 xw] 54)))
          clear hc hx
          by_cases t1 : xf ≤ r
          · by_cases t2 : r ≤ xt
            · have HO2 := Lib.hid (show lastW f.df f.adv r = lastW xw (f.adv.drop (k + 1)) r by rw [HO.out, HD.out, if_pos ⟨t1, t2⟩])
              go_wp2
              go_roundw
              case rel => exact ⟨k + 1, xw, rfl, by go_num, by omega, HO2.out, HBN.out, HFN.out, HKN.out⟩
              case measure => simp [intOf]; omega
            · have HO2 := Lib.hid (show lastW f.df f.adv r = lastW v (f.adv.drop (k + 1)) r by rw [HO.out, HD.out, if_neg (fun h => t2 h.2)])
              go_wp2
              go_roundw
              case rel => exact ⟨k + 1, v, rfl, by go_num, by omega, HO2.out, HBN.out, HFN.out, HKN.out⟩
              case measure => simp [intOf]; omega
          · have HO2 := Lib.hid (show lastW f.df f.adv r = lastW v (f.adv.drop (k + 1)) r by rw [HO.out, HD.out, if_neg (fun h => t1 h.1)])
            go_wp2
            go_roundw
            case rel => exact ⟨k + 1, v, rfl, by go_num, by omega, HO2.out, HBN.out, HFN.out, HKN.out⟩
            case measure => simp [intOf]; omega
        · obtain rfl : N = k := by omega
          have hv : lastW f.df f.adv r = v := by rw [HO.out, List.drop_of_length_le (by rw [← HN.out]; exact Nat.le_refl _)]; rfl
          obtain ⟨_, hh, hs, ha, _⟩ := use_bd HU.out
          obtain ⟨k1, k2, k3, k4, k5, k6⟩ := head_bd hh
          have hvb := lastW_bd f.adv r ha f.df k6
          rw [hv] at hvb
          have hm := Lib.hid (mul_bd (v := v) (by omega) hs)
          have HE := Lib.hid (show iAdv f s r = rnd (v * s) f.u by simp [iAdv, HU.out, HM.out, hv])
          obtain ⟨g0, g1, g2, g3, g4, g5, g6, g7⟩ := box_cells HKR.out (Below.refl _ _)
          clear hv hh hs ha hvb k2 k3 k4 k5 k6
          go_wp2_with fail
          refine (scaled_any f s v A1 c1 A2 c2 A3 c3 _ k1 hm.out).mono ?_
          rintro e w3 ⟨rfl, hb3⟩
          have HB3 := Lib.hid (HBR.out.trans (hb3.mono HBR.out.size))
          clear hb3
          go_wp2
          go_ret
          exact ⟨by rw [HE.out]; rfl, HB3.out⟩
end Go.Proofs.Ytagokefbbdlpcaa
