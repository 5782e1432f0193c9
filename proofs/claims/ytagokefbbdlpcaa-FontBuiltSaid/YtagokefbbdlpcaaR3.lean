/- The reference's Validate of the font layer walked: it answers as vld. -/
import Derived.Test.YtagokefbbdlpcaaR1
import Derived.Deep.QuietTactic
import Derived.BigQuiet
namespace Go.Proofs.Ytagokefbbdlpcaa
set_option linter.unusedVariables false
set_option linter.unusedSimpArgs false
open Go.RowKit

theorem vld_r {f : Fnt} (hl : longB f = false) (hr : rangesB f = false) : vld f = 1 := by simp [vld, hl, hr]
theorem vld_o {f : Fnt} (hl : longB f = false) (hr : rangesB f = true) (ho : ordB f = false) : vld f = 10 := by simp [vld, hl, hr, ho]
theorem vld_z {f : Fnt} (hl : longB f = false) (hr : rangesB f = true) (ho : ordB f = true) : vld f = 0 := by simp [vld, hl, hr, ho]
/-- What stands for the advance before the k-th. -/
def LastOf (l : List Adv) (k : Nat) (last : Int) : Prop := (k = 0 ∧ last = -1) ∨ (∃ m y, k = m + 1 ∧ l[m]? = some y ∧ last = y.t)
theorem ascending_q (a b c d : Int) (w : World) (v : Bool) (hv : ltB a b c d = v) : Calls Try.prog 71 #[.int .i32 a, .int .i32 b, .int .i32 c, .int .i32 d] w (fun e w' => e = .returned (.bool v) ∧ w' = w) :=
  (ascending_any a b c d w).mono fun _ _ ⟨he, hw⟩ => ⟨by rw [he, hv], hw.symm⟩

set_option maxRecDepth 100000 in
set_option maxHeartbeats 8000000 in
theorem rv : RV := by
  intro f A1 c1 A2 c2 A3 c3 w hf
  obtain ⟨fu, fa, fd, fg, fdf, adv, ker, lig⟩ := f
  obtain ⟨r1, r2, r3, l1, l2, l3⟩ := hf
  dsimp only at r1 r2 r3 l1 l2 l3
  unfold maxLen at l1 l2 l3
  unfold Fnt.val
  dsimp only
  have R1 := Lib.hid r1
  have R2 := Lib.hid r2
  have R3 := Lib.hid r3
  obtain ⟨N1, hN1⟩ : ∃ N, N = adv.length := ⟨_, rfl⟩
  obtain ⟨N2, hN2⟩ : ∃ N, N = ker.length := ⟨_, rfl⟩
  obtain ⟨N3, hN3⟩ : ∃ N, N = lig.length := ⟨_, rfl⟩
  rw [← hN1] at l1 ⊢
  rw [← hN2] at l2 ⊢
  rw [← hN3] at l3 ⊢
  have HN1 := Lib.hid hN1
  have HN2 := Lib.hid hN2
  have HN3 := Lib.hid hN3
  clear r1 r2 r3 hN1 hN2 hN3
  have HB0 := Lib.hid ((Below.refl w.heap.size w).alloc (Nat.le_refl _) (Obj.cells #[.int .i64 fu, .int .i64 fa, .int .i64 fd, .int .i64 fg, .int .i64 fdf, .slice A1 N1 c1, .slice A2 N2 c2, .slice A3 N3 c3] 38))
  have HK0 := Lib.hid (Blk.new w 38 #[.int .i64 fu, .int .i64 fa, .int .i64 fd, .int .i64 fg, .int .i64 fdf, .slice A1 N1 c1, .slice A2 N2 c2, .slice A3 N3 c3])
  by_cases h1 : 100 < N1
  · have HE := Lib.hid (show vld ⟨fu, fa, fd, fg, fdf, adv, ker, lig⟩ = 2 by have := HN1.out; have hz : 100 < adv.length := (by omega); simp [vld, longB, hz])
    have h1' : (100 : Int) < (N1 : Int) := by omega
    go_enter Try.func50, Try.ntmps50
    go_wp2
    go_ret
    exact ⟨by rw [HE.out]; rfl, HB0.out⟩
  · have h1' : (N1 : Int) ≤ 100 := by omega
    by_cases h2 : 100 < N2
    · have HE := Lib.hid (show vld ⟨fu, fa, fd, fg, fdf, adv, ker, lig⟩ = 2 by have := HN2.out; have hz : 100 < ker.length := (by omega); simp [vld, longB, hz])
      have h2' : (100 : Int) < (N2 : Int) := by omega
      go_enter Try.func50, Try.ntmps50
      go_wp2
      go_ret
      exact ⟨by rw [HE.out]; rfl, HB0.out⟩
    · have h2' : (N2 : Int) ≤ 100 := by omega
      by_cases h3 : 100 < N3
      · have HE := Lib.hid (show vld ⟨fu, fa, fd, fg, fdf, adv, ker, lig⟩ = 2 by have := HN3.out; have hz : 100 < lig.length := (by omega); simp [vld, longB, hz])
        have h3' : (100 : Int) < (N3 : Int) := by omega
        go_enter Try.func50, Try.ntmps50
        go_wp2
        go_ret
        exact ⟨by rw [HE.out]; rfl, HB0.out⟩
      · have h3' : (N3 : Int) ≤ 100 := by omega
        have HL := Lib.hid (show longB ⟨fu, fa, fd, fg, fdf, adv, ker, lig⟩ = false by have := HN1.out; have := HN2.out; have := HN3.out; simp [longB]; omega)
        clear h1 h2 h3 l1 l2 l3
        go_enter Try.func50, Try.ntmps50
        by_cases u1 : fu < 16
        · have HE := Lib.hid (show vld ⟨fu, fa, fd, fg, fdf, adv, ker, lig⟩ = 1 from vld_r HL.out (by have hu : inB fu 16 4096 = false := (by simp [inB]; omega); simp [rangesB, headOk, hu]))
          go_wp2
          go_ret
          exact ⟨by rw [HE.out]; rfl, HB0.out⟩
        · by_cases u2 : 4096 < fu
          · have HE := Lib.hid (show vld ⟨fu, fa, fd, fg, fdf, adv, ker, lig⟩ = 1 from vld_r HL.out (by have hu : inB fu 16 4096 = false := (by simp [inB]; omega); simp [rangesB, headOk, hu]))
            go_wp2
            go_ret
            exact ⟨by rw [HE.out]; rfl, HB0.out⟩
          · have Hq0 := Lib.hid (show inB fu 16 4096 = true by simp [inB]; omega)
            go_wp2_with fail
            refine (metric_any fa _).mono ?_
            rintro e wc ⟨rfl, rfl⟩
            cases q : inB fa 0 4096
            · have HE := Lib.hid (show vld ⟨fu, fa, fd, fg, fdf, adv, ker, lig⟩ = 1 from vld_r HL.out (by simp [rangesB, headOk, q]))
              clear q
              go_wp2
              go_ret
              exact ⟨by rw [HE.out]; rfl, HB0.out⟩
            · have Hq1 := Lib.hid q
              have bq1 : 0 ≤ fa ∧ fa ≤ 4096 := by simpa [inB] using q
              clear q
              go_wp2_with fail
              refine (metric_any fd _).mono ?_
              rintro e wc ⟨rfl, rfl⟩
              cases q : inB fd 0 4096
              · have HE := Lib.hid (show vld ⟨fu, fa, fd, fg, fdf, adv, ker, lig⟩ = 1 from vld_r HL.out (by simp [rangesB, headOk, q]))
                clear q
                go_wp2
                go_ret
                exact ⟨by rw [HE.out]; rfl, HB0.out⟩
              · have Hq2 := Lib.hid q
                have bq2 : 0 ≤ fd ∧ fd ≤ 4096 := by simpa [inB] using q
                clear q
                go_wp2_with fail
                refine (metric_any fg _).mono ?_
                rintro e wc ⟨rfl, rfl⟩
                cases q : inB fg 0 4096
                · have HE := Lib.hid (show vld ⟨fu, fa, fd, fg, fdf, adv, ker, lig⟩ = 1 from vld_r HL.out (by simp [rangesB, headOk, q]))
                  clear q
                  go_wp2
                  go_ret
                  exact ⟨by rw [HE.out]; rfl, HB0.out⟩
                · have Hq3 := Lib.hid q
                  have bq3 : 0 ≤ fg ∧ fg ≤ 4096 := by simpa [inB] using q
                  clear q
                  obtain ⟨b1, b2⟩ := bq1
                  obtain ⟨b3, b4⟩ := bq2
                  clear bq3
                  by_cases hs : fa + fd < 1
                  · have HE := Lib.hid (show vld ⟨fu, fa, fd, fg, fdf, adv, ker, lig⟩ = 1 from vld_r HL.out (by have hz : decide (1 ≤ fa + fd) = false := (by simp; omega); simp [rangesB, headOk, hz]))
                    go_wp2
                    go_ret
                    exact ⟨by rw [HE.out]; rfl, HB0.out⟩
                  · have HS := Lib.hid (show decide (1 ≤ fa + fd) = true by simp; omega)
                    go_wp2_with fail
                    refine (metric_any fdf _).mono ?_
                    rintro e wc ⟨rfl, rfl⟩
                    cases q : inB fdf 0 4096
                    · have HE := Lib.hid (show vld ⟨fu, fa, fd, fg, fdf, adv, ker, lig⟩ = 1 from vld_r HL.out (by simp [rangesB, headOk, q]))
                      clear q
                      go_wp2
                      go_ret
                      exact ⟨by rw [HE.out]; rfl, HB0.out⟩
                    · have Hq4 := Lib.hid q
                      have bq4 : 0 ≤ fdf ∧ fdf ≤ 4096 := by simpa [inB] using q
                      clear q
                      have HH := Lib.hid (show headOk ⟨fu, fa, fd, fg, fdf, adv, ker, lig⟩ = true by simp [headOk, Hq0.out, Hq1.out, Hq2.out, Hq3.out, HS.out, Hq4.out])
                      clear Hq0 Hq1 Hq2 Hq3 Hq4 HS bq4 u1 u2
                      go_wp2
                      clear hs b1 b2 b3 b4
                      generalize w.alloc (Obj.cells #[.int .i64 fu, .int .i64 fa, .int .i64 fd, .int .i64 fg, .int .i64 fdf, .slice A1 N1 c1, .slice A2 N2 c2, .slice A3 N3 c3] 38) = W at *
                      go_loopw [3] (fun s wr => ∃ k : Nat, s = .int .i64 (k : Int) ∧ k ≤ N1 ∧ (adv.take k).all advOk = true ∧ Below w.heap.size w wr ∧ Blk wr w.heap.size 38 #[.int .i64 fu, .int .i64 fa, .int .i64 fd, .int .i64 fg, .int .i64 fdf, .slice A1 N1 c1, .slice A2 N2 c2, .slice A3 N3 c3]) (fun s _ => N1 - (intOf s).toNat)
                      case atStart => exact ⟨0, rfl, by omega, by simp, HB0.out, HK0.out⟩
                      case round =>
                        obtain ⟨k, rfl, hk, ht, hbr, hkr⟩ := hrel
                        have HT := Lib.hid ht
                        have HB1 := Lib.hid hbr
                        have HK1 := Lib.hid hkr
                        have hH5 : wr.cell? ⟨w.heap.size, 5, none⟩ = some (.slice A1 N1 c1) := by rw [hkr.cell]; rfl
                        have hH6 : wr.cell? ⟨w.heap.size, 6, none⟩ = some (.slice A2 N2 c2) := by rw [hkr.cell]; rfl
                        have hH7 : wr.cell? ⟨w.heap.size, 7, none⟩ = some (.slice A3 N3 c3) := by rw [hkr.cell]; rfl
                        clear ht hbr hkr
                        by_cases hkn : k < N1
                        · have hk0 : (k : Int) < (N1 : Int) := by omega
                          obtain ⟨x, b, off, hx, hA, hbl, hc⟩ := elem_at (cells := Adv.cells) (size := 3) (fun _ => rfl) (by omega) R1.out HB1.out k (by rw [← HN1.out]; exact hkn)
                          subst hA
                          obtain ⟨xf, xt, xw⟩ := x
                          have d0 : wr.cell? ⟨b, off + k * 3, none⟩ = some (.int .i32 xf) := hc 0 _ (by omega) rfl
                          have d1 : wr.cell? ⟨b, off + k * 3 + 1, none⟩ = some (.int .i32 xt) := hc 1 _ (by omega) rfl
                          have d2 : wr.cell? ⟨b, off + k * 3 + 2, none⟩ = some (.int .i64 xw) := hc 2 _ (by omega) rfl
                          have HX := Lib.hid hx
                          have HBN := Lib.hid (HB1.out.alloc HB1.out.size (Obj.cells #[.int .i32 xf, .int .i32 xt, .int .i64 xw] 54))
                          have HKN := Lib.hid (HK1.out.alloc (Obj.cells #[.int .i32 xf, .int .i32 xt, .int .i64 xw] 54))
                          clear hc hx
                          go_wp2_with fail
                          refine (rvalid_any xf _).mono ?_
                          rintro e wc ⟨rfl, rfl⟩
                          cases q : inB xf 0 1114111
                          · have HE := Lib.hid (show vld ⟨fu, fa, fd, fg, fdf, adv, ker, lig⟩ = 1 from vld_r HL.out (by simp [rangesB, all_not (p := advOk) HX.out (by simp [advOk, q])]))
                            clear q
                            go_wp2
                            go_ret
                            exact ⟨by rw [HE.out]; rfl, HBN.out⟩
                          · have Hq0 := Lib.hid q
                            clear q
                            go_wp2_with fail
                            refine (rvalid_any xt _).mono ?_
                            rintro e wc ⟨rfl, rfl⟩
                            cases q : inB xt 0 1114111
                            · have HE := Lib.hid (show vld ⟨fu, fa, fd, fg, fdf, adv, ker, lig⟩ = 1 from vld_r HL.out (by simp [rangesB, all_not (p := advOk) HX.out (by simp [advOk, q])]))
                              clear q
                              go_wp2
                              go_ret
                              exact ⟨by rw [HE.out]; rfl, HBN.out⟩
                            · have Hq1 := Lib.hid q
                              clear q
                              go_wp2_with fail
                              refine (metric_any xw _).mono ?_
                              rintro e wc ⟨rfl, rfl⟩
                              cases q : inB xw 0 4096
                              · have HE := Lib.hid (show vld ⟨fu, fa, fd, fg, fdf, adv, ker, lig⟩ = 1 from vld_r HL.out (by simp [rangesB, all_not (p := advOk) HX.out (by simp [advOk, q])]))
                                clear q
                                go_wp2
                                go_ret
                                exact ⟨by rw [HE.out]; rfl, HBN.out⟩
                              · have Hq2 := Lib.hid q
                                clear q
                                go_wp2
                                go_roundw
                                case rel => exact ⟨k + 1, by go_num, by omega, take_all HX.out (by simp [advOk, Hq0.out, Hq1.out, Hq2.out]) HT.out, HBN.out, HKN.out⟩
                                case measure => simp [intOf]; omega
                        · obtain rfl : N1 = k := by omega
                          have HA1 := Lib.hid (show adv.all advOk = true by have := HT.out; rwa [List.take_of_length_le (by rw [← HN1.out]; exact Nat.le_refl _)] at this)
                          clear HT
                          go_wp2
                          go_loopw [5] (fun s wr => ∃ k : Nat, s = .int .i64 (k : Int) ∧ k ≤ N2 ∧ (ker.take k).all kerOk = true ∧ Below w.heap.size w wr ∧ Blk wr w.heap.size 38 #[.int .i64 fu, .int .i64 fa, .int .i64 fd, .int .i64 fg, .int .i64 fdf, .slice A1 N1 c1, .slice A2 N2 c2, .slice A3 N3 c3]) (fun s _ => N2 - (intOf s).toNat)
                          case atStart => exact ⟨0, rfl, by omega, by simp, HB1.out, HK1.out⟩
                          case round =>
                            obtain ⟨k, rfl, hk, ht, hbr, hkr⟩ := hrel
                            have HT := Lib.hid ht
                            have HB2 := Lib.hid hbr
                            have HK2 := Lib.hid hkr
                            have hH5 : wr.cell? ⟨w.heap.size, 5, none⟩ = some (.slice A1 N1 c1) := by rw [hkr.cell]; rfl
                            have hH6 : wr.cell? ⟨w.heap.size, 6, none⟩ = some (.slice A2 N2 c2) := by rw [hkr.cell]; rfl
                            have hH7 : wr.cell? ⟨w.heap.size, 7, none⟩ = some (.slice A3 N3 c3) := by rw [hkr.cell]; rfl
                            clear ht hbr hkr
                            by_cases hkn : k < N2
                            · have hk0 : (k : Int) < (N2 : Int) := by omega
                              obtain ⟨x, b, off, hx, hA, hbl, hc⟩ := elem_at (cells := Ker.cells) (size := 3) (fun _ => rfl) (by omega) R2.out HB2.out k (by rw [← HN2.out]; exact hkn)
                              subst hA
                              obtain ⟨xa, xb, xd⟩ := x
                              have d0 : wr.cell? ⟨b, off + k * 3, none⟩ = some (.int .i32 xa) := hc 0 _ (by omega) rfl
                              have d1 : wr.cell? ⟨b, off + k * 3 + 1, none⟩ = some (.int .i32 xb) := hc 1 _ (by omega) rfl
                              have d2 : wr.cell? ⟨b, off + k * 3 + 2, none⟩ = some (.int .i64 xd) := hc 2 _ (by omega) rfl
                              have HX := Lib.hid hx
                              have HBN := Lib.hid (HB2.out.alloc HB2.out.size (Obj.cells #[.int .i32 xa, .int .i32 xb, .int .i64 xd] 48))
                              have HKN := Lib.hid (HK2.out.alloc (Obj.cells #[.int .i32 xa, .int .i32 xb, .int .i64 xd] 48))
                              clear hc hx
                              go_wp2_with fail
                              refine (rvalid_any xa _).mono ?_
                              rintro e wc ⟨rfl, rfl⟩
                              cases q : inB xa 0 1114111
                              · have HE := Lib.hid (show vld ⟨fu, fa, fd, fg, fdf, adv, ker, lig⟩ = 1 from vld_r HL.out (by simp [rangesB, all_not (p := kerOk) HX.out (by simp [kerOk, q])]))
                                clear q
                                go_wp2
                                go_ret
                                exact ⟨by rw [HE.out]; rfl, HBN.out⟩
                              · have Hq0 := Lib.hid q
                                clear q
                                go_wp2_with fail
                                refine (rvalid_any xb _).mono ?_
                                rintro e wc ⟨rfl, rfl⟩
                                cases q : inB xb 0 1114111
                                · have HE := Lib.hid (show vld ⟨fu, fa, fd, fg, fdf, adv, ker, lig⟩ = 1 from vld_r HL.out (by simp [rangesB, all_not (p := kerOk) HX.out (by simp [kerOk, q])]))
                                  clear q
                                  go_wp2
                                  go_ret
                                  exact ⟨by rw [HE.out]; rfl, HBN.out⟩
                                · have Hq1 := Lib.hid q
                                  clear q
                                  by_cases t1 : xd < -1000
                                  · have HE := Lib.hid (show vld ⟨fu, fa, fd, fg, fdf, adv, ker, lig⟩ = 1 from vld_r HL.out (by have hz : inB xd (-1000) 1000 = false := (by simp [inB]; omega); simp [rangesB, all_not (p := kerOk) HX.out (by simp [kerOk, hz])]))
                                    go_wp2
                                    go_ret
                                    exact ⟨by rw [HE.out]; rfl, HBN.out⟩
                                  · by_cases t2 : 1000 < xd
                                    · have HE := Lib.hid (show vld ⟨fu, fa, fd, fg, fdf, adv, ker, lig⟩ = 1 from vld_r HL.out (by have hz : inB xd (-1000) 1000 = false := (by simp [inB]; omega); simp [rangesB, all_not (p := kerOk) HX.out (by simp [kerOk, hz])]))
                                      go_wp2
                                      go_ret
                                      exact ⟨by rw [HE.out]; rfl, HBN.out⟩
                                    · have Hq2 := Lib.hid (show inB xd (-1000) 1000 = true by simp [inB]; omega)
                                      go_wp2
                                      go_roundw
                                      case rel => exact ⟨k + 1, by go_num, by omega, take_all HX.out (by simp [kerOk, Hq0.out, Hq1.out, Hq2.out]) HT.out, HBN.out, HKN.out⟩
                                      case measure => simp [intOf]; omega
                            · obtain rfl : N2 = k := by omega
                              have HA2 := Lib.hid (show ker.all kerOk = true by have := HT.out; rwa [List.take_of_length_le (by rw [← HN2.out]; exact Nat.le_refl _)] at this)
                              clear HT
                              go_wp2
                              go_loopw [7] (fun s wr => ∃ k : Nat, s = .int .i64 (k : Int) ∧ k ≤ N3 ∧ (lig.take k).all ligOk = true ∧ Below w.heap.size w wr ∧ Blk wr w.heap.size 38 #[.int .i64 fu, .int .i64 fa, .int .i64 fd, .int .i64 fg, .int .i64 fdf, .slice A1 N1 c1, .slice A2 N2 c2, .slice A3 N3 c3]) (fun s _ => N3 - (intOf s).toNat)
                              case atStart => exact ⟨0, rfl, by omega, by simp, HB2.out, HK2.out⟩
                              case round =>
                                obtain ⟨k, rfl, hk, ht, hbr, hkr⟩ := hrel
                                have HT := Lib.hid ht
                                have HB3 := Lib.hid hbr
                                have HK3 := Lib.hid hkr
                                have hH5 : wr.cell? ⟨w.heap.size, 5, none⟩ = some (.slice A1 N1 c1) := by rw [hkr.cell]; rfl
                                have hH6 : wr.cell? ⟨w.heap.size, 6, none⟩ = some (.slice A2 N2 c2) := by rw [hkr.cell]; rfl
                                have hH7 : wr.cell? ⟨w.heap.size, 7, none⟩ = some (.slice A3 N3 c3) := by rw [hkr.cell]; rfl
                                clear ht hbr hkr
                                by_cases hkn : k < N3
                                · have hk0 : (k : Int) < (N3 : Int) := by omega
                                  obtain ⟨x, b, off, hx, hA, hbl, hc⟩ := elem_at (cells := Lig.cells) (size := 4) (fun _ => rfl) (by omega) R3.out HB3.out k (by rw [← HN3.out]; exact hkn)
                                  subst hA
                                  obtain ⟨xa, xb, xg, xw⟩ := x
                                  have d0 : wr.cell? ⟨b, off + k * 4, none⟩ = some (.int .i32 xa) := hc 0 _ (by omega) rfl
                                  have d1 : wr.cell? ⟨b, off + k * 4 + 1, none⟩ = some (.int .i32 xb) := hc 1 _ (by omega) rfl
                                  have d2 : wr.cell? ⟨b, off + k * 4 + 2, none⟩ = some (.int .i64 xg) := hc 2 _ (by omega) rfl
                                  have d3 : wr.cell? ⟨b, off + k * 4 + 3, none⟩ = some (.int .i64 xw) := hc 3 _ (by omega) rfl
                                  have HX := Lib.hid hx
                                  have HBN := Lib.hid (HB3.out.alloc HB3.out.size (Obj.cells #[.int .i32 xa, .int .i32 xb, .int .i64 xg, .int .i64 xw] 50))
                                  have HKN := Lib.hid (HK3.out.alloc (Obj.cells #[.int .i32 xa, .int .i32 xb, .int .i64 xg, .int .i64 xw] 50))
                                  clear hc hx
                                  go_wp2_with fail
                                  refine (rvalid_any xa _).mono ?_
                                  rintro e wc ⟨rfl, rfl⟩
                                  cases q : inB xa 0 1114111
                                  · have HE := Lib.hid (show vld ⟨fu, fa, fd, fg, fdf, adv, ker, lig⟩ = 1 from vld_r HL.out (by simp [rangesB, all_not (p := ligOk) HX.out (by simp [ligOk, q])]))
                                    clear q
                                    go_wp2
                                    go_ret
                                    exact ⟨by rw [HE.out]; rfl, HBN.out⟩
                                  · have Hq0 := Lib.hid q
                                    clear q
                                    go_wp2_with fail
                                    refine (rvalid_any xb _).mono ?_
                                    rintro e wc ⟨rfl, rfl⟩
                                    cases q : inB xb 0 1114111
                                    · have HE := Lib.hid (show vld ⟨fu, fa, fd, fg, fdf, adv, ker, lig⟩ = 1 from vld_r HL.out (by simp [rangesB, all_not (p := ligOk) HX.out (by simp [ligOk, q])]))
                                      clear q
                                      go_wp2
                                      go_ret
                                      exact ⟨by rw [HE.out]; rfl, HBN.out⟩
                                    · have Hq1 := Lib.hid q
                                      clear q
                                      by_cases t1 : xg < 1114112
                                      · have HE := Lib.hid (show vld ⟨fu, fa, fd, fg, fdf, adv, ker, lig⟩ = 1 from vld_r HL.out (by have hz : inB xg 1114112 2097151 = false := (by simp [inB]; omega); simp [rangesB, all_not (p := ligOk) HX.out (by simp [ligOk, hz])]))
                                        go_wp2
                                        go_ret
                                        exact ⟨by rw [HE.out]; rfl, HBN.out⟩
                                      · by_cases t2 : 2097151 < xg
                                        · have HE := Lib.hid (show vld ⟨fu, fa, fd, fg, fdf, adv, ker, lig⟩ = 1 from vld_r HL.out (by have hz : inB xg 1114112 2097151 = false := (by simp [inB]; omega); simp [rangesB, all_not (p := ligOk) HX.out (by simp [ligOk, hz])]))
                                          go_wp2
                                          go_ret
                                          exact ⟨by rw [HE.out]; rfl, HBN.out⟩
                                        · have Hq2 := Lib.hid (show inB xg 1114112 2097151 = true by simp [inB]; omega)
                                          go_wp2_with fail
                                          refine (metric_any xw _).mono ?_
                                          rintro e wc ⟨rfl, rfl⟩
                                          cases q : inB xw 0 4096
                                          · have HE := Lib.hid (show vld ⟨fu, fa, fd, fg, fdf, adv, ker, lig⟩ = 1 from vld_r HL.out (by simp [rangesB, all_not (p := ligOk) HX.out (by simp [ligOk, q])]))
                                            clear q
                                            go_wp2
                                            go_ret
                                            exact ⟨by rw [HE.out]; rfl, HBN.out⟩
                                          · have Hq3 := Lib.hid q
                                            clear q
                                            go_wp2
                                            go_roundw
                                            case rel => exact ⟨k + 1, by go_num, by omega, take_all HX.out (by simp [ligOk, Hq0.out, Hq1.out, Hq2.out, Hq3.out]) HT.out, HBN.out, HKN.out⟩
                                            case measure => simp [intOf]; omega
                                · obtain rfl : N3 = k := by omega
                                  have HA3 := Lib.hid (show lig.all ligOk = true by have := HT.out; rwa [List.take_of_length_le (by rw [← HN3.out]; exact Nat.le_refl _)] at this)
                                  clear HT
                                  go_wp2
                                  have HR := Lib.hid (show rangesB ⟨fu, fa, fd, fg, fdf, adv, ker, lig⟩ = true by simp [rangesB, HH.out, HA1.out, HA2.out, HA3.out])
                                  have HST := Lib.hid (show advOrd (-1) adv = advOrd (-1) (adv.drop 0) from rfl)
                                  go_loopw [9] (fun s wr => ∃ (k : Nat) (kk last : Int), s = .int .i64 kk ∧ kk = (k : Int) ∧ k ≤ N1 ∧ LastOf adv k last ∧ advOrd (-1) adv = advOrd last (adv.drop k) ∧ Below w.heap.size w wr ∧ Blk wr w.heap.size 38 #[.int .i64 fu, .int .i64 fa, .int .i64 fd, .int .i64 fg, .int .i64 fdf, .slice A1 N1 c1, .slice A2 N2 c2, .slice A3 N3 c3]) (fun s _ => N1 - (intOf s).toNat)
                                  case atStart => exact ⟨0, 0, -1, rfl, rfl, by omega, .inl ⟨rfl, rfl⟩, HST.out, HB3.out, HK3.out⟩
                                  case round =>
                                    obtain ⟨k, kk, last, rfl, hkk, hk, hl, ho, hbr, hkr⟩ := hrel
                                    have HLO := Lib.hid hl
                                    have HO := Lib.hid ho
                                    have HB4 := Lib.hid hbr
                                    have HK4 := Lib.hid hkr
                                    have hH5 : wr.cell? ⟨w.heap.size, 5, none⟩ = some (.slice A1 N1 c1) := by rw [hkr.cell]; rfl
                                    have hH6 : wr.cell? ⟨w.heap.size, 6, none⟩ = some (.slice A2 N2 c2) := by rw [hkr.cell]; rfl
                                    have hH7 : wr.cell? ⟨w.heap.size, 7, none⟩ = some (.slice A3 N3 c3) := by rw [hkr.cell]; rfl
                                    clear hl ho hbr hkr
                                    by_cases hkn : k < N1
                                    · have hk0 : kk < (N1 : Int) := by omega
                                      obtain ⟨x, b, off, hx, hA, hbl, hc⟩ := elem_at (cells := Adv.cells) (size := 3) (fun _ => rfl) (by omega) R1.out HB4.out k (by rw [← HN1.out]; exact hkn)
                                      subst hA
                                      obtain ⟨xf, xt, xw⟩ := x
                                      have HD := Lib.hid (advOrd_drop adv last k _ hx)
                                      have HX := Lib.hid hx
                                      have hxo := List.all_eq_true.1 HA1.out _ (List.mem_of_getElem? hx)
                                      simp only [advOk, inB, Bool.and_eq_true, decide_eq_true_eq] at hxo
                                      have hxf : 0 ≤ xf := hxo.1.1
                                      clear hx hxo
                                      rcases HLO.out with ⟨hk1, hl1⟩ | ⟨m, y, hk1, hy, hl1⟩
                                      · subst hk1
                                        obtain rfl : kk = 0 := hkk
                                        have d0 : wr.cell? ⟨b, off, none⟩ = some (.int .i32 xf) := by simpa using hc 0 _ (by omega) rfl
                                        have d1 : wr.cell? ⟨b, off + 1, none⟩ = some (.int .i32 xt) := by simpa using hc 1 _ (by omega) rfl
                                        have HL1 := Lib.hid hl1
                                        clear hc hl1
                                        by_cases t1 : xt < xf
                                        · have HE := Lib.hid (show vld ⟨fu, fa, fd, fg, fdf, adv, ker, lig⟩ = 10 from vld_o HL.out HR.out (by simp only [ordB]; rw [HO.out, HD.out, decide_eq_false (by show ¬ (last < xf ∧ xf ≤ xt); have := HL1.out; omega)]; rfl))
                                          have t1b : decide (xt < xf) = true := by simpa using t1
                                          clear t1 hxf
                                          go_upto_region 26 with (fail)
                                          go_quiet (fail)
                                          go_wp2
                                          go_ret
                                          exact ⟨by rw [HE.out]; rfl, below_drewN HB4.out _⟩
                                        · have HO2 := Lib.hid (show advOrd (-1) adv = advOrd xt (adv.drop (0 + 1)) by rw [HO.out, HD.out, decide_eq_true (by show last < xf ∧ xf ≤ xt; have := HL1.out; omega)]; rfl)
                                          have t1b : decide (xt < xf) = false := by simpa using t1
                                          clear t1 hxf
                                          go_upto_region 26 with (fail)
                                          go_quiet (fail)
                                          go_wp2
                                          go_roundw
                                          case rel => exact ⟨1, 1, xt, by go_num, rfl, by omega, .inr ⟨0, _, rfl, HX.out, rfl⟩, HO2.out, below_drewN HB4.out _, HK4.out.drewN _⟩
                                          case measure => simp [intOf]; omega
                                      · subst hk1
                                        obtain ⟨yf, yt, yw⟩ := y
                                        have hl1 : last = yt := hl1
                                        obtain rfl : kk = (m : Int) + 1 := by omega
                                        obtain ⟨y2, b', off', hy2, hA, _, hc2⟩ := elem_at (cells := Adv.cells) (size := 3) (fun _ => rfl) (by omega) R1.out HB4.out m (by rw [← HN1.out]; omega)
                                        injection hA with hA
                                        injection hA with hb' hoff _
                                        subst hb' hoff
                                        rw [hy] at hy2
                                        injection hy2 with hy2
                                        subst hy2
                                        have d0 : wr.cell? ⟨b, off + (m + 1) * 3, none⟩ = some (.int .i32 xf) := hc 0 _ (by omega) rfl
                                        have d1 : wr.cell? ⟨b, off + (m + 1) * 3 + 1, none⟩ = some (.int .i32 xt) := hc 1 _ (by omega) rfl
                                        have e1 : wr.cell? ⟨b, off + m * 3 + 1, none⟩ = some (.int .i32 yt) := hc2 1 _ (by omega) rfl
                                        have HL1 := Lib.hid hl1
                                        have hm1 : (0 : Int) ≤ (m : Int) + 1 := by omega
                                        have hm2 : (m : Int) < (N1 : Int) := by omega
                                        have hm4 : (0 : Int) ≤ (m : Int) := by omega
                                        have hm5 : decide ((0 : Int) < (m : Int) + 1) = true := decide_eq_true (by omega)
                                        clear hc hc2 hl1 hkk hy
                                        by_cases t1 : xt < xf
                                        · have HE := Lib.hid (show vld ⟨fu, fa, fd, fg, fdf, adv, ker, lig⟩ = 10 from vld_o HL.out HR.out (by simp only [ordB]; rw [HO.out, HD.out, decide_eq_false (by show ¬ (last < xf ∧ xf ≤ xt); have := HL1.out; omega)]; rfl))
                                          have t1b : decide (xt < xf) = true := by simpa using t1
                                          clear t1 hxf
                                          go_upto_region 26 with (fail)
                                          go_quiet (fail)
                                          go_wp2
                                          go_ret
                                          exact ⟨by rw [HE.out]; rfl, below_drewN HB4.out _⟩
                                        · have t1b : decide (xt < xf) = false := by simpa using t1
                                          by_cases t2 : xf ≤ yt
                                          · have HE := Lib.hid (show vld ⟨fu, fa, fd, fg, fdf, adv, ker, lig⟩ = 10 from vld_o HL.out HR.out (by simp only [ordB]; rw [HO.out, HD.out, decide_eq_false (by show ¬ (last < xf ∧ xf ≤ xt); have := HL1.out; omega)]; rfl))
                                            have t2b : decide (xf ≤ yt) = true := by simpa using t2
                                            have hk3 : IntKind.i64.wrap (m : Int) = (m : Int) := IntWalk.i64_in _ (by omega)
                                            clear t1 t2 hxf
                                            go_upto_region 26 with (fail)
                                            go_quiet (fail)
                                            go_wp2
                                            go_ret
                                            exact ⟨by rw [HE.out]; rfl, below_drewN HB4.out _⟩
                                          · have HO2 := Lib.hid (show advOrd (-1) adv = advOrd xt (adv.drop ((m + 1) + 1)) by rw [HO.out, HD.out, decide_eq_true (by show last < xf ∧ xf ≤ xt; have := HL1.out; omega)]; rfl)
                                            have t2b : decide (xf ≤ yt) = false := by simpa using t2
                                            have hk3 : IntKind.i64.wrap (m : Int) = (m : Int) := IntWalk.i64_in _ (by omega)
                                            clear t1 t2 hxf
                                            go_upto_region 26 with (fail)
                                            go_quiet (fail)
                                            go_wp2
                                            clear hk3
                                            go_roundw
                                            case rel => exact ⟨m + 1 + 1, (m : Int) + 1 + 1, xt, by go_num, by omega, by omega, .inr ⟨m + 1, _, rfl, HX.out, rfl⟩, HO2.out, below_drewN HB4.out _, HK4.out.drewN _⟩
                                            case measure => simp [intOf]; omega
                                    · obtain rfl : N1 = k := by omega
                                      have hkk2 : ¬ kk < (N1 : Int) := by omega
                                      have HO1 := Lib.hid (show advOrd (-1) adv = true by rw [HO.out, List.drop_of_length_le (by rw [← HN1.out]; exact Nat.le_refl _)]; rfl)
                                      clear HO HLO
                                      go_wp2
                                      go_loopw [10] (fun s wr => ∃ k : Nat, s = .int .i64 ((k : Int) + 1) ∧ (k = 0 ∨ k + 1 ≤ N2) ∧ (∀ j x y, j < k → ker[j]? = some x → ker[j + 1]? = some y → kerLt x y = true) ∧ Below w.heap.size w wr ∧ Blk wr w.heap.size 38 #[.int .i64 fu, .int .i64 fa, .int .i64 fd, .int .i64 fg, .int .i64 fdf, .slice A1 N1 c1, .slice A2 N2 c2, .slice A3 N3 c3]) (fun s _ => N2 - (intOf s).toNat)
                                      case atStart => exact ⟨0, rfl, .inl rfl, fun j x y hj => absurd hj (Nat.not_lt_zero _), HB4.out, HK4.out⟩
                                      case round =>
                                        obtain ⟨k, rfl, hk, ho, hbr, hkr⟩ := hrel
                                        have HO := Lib.hid ho
                                        have HB5 := Lib.hid hbr
                                        have HK5 := Lib.hid hkr
                                        have hH5 : wr.cell? ⟨w.heap.size, 5, none⟩ = some (.slice A1 N1 c1) := by rw [hkr.cell]; rfl
                                        have hH6 : wr.cell? ⟨w.heap.size, 6, none⟩ = some (.slice A2 N2 c2) := by rw [hkr.cell]; rfl
                                        have hH7 : wr.cell? ⟨w.heap.size, 7, none⟩ = some (.slice A3 N3 c3) := by rw [hkr.cell]; rfl
                                        clear ho hbr hkr
                                        by_cases hkn : k + 1 < N2
                                        · have hk0 : (k : Int) + 1 < (N2 : Int) := by omega
                                          obtain ⟨x, b, off, hx, hA, hbl, hc⟩ := elem_at (cells := Ker.cells) (size := 3) (fun _ => rfl) (by omega) R2.out HB5.out k (by rw [← HN2.out]; omega)
                                          subst hA
                                          obtain ⟨y, b', off', hy, hA, _, hc2⟩ := elem_at (cells := Ker.cells) (size := 3) (fun _ => rfl) (by omega) R2.out HB5.out (k + 1) (by rw [← HN2.out]; exact hkn)
                                          injection hA with hA
                                          injection hA with hb' hoff _
                                          subst hb' hoff
                                          obtain ⟨xa, xb, xd⟩ := x
                                          obtain ⟨ya, yb, yd⟩ := y
                                          have d0 : wr.cell? ⟨b, off + k * 3, none⟩ = some (.int .i32 xa) := hc 0 _ (by omega) rfl
                                          have d1 : wr.cell? ⟨b, off + k * 3 + 1, none⟩ = some (.int .i32 xb) := hc 1 _ (by omega) rfl
                                          have e0 : wr.cell? ⟨b, off + (k + 1) * 3, none⟩ = some (.int .i32 ya) := hc2 0 _ (by omega) rfl
                                          have e1 : wr.cell? ⟨b, off + (k + 1) * 3 + 1, none⟩ = some (.int .i32 yb) := hc2 1 _ (by omega) rfl
                                          have HX := Lib.hid hx
                                          have HY := Lib.hid hy
                                          have hk1 : (0 : Int) ≤ (k : Int) + 1 := by omega
                                          have hk2 : (k : Int) < (N2 : Int) := by omega
                                          have hk4 : (0 : Int) ≤ (k : Int) := by omega
                                          have hk3 : IntKind.i64.wrap (k : Int) = (k : Int) := IntWalk.i64_in _ (by omega)
                                          clear hc hc2 hx hy
                                          cases hlt : ltB xa xb ya yb
                                          · have HE := Lib.hid (show vld ⟨fu, fa, fd, fg, fdf, adv, ker, lig⟩ = 10 from vld_o HL.out HR.out (by simp [ordB, kerOrd, pw_not kerLt ker k _ _ HX.out HY.out hlt]))
                                            have HLT := Lib.hid hlt
                                            clear hlt
                                            go_upto_region 31 with (fail)
                                            go_quiet ((go_at_call 71; exact Calls.quiet_of_same (ascending_q _ _ _ _ _ _ HLT.out)))
                                            clear hk3
                                            go_wp2
                                            go_ret
                                            exact ⟨by rw [HE.out]; rfl, below_drewN HB5.out _⟩
                                          · have HLT := Lib.hid hlt
                                            clear hlt
                                            go_upto_region 31 with (fail)
                                            go_quiet ((go_at_call 71; exact Calls.quiet_of_same (ascending_q _ _ _ _ _ _ HLT.out)))
                                            clear hk3
                                            go_wp2
                                            go_roundw
                                            case rel =>
                                              refine ⟨k + 1, by go_num, .inr (by omega), fun j u v hj hu hv => ?_, below_drewN HB5.out _, HK5.out.drewN _⟩
                                              rcases Nat.lt_or_ge j k with h | h
                                              · exact HO.out j u v h hu hv
                                              · obtain rfl : j = k := by omega
                                                rw [HX.out] at hu; rw [HY.out] at hv
                                                injection hu with hu; injection hv with hv
                                                subst hu hv
                                                exact HLT.out
                                            case measure => simp [intOf]; omega
                                        · have HO2 := Lib.hid (show kerOrd ker = true from pw_of _ _ (fun j x y hx hy => HO.out j x y (by have := (List.getElem?_eq_some_iff.1 hy).1; have := HN2.out; omega) hx hy))
                                          have hkn2 : (N2 : Int) ≤ (k : Int) + 1 := by omega
                                          clear HO
                                          go_wp2
                                          go_loopw [11] (fun s wr => ∃ k : Nat, s = .int .i64 ((k : Int) + 1) ∧ (k = 0 ∨ k + 1 ≤ N3) ∧ (∀ j x y, j < k → lig[j]? = some x → lig[j + 1]? = some y → ligLt x y = true) ∧ Below w.heap.size w wr ∧ Blk wr w.heap.size 38 #[.int .i64 fu, .int .i64 fa, .int .i64 fd, .int .i64 fg, .int .i64 fdf, .slice A1 N1 c1, .slice A2 N2 c2, .slice A3 N3 c3]) (fun s _ => N3 - (intOf s).toNat)
                                          case atStart => exact ⟨0, rfl, .inl rfl, fun j x y hj => absurd hj (Nat.not_lt_zero _), HB5.out, HK5.out⟩
                                          case round =>
                                            obtain ⟨k, rfl, hk, ho, hbr, hkr⟩ := hrel
                                            have HO := Lib.hid ho
                                            have HB6 := Lib.hid hbr
                                            have HK6 := Lib.hid hkr
                                            have hH5 : wr.cell? ⟨w.heap.size, 5, none⟩ = some (.slice A1 N1 c1) := by rw [hkr.cell]; rfl
                                            have hH6 : wr.cell? ⟨w.heap.size, 6, none⟩ = some (.slice A2 N2 c2) := by rw [hkr.cell]; rfl
                                            have hH7 : wr.cell? ⟨w.heap.size, 7, none⟩ = some (.slice A3 N3 c3) := by rw [hkr.cell]; rfl
                                            clear ho hbr hkr
                                            by_cases hkn : k + 1 < N3
                                            · have hk0 : (k : Int) + 1 < (N3 : Int) := by omega
                                              obtain ⟨x, b, off, hx, hA, hbl, hc⟩ := elem_at (cells := Lig.cells) (size := 4) (fun _ => rfl) (by omega) R3.out HB6.out k (by rw [← HN3.out]; omega)
                                              subst hA
                                              obtain ⟨y, b', off', hy, hA, _, hc2⟩ := elem_at (cells := Lig.cells) (size := 4) (fun _ => rfl) (by omega) R3.out HB6.out (k + 1) (by rw [← HN3.out]; exact hkn)
                                              injection hA with hA
                                              injection hA with hb' hoff _
                                              subst hb' hoff
                                              obtain ⟨xa, xb, xg, xw⟩ := x
                                              obtain ⟨ya, yb, yg, yw⟩ := y
                                              have d0 : wr.cell? ⟨b, off + k * 4, none⟩ = some (.int .i32 xa) := hc 0 _ (by omega) rfl
                                              have d1 : wr.cell? ⟨b, off + k * 4 + 1, none⟩ = some (.int .i32 xb) := hc 1 _ (by omega) rfl
                                              have e0 : wr.cell? ⟨b, off + (k + 1) * 4, none⟩ = some (.int .i32 ya) := hc2 0 _ (by omega) rfl
                                              have e1 : wr.cell? ⟨b, off + (k + 1) * 4 + 1, none⟩ = some (.int .i32 yb) := hc2 1 _ (by omega) rfl
                                              have HX := Lib.hid hx
                                              have HY := Lib.hid hy
                                              have hk1 : (0 : Int) ≤ (k : Int) + 1 := by omega
                                              have hk2 : (k : Int) < (N3 : Int) := by omega
                                              have hk4 : (0 : Int) ≤ (k : Int) := by omega
                                              have hk3 : IntKind.i64.wrap (k : Int) = (k : Int) := IntWalk.i64_in _ (by omega)
                                              clear hc hc2 hx hy
                                              cases hlt : ltB xa xb ya yb
                                              · have HE := Lib.hid (show vld ⟨fu, fa, fd, fg, fdf, adv, ker, lig⟩ = 10 from vld_o HL.out HR.out (by simp [ordB, ligOrd, pw_not ligLt lig k _ _ HX.out HY.out hlt]))
                                                have HLT := Lib.hid hlt
                                                clear hlt
                                                go_upto_region 36 with (fail)
                                                go_quiet ((go_at_call 71; exact Calls.quiet_of_same (ascending_q _ _ _ _ _ _ HLT.out)))
                                                clear hk3
                                                go_wp2
                                                go_ret
                                                exact ⟨by rw [HE.out]; rfl, below_drewN HB6.out _⟩
                                              · have HLT := Lib.hid hlt
                                                clear hlt
                                                go_upto_region 36 with (fail)
                                                go_quiet ((go_at_call 71; exact Calls.quiet_of_same (ascending_q _ _ _ _ _ _ HLT.out)))
                                                clear hk3
                                                go_wp2
                                                go_roundw
                                                case rel =>
                                                  refine ⟨k + 1, by go_num, .inr (by omega), fun j u v hj hu hv => ?_, below_drewN HB6.out _, HK6.out.drewN _⟩
                                                  rcases Nat.lt_or_ge j k with h | h
                                                  · exact HO.out j u v h hu hv
                                                  · obtain rfl : j = k := by omega
                                                    rw [HX.out] at hu; rw [HY.out] at hv
                                                    injection hu with hu; injection hv with hv
                                                    subst hu hv
                                                    exact HLT.out
                                                case measure => simp [intOf]; omega
                                            · have HO3 := Lib.hid (show ligOrd lig = true from pw_of _ _ (fun j x y hx hy => HO.out j x y (by have := (List.getElem?_eq_some_iff.1 hy).1; have := HN3.out; omega) hx hy))
                                              have hkn2 : (N3 : Int) ≤ (k : Int) + 1 := by omega
                                              clear HO
                                              go_wp2
                                              have HE := Lib.hid (show vld ⟨fu, fa, fd, fg, fdf, adv, ker, lig⟩ = 0 from vld_z HL.out HR.out (by simp [ordB, HO1.out, HO2.out, HO3.out]))
                                              go_ret
                                              exact ⟨by rw [HE.out]; rfl, HB6.out⟩
end Go.Proofs.Ytagokefbbdlpcaa
