/- ranges of the font layer walked. -/
import Derived.Test.YtagokefbbdlpcaaF3
namespace Go.Proofs.Ytagokefbbdlpcaa
set_option linter.unusedVariables false
set_option linter.unusedSimpArgs false
open Go.RowKit

set_option maxRecDepth 100000 in
set_option maxHeartbeats 4000000 in
theorem ranges_any (f : Fnt) (A1 : Option Addr) (c1 : Nat) (A2 : Option Addr) (c2 : Nat) (A3 : Option Addr) (c3 : Nat) (w : World) (hf : FM w f A1 c1 A2 c2 A3 c3) (h1 : f.adv.length ≤ 100) (h2 : f.ker.length ≤ 100) (h3 : f.lig.length ≤ 100) :
    Calls Try.prog 57 #[f.val A1 c1 A2 c2 A3 c3] w (Blb (rangesB f) w) := by
  obtain ⟨fu, fa, fd, fg, fdf, adv, ker, lig⟩ := f
  obtain ⟨r1, r2, r3, _, _, _⟩ := hf
  dsimp only at r1 r2 r3 h1 h2 h3
  unfold Fnt.val
  dsimp only
  have R1 := Lib.hid r1
  have R2 := Lib.hid r2
  have R3 := Lib.hid r3
  obtain ⟨N1, hN1⟩ : ∃ N, N = adv.length := ⟨_, rfl⟩
  obtain ⟨N2, hN2⟩ : ∃ N, N = ker.length := ⟨_, rfl⟩
  obtain ⟨N3, hN3⟩ : ∃ N, N = lig.length := ⟨_, rfl⟩
  rw [← hN1] at h1 ⊢
  rw [← hN2] at h2 ⊢
  rw [← hN3] at h3 ⊢
  have HN1 := Lib.hid hN1
  have HN2 := Lib.hid hN2
  have HN3 := Lib.hid hN3
  clear r1 r2 r3 hN1 hN2 hN3
  have HB0 := Lib.hid ((Below.refl w.heap.size w).alloc (Nat.le_refl _) (Obj.cells #[.int .i64 fu, .int .i64 fa, .int .i64 fd, .int .i64 fg, .int .i64 fdf, .slice A1 N1 c1, .slice A2 N2 c2, .slice A3 N3 c3] 38))
  have HK0 := Lib.hid (Blk.new w 38 #[.int .i64 fu, .int .i64 fa, .int .i64 fd, .int .i64 fg, .int .i64 fdf, .slice A1 N1 c1, .slice A2 N2 c2, .slice A3 N3 c3])
  go_enter Try.func57, Try.ntmps57
  go_wp2_with fail
  refine (within_any fu 16 4096 _).mono ?_
  rintro e wc ⟨rfl, rfl⟩
  cases q1 : inB fu 16 4096
  · have Hq1 := Lib.hid q1
    clear q1
    have HE := Lib.hid (show rangesB ⟨fu, fa, fd, fg, fdf, adv, ker, lig⟩ = false by simp [rangesB, headOk, Hq1.out])
    go_wp2
    go_ret
    exact ⟨by rw [HE.out]; rfl, HB0.out⟩
  · have Hq1 := Lib.hid q1
    clear q1
    go_wp2_with fail
    refine (within_any fa 0 4096 _).mono ?_
    rintro e wc ⟨rfl, rfl⟩
    cases q2 : inB fa 0 4096
    · have Hq2 := Lib.hid q2
      clear q2
      have HE := Lib.hid (show rangesB ⟨fu, fa, fd, fg, fdf, adv, ker, lig⟩ = false by simp [rangesB, headOk, Hq2.out])
      go_wp2
      go_ret
      exact ⟨by rw [HE.out]; rfl, HB0.out⟩
    · have Hq2 := Lib.hid q2
      have bq2 : 0 ≤ fa ∧ fa ≤ 4096 := by simpa [inB] using q2
      clear q2
      go_wp2_with fail
      refine (within_any fd 0 4096 _).mono ?_
      rintro e wc ⟨rfl, rfl⟩
      cases q3 : inB fd 0 4096
      · have Hq3 := Lib.hid q3
        clear q3
        have HE := Lib.hid (show rangesB ⟨fu, fa, fd, fg, fdf, adv, ker, lig⟩ = false by simp [rangesB, headOk, Hq3.out])
        go_wp2
        go_ret
        exact ⟨by rw [HE.out]; rfl, HB0.out⟩
      · have Hq3 := Lib.hid q3
        have bq3 : 0 ≤ fd ∧ fd ≤ 4096 := by simpa [inB] using q3
        clear q3
        go_wp2_with fail
        refine (within_any fg 0 4096 _).mono ?_
        rintro e wc ⟨rfl, rfl⟩
        cases q4 : inB fg 0 4096
        · have Hq4 := Lib.hid q4
          clear q4
          have HE := Lib.hid (show rangesB ⟨fu, fa, fd, fg, fdf, adv, ker, lig⟩ = false by simp [rangesB, headOk, Hq4.out])
          go_wp2
          go_ret
          exact ⟨by rw [HE.out]; rfl, HB0.out⟩
        · have Hq4 := Lib.hid q4
          clear q4
          obtain ⟨b1, b2⟩ := bq2
          obtain ⟨b3, b4⟩ := bq3
          by_cases hs : fa + fd < 1
          · have HS := Lib.hid (show decide (1 ≤ fa + fd) = false by simp; omega)
            have HE := Lib.hid (show rangesB ⟨fu, fa, fd, fg, fdf, adv, ker, lig⟩ = false by simp [rangesB, headOk, HS.out])
            go_wp2
            go_ret
            exact ⟨by rw [HE.out]; rfl, HB0.out⟩
          · have HS := Lib.hid (show decide (1 ≤ fa + fd) = true by simp; omega)
            go_wp2_with fail
            refine (within_any fdf 0 4096 _).mono ?_
            rintro e wc ⟨rfl, rfl⟩
            cases q5 : inB fdf 0 4096
            · have Hq5 := Lib.hid q5
              clear q5
              have HE := Lib.hid (show rangesB ⟨fu, fa, fd, fg, fdf, adv, ker, lig⟩ = false by simp [rangesB, headOk, Hq5.out])
              go_wp2
              go_ret
              exact ⟨by rw [HE.out]; rfl, HB0.out⟩
            · have Hq5 := Lib.hid q5
              clear q5
              have HH := Lib.hid (show headOk ⟨fu, fa, fd, fg, fdf, adv, ker, lig⟩ = true by simp [headOk, Hq1.out, Hq2.out, Hq3.out, Hq4.out, HS.out, Hq5.out])
              clear Hq1 Hq2 Hq3 Hq4 Hq5 HS
              go_wp2
              clear hs b1 b2 b3 b4
              generalize w.alloc (Obj.cells #[.int .i64 fu, .int .i64 fa, .int .i64 fd, .int .i64 fg, .int .i64 fdf, .slice A1 N1 c1, .slice A2 N2 c2, .slice A3 N3 c3] 38) = W at *
              go_loopw [48] (fun s wr => ∃ k : Nat, s = .int .i64 (k : Int) ∧ k ≤ N1 ∧ (adv.take k).all advOk = true ∧ Below w.heap.size w wr ∧ Blk wr w.heap.size 38 #[.int .i64 fu, .int .i64 fa, .int .i64 fd, .int .i64 fg, .int .i64 fdf, .slice A1 N1 c1, .slice A2 N2 c2, .slice A3 N3 c3]) (fun s _ => N1 - (intOf s).toNat)
              case atStart => exact ⟨0, rfl, by omega, by simp, HB0.out, HK0.out⟩
              case round =>
                obtain ⟨k, rfl, hk, ht, hbr, hkr⟩ := hrel
                have HT1 := Lib.hid ht
                have HB1 := Lib.hid hbr
                have HK1 := Lib.hid hkr
                have hH5 : wr.cell? ⟨w.heap.size, 5, none⟩ = some (.slice A1 N1 c1) := by rw [hkr.cell]; rfl
                have hH6 : wr.cell? ⟨w.heap.size, 6, none⟩ = some (.slice A2 N2 c2) := by rw [hkr.cell]; rfl
                have hH7 : wr.cell? ⟨w.heap.size, 7, none⟩ = some (.slice A3 N3 c3) := by rw [hkr.cell]; rfl
                clear ht hbr hkr
                by_cases hkn : k < N1
                · have hk0 : (k : Int) < (N1 : Int) := by omega
                  obtain ⟨x, b, off, hx, hA, hbl, hc⟩ := elem_at (cells := Adv.cells) (size := 3) (fun _ => rfl) (by omega) R1.out HB1.out k (by rw [← HN1.out]; exact hkn)
                  subst hA
                  obtain ⟨xf, xt, xw⟩ := x
                  have d0 : wr.cell? ⟨b, off + k * 3, none⟩ = some (.int .i32 xf) := hc 0 _ (by omega) rfl
                  have d1 : wr.cell? ⟨b, off + k * 3 + 1, none⟩ = some (.int .i32 xt) := hc 1 _ (by omega) rfl
                  have d2 : wr.cell? ⟨b, off + k * 3 + 2, none⟩ = some (.int .i64 xw) := hc 2 _ (by omega) rfl
                  have HX := Lib.hid hx
                  have HBN := Lib.hid (HB1.out.alloc HB1.out.size (Obj.cells #[.int .i32 xf, .int .i32 xt, .int .i64 xw] 54))
                  have HKN := Lib.hid (HK1.out.alloc (Obj.cells #[.int .i32 xf, .int .i32 xt, .int .i64 xw] 54))
                  clear hc hx
                  go_wp2_with fail
                  refine (is_any xf _).mono ?_
                  rintro e wc ⟨rfl, rfl⟩
                  cases q0 : inB xf 0 1114111
                  · have HE := Lib.hid (show rangesB ⟨fu, fa, fd, fg, fdf, adv, ker, lig⟩ = false by simp [rangesB, all_not (p := advOk) HX.out (by simp [advOk, q0])])
                    clear q0
                    go_wp2
                    go_ret
                    exact ⟨by rw [HE.out]; rfl, HBN.out⟩
                  · have Hq0 := Lib.hid q0
                    clear q0
                    go_wp2_with fail
                    refine (is_any xt _).mono ?_
                    rintro e wc ⟨rfl, rfl⟩
                    cases q1 : inB xt 0 1114111
                    · have HE := Lib.hid (show rangesB ⟨fu, fa, fd, fg, fdf, adv, ker, lig⟩ = false by simp [rangesB, all_not (p := advOk) HX.out (by simp [advOk, q1])])
                      clear q1
                      go_wp2
                      go_ret
                      exact ⟨by rw [HE.out]; rfl, HBN.out⟩
                    · have Hq1 := Lib.hid q1
                      clear q1
                      go_wp2_with fail
                      refine (within_any xw 0 4096 _).mono ?_
                      rintro e wc ⟨rfl, rfl⟩
                      cases q2 : inB xw 0 4096
                      · have HE := Lib.hid (show rangesB ⟨fu, fa, fd, fg, fdf, adv, ker, lig⟩ = false by simp [rangesB, all_not (p := advOk) HX.out (by simp [advOk, q2])])
                        clear q2
                        go_wp2
                        go_ret
                        exact ⟨by rw [HE.out]; rfl, HBN.out⟩
                      · have Hq2 := Lib.hid q2
                        clear q2
                        go_wp2
                        go_roundw
                        case rel => exact ⟨k + 1, by go_num, by omega, take_all HX.out (by simp [advOk, Hq0.out, Hq1.out, Hq2.out]) HT1.out, HBN.out, HKN.out⟩
                        case measure => simp [intOf]; omega
                · obtain rfl : N1 = k := by omega
                  have HA1 := Lib.hid (show adv.all advOk = true by have := HT1.out; rwa [List.take_of_length_le (by rw [← HN1.out]; exact Nat.le_refl _)] at this)
                  go_wp2
                  go_loopw [72] (fun s wr => ∃ k : Nat, s = .int .i64 (k : Int) ∧ k ≤ N2 ∧ (ker.take k).all kerOk = true ∧ Below w.heap.size w wr ∧ Blk wr w.heap.size 38 #[.int .i64 fu, .int .i64 fa, .int .i64 fd, .int .i64 fg, .int .i64 fdf, .slice A1 N1 c1, .slice A2 N2 c2, .slice A3 N3 c3]) (fun s _ => N2 - (intOf s).toNat)
                  case atStart => exact ⟨0, rfl, by omega, by simp, HB1.out, HK1.out⟩
                  case round =>
                    obtain ⟨k, rfl, hk, ht, hbr, hkr⟩ := hrel
                    have HT2 := Lib.hid ht
                    have HB2 := Lib.hid hbr
                    have HK2 := Lib.hid hkr
                    have hH5 : wr.cell? ⟨w.heap.size, 5, none⟩ = some (.slice A1 N1 c1) := by rw [hkr.cell]; rfl
                    have hH6 : wr.cell? ⟨w.heap.size, 6, none⟩ = some (.slice A2 N2 c2) := by rw [hkr.cell]; rfl
                    have hH7 : wr.cell? ⟨w.heap.size, 7, none⟩ = some (.slice A3 N3 c3) := by rw [hkr.cell]; rfl
                    clear ht hbr hkr
                    by_cases hkn : k < N2
                    · have hk0 : (k : Int) < (N2 : Int) := by omega
                      obtain ⟨x, b, off, hx, hA, hbl, hc⟩ := elem_at (cells := Ker.cells) (size := 3) (fun _ => rfl) (by omega) R2.out HB2.out k (by rw [← HN2.out]; exact hkn)
                      subst hA
                      obtain ⟨xf, xt, xw⟩ := x
                      have d0 : wr.cell? ⟨b, off + k * 3, none⟩ = some (.int .i32 xf) := hc 0 _ (by omega) rfl
                      have d1 : wr.cell? ⟨b, off + k * 3 + 1, none⟩ = some (.int .i32 xt) := hc 1 _ (by omega) rfl
                      have d2 : wr.cell? ⟨b, off + k * 3 + 2, none⟩ = some (.int .i64 xw) := hc 2 _ (by omega) rfl
                      have HX := Lib.hid hx
                      have HBN := Lib.hid (HB2.out.alloc HB2.out.size (Obj.cells #[.int .i32 xf, .int .i32 xt, .int .i64 xw] 48))
                      have HKN := Lib.hid (HK2.out.alloc (Obj.cells #[.int .i32 xf, .int .i32 xt, .int .i64 xw] 48))
                      clear hc hx
                      go_wp2_with fail
                      refine (is_any xf _).mono ?_
                      rintro e wc ⟨rfl, rfl⟩
                      cases q0 : inB xf 0 1114111
                      · have HE := Lib.hid (show rangesB ⟨fu, fa, fd, fg, fdf, adv, ker, lig⟩ = false by simp [rangesB, all_not (p := kerOk) HX.out (by simp [kerOk, q0])])
                        clear q0
                        go_wp2
                        go_ret
                        exact ⟨by rw [HE.out]; rfl, HBN.out⟩
                      · have Hq0 := Lib.hid q0
                        clear q0
                        go_wp2_with fail
                        refine (is_any xt _).mono ?_
                        rintro e wc ⟨rfl, rfl⟩
                        cases q1 : inB xt 0 1114111
                        · have HE := Lib.hid (show rangesB ⟨fu, fa, fd, fg, fdf, adv, ker, lig⟩ = false by simp [rangesB, all_not (p := kerOk) HX.out (by simp [kerOk, q1])])
                          clear q1
                          go_wp2
                          go_ret
                          exact ⟨by rw [HE.out]; rfl, HBN.out⟩
                        · have Hq1 := Lib.hid q1
                          clear q1
                          go_wp2_with fail
                          refine (within_any xw (-1000) 1000 _).mono ?_
                          rintro e wc ⟨rfl, rfl⟩
                          cases q2 : inB xw (-1000) 1000
                          · have HE := Lib.hid (show rangesB ⟨fu, fa, fd, fg, fdf, adv, ker, lig⟩ = false by simp [rangesB, all_not (p := kerOk) HX.out (by simp [kerOk, q2])])
                            clear q2
                            go_wp2
                            go_ret
                            exact ⟨by rw [HE.out]; rfl, HBN.out⟩
                          · have Hq2 := Lib.hid q2
                            clear q2
                            go_wp2
                            go_roundw
                            case rel => exact ⟨k + 1, by go_num, by omega, take_all HX.out (by simp [kerOk, Hq0.out, Hq1.out, Hq2.out]) HT2.out, HBN.out, HKN.out⟩
                            case measure => simp [intOf]; omega
                    · obtain rfl : N2 = k := by omega
                      have HA2 := Lib.hid (show ker.all kerOk = true by have := HT2.out; rwa [List.take_of_length_le (by rw [← HN2.out]; exact Nat.le_refl _)] at this)
                      go_wp2
                      go_loopw [96] (fun s wr => ∃ k : Nat, s = .int .i64 (k : Int) ∧ k ≤ N3 ∧ (lig.take k).all ligOk = true ∧ Below w.heap.size w wr ∧ Blk wr w.heap.size 38 #[.int .i64 fu, .int .i64 fa, .int .i64 fd, .int .i64 fg, .int .i64 fdf, .slice A1 N1 c1, .slice A2 N2 c2, .slice A3 N3 c3]) (fun s _ => N3 - (intOf s).toNat)
                      case atStart => exact ⟨0, rfl, by omega, by simp, HB2.out, HK2.out⟩
                      case round =>
                        obtain ⟨k, rfl, hk, ht, hbr, hkr⟩ := hrel
                        have HT3 := Lib.hid ht
                        have HB3 := Lib.hid hbr
                        have HK3 := Lib.hid hkr
                        have hH5 : wr.cell? ⟨w.heap.size, 5, none⟩ = some (.slice A1 N1 c1) := by rw [hkr.cell]; rfl
                        have hH6 : wr.cell? ⟨w.heap.size, 6, none⟩ = some (.slice A2 N2 c2) := by rw [hkr.cell]; rfl
                        have hH7 : wr.cell? ⟨w.heap.size, 7, none⟩ = some (.slice A3 N3 c3) := by rw [hkr.cell]; rfl
                        clear ht hbr hkr
                        by_cases hkn : k < N3
                        · have hk0 : (k : Int) < (N3 : Int) := by omega
                          obtain ⟨x, b, off, hx, hA, hbl, hc⟩ := elem_at (cells := Lig.cells) (size := 4) (fun _ => rfl) (by omega) R3.out HB3.out k (by rw [← HN3.out]; exact hkn)
                          subst hA
                          obtain ⟨xf, xt, xg, xw⟩ := x
                          have d0 : wr.cell? ⟨b, off + k * 4, none⟩ = some (.int .i32 xf) := hc 0 _ (by omega) rfl
                          have d1 : wr.cell? ⟨b, off + k * 4 + 1, none⟩ = some (.int .i32 xt) := hc 1 _ (by omega) rfl
                          have d2 : wr.cell? ⟨b, off + k * 4 + 2, none⟩ = some (.int .i64 xg) := hc 2 _ (by omega) rfl
                          have d3 : wr.cell? ⟨b, off + k * 4 + 3, none⟩ = some (.int .i64 xw) := hc 3 _ (by omega) rfl
                          have HX := Lib.hid hx
                          have HBN := Lib.hid (HB3.out.alloc HB3.out.size (Obj.cells #[.int .i32 xf, .int .i32 xt, .int .i64 xg, .int .i64 xw] 50))
                          have HKN := Lib.hid (HK3.out.alloc (Obj.cells #[.int .i32 xf, .int .i32 xt, .int .i64 xg, .int .i64 xw] 50))
                          clear hc hx
                          go_wp2_with fail
                          refine (is_any xf _).mono ?_
                          rintro e wc ⟨rfl, rfl⟩
                          cases q0 : inB xf 0 1114111
                          · have HE := Lib.hid (show rangesB ⟨fu, fa, fd, fg, fdf, adv, ker, lig⟩ = false by simp [rangesB, all_not (p := ligOk) HX.out (by simp [ligOk, q0])])
                            clear q0
                            go_wp2
                            go_ret
                            exact ⟨by rw [HE.out]; rfl, HBN.out⟩
                          · have Hq0 := Lib.hid q0
                            clear q0
                            go_wp2_with fail
                            refine (is_any xt _).mono ?_
                            rintro e wc ⟨rfl, rfl⟩
                            cases q1 : inB xt 0 1114111
                            · have HE := Lib.hid (show rangesB ⟨fu, fa, fd, fg, fdf, adv, ker, lig⟩ = false by simp [rangesB, all_not (p := ligOk) HX.out (by simp [ligOk, q1])])
                              clear q1
                              go_wp2
                              go_ret
                              exact ⟨by rw [HE.out]; rfl, HBN.out⟩
                            · have Hq1 := Lib.hid q1
                              clear q1
                              go_wp2_with fail
                              refine (within_any xg 1114112 2097151 _).mono ?_
                              rintro e wc ⟨rfl, rfl⟩
                              cases q2 : inB xg 1114112 2097151
                              · have HE := Lib.hid (show rangesB ⟨fu, fa, fd, fg, fdf, adv, ker, lig⟩ = false by simp [rangesB, all_not (p := ligOk) HX.out (by simp [ligOk, q2])])
                                clear q2
                                go_wp2
                                go_ret
                                exact ⟨by rw [HE.out]; rfl, HBN.out⟩
                              · have Hq2 := Lib.hid q2
                                clear q2
                                go_wp2_with fail
                                refine (within_any xw 0 4096 _).mono ?_
                                rintro e wc ⟨rfl, rfl⟩
                                cases q3 : inB xw 0 4096
                                · have HE := Lib.hid (show rangesB ⟨fu, fa, fd, fg, fdf, adv, ker, lig⟩ = false by simp [rangesB, all_not (p := ligOk) HX.out (by simp [ligOk, q3])])
                                  clear q3
                                  go_wp2
                                  go_ret
                                  exact ⟨by rw [HE.out]; rfl, HBN.out⟩
                                · have Hq3 := Lib.hid q3
                                  clear q3
                                  go_wp2
                                  go_roundw
                                  case rel => exact ⟨k + 1, by go_num, by omega, take_all HX.out (by simp [ligOk, Hq0.out, Hq1.out, Hq2.out, Hq3.out]) HT3.out, HBN.out, HKN.out⟩
                                  case measure => simp [intOf]; omega
                        · obtain rfl : N3 = k := by omega
                          have HA3 := Lib.hid (show lig.all ligOk = true by have := HT3.out; rwa [List.take_of_length_le (by rw [← HN3.out]; exact Nat.le_refl _)] at this)
                          go_wp2
                          go_ret
                          exact ⟨by rw [show rangesB ⟨fu, fa, fd, fg, fdf, adv, ker, lig⟩ = true by simp [rangesB, HH.out, HA1.out, HA2.out, HA3.out]]; rfl, HB3.out⟩
end Go.Proofs.Ytagokefbbdlpcaa
