/- ordered of the font layer walked. -/
import Derived.Test.YtagokefbbdlpcaaF4
import Derived.Deep.RegionHeld3
import Derived.Outline
namespace Go.Proofs.Ytagokefbbdlpcaa
set_option linter.unusedVariables false
set_option linter.unusedSimpArgs false
open Go.RowKit

theorem advOrd_drop (l : List Adv) (last : Int) (k : Nat) (x : Adv) (h : l[k]? = some x) : advOrd last (l.drop k) = (decide (last < x.f ∧ x.f ≤ x.t) && advOrd x.t (l.drop (k + 1))) := by
  obtain ⟨hk, hp⟩ := List.getElem?_eq_some_iff.1 h
  rw [List.drop_eq_getElem_cons hk, hp, advOrd]

set_option maxRecDepth 100000 in
set_option maxHeartbeats 4000000 in
theorem ordered_any (f : Fnt) (A1 : Option Addr) (c1 : Nat) (A2 : Option Addr) (c2 : Nat) (A3 : Option Addr) (c3 : Nat) (w : World) (hf : FM w f A1 c1 A2 c2 A3 c3) (h1 : f.adv.length ≤ 100) (h2 : f.ker.length ≤ 100) (h3 : f.lig.length ≤ 100) :
    Calls Try.prog 58 #[f.val A1 c1 A2 c2 A3 c3] w (Blb (ordB f) w) := by
  obtain ⟨fu, fa, fd, fg, fdf, adv, ker, lig⟩ := f
  obtain ⟨r1, r2, r3, _, _, _⟩ := hf
  dsimp only at r1 r2 r3 h1 h2 h3
  unfold Fnt.val
  dsimp only
  have R1 := Lib.hid r1
  have R2 := Lib.hid r2
  have R3 := Lib.hid r3
  obtain ⟨N1, hN1⟩ : ∃ N, N = adv.length := ⟨_, rfl⟩
  obtain ⟨N2, hN2⟩ : ∃ N, N = ker.length := ⟨_, rfl⟩
  obtain ⟨N3, hN3⟩ : ∃ N, N = lig.length := ⟨_, rfl⟩
  rw [← hN1] at h1 ⊢
  rw [← hN2] at h2 ⊢
  rw [← hN3] at h3 ⊢
  have HN1 := Lib.hid hN1
  have HN2 := Lib.hid hN2
  have HN3 := Lib.hid hN3
  clear r1 r2 r3 hN1 hN2 hN3
  have HB0 := Lib.hid ((Below.refl w.heap.size w).alloc (Nat.le_refl _) (Obj.cells #[.int .i64 fu, .int .i64 fa, .int .i64 fd, .int .i64 fg, .int .i64 fdf, .slice A1 N1 c1, .slice A2 N2 c2, .slice A3 N3 c3] 38))
  have HK0 := Lib.hid (Blk.new w 38 #[.int .i64 fu, .int .i64 fa, .int .i64 fd, .int .i64 fg, .int .i64 fdf, .slice A1 N1 c1, .slice A2 N2 c2, .slice A3 N3 c3])
  have hst : advOrd (-1) adv = advOrd (-1) (adv.drop 0) := rfl
  have HST := Lib.hid hst
  clear hst
  go_enter Try.func58, Try.ntmps58
  go_wp2
  generalize w.alloc (Obj.cells #[.int .i64 fu, .int .i64 fa, .int .i64 fd, .int .i64 fg, .int .i64 fdf, .slice A1 N1 c1, .slice A2 N2 c2, .slice A3 N3 c3] 38) = W at *
  go_loopw [3, 11] (fun s3 s wr => ∃ (k : Nat) (last : Int), s3 = .int .i32 last ∧ s = .int .i64 (k : Int) ∧ k ≤ N1 ∧ advOrd (-1) adv = advOrd last (adv.drop k) ∧ Below w.heap.size w wr ∧ Blk wr w.heap.size 38 #[.int .i64 fu, .int .i64 fa, .int .i64 fd, .int .i64 fg, .int .i64 fdf, .slice A1 N1 c1, .slice A2 N2 c2, .slice A3 N3 c3]) (fun _ s _ => N1 - (intOf s).toNat)
  case atStart => exact ⟨0, -1, rfl, rfl, by omega, HST.out, HB0.out, HK0.out⟩
  case round =>
    obtain ⟨k, last, rfl, rfl, hk, ho, hbr, hkr⟩ := hrel
    have HO := Lib.hid ho
    have HB1 := Lib.hid hbr
    have HK1 := Lib.hid hkr
    have hH5 : wr.cell? ⟨w.heap.size, 5, none⟩ = some (.slice A1 N1 c1) := by rw [hkr.cell]; rfl
    have hH6 : wr.cell? ⟨w.heap.size, 6, none⟩ = some (.slice A2 N2 c2) := by rw [hkr.cell]; rfl
    have hH7 : wr.cell? ⟨w.heap.size, 7, none⟩ = some (.slice A3 N3 c3) := by rw [hkr.cell]; rfl
    clear ho hbr hkr
    by_cases hkn : k < N1
    · have hk0 : (k : Int) < (N1 : Int) := by omega
      obtain ⟨x, b, off, hx, hA, hbl, hc⟩ := elem_at (cells := Adv.cells) (size := 3) (fun _ => rfl) (by omega) R1.out HB1.out k (by rw [← HN1.out]; exact hkn)
      subst hA
      obtain ⟨xf, xt, xw⟩ := x
      have d0 : wr.cell? ⟨b, off + k * 3, none⟩ = some (.int .i32 xf) := hc 0 _ (by omega) rfl
      have d1 : wr.cell? ⟨b, off + k * 3 + 1, none⟩ = some (.int .i32 xt) := hc 1 _ (by omega) rfl
      have d2 : wr.cell? ⟨b, off + k * 3 + 2, none⟩ = some (.int .i64 xw) := hc 2 _ (by omega) rfl
      have HD := Lib.hid (advOrd_drop adv last k _ hx)
      have HBN := Lib.hid (HB1.out.alloc HB1.out.size (Obj.cells #[.int .i32 xf, .int .i32 xt, .int .i64 xw] 54))
      have HKN := Lib.hid (HK1.out.alloc (Obj.cells #[.int .i32 xf, .int .i32 xt, .int .i64 xw] 54))
      clear hc hx
      by_cases t1 : xf ≤ last
      · have HE := Lib.hid (show ordB ⟨fu, fa, fd, fg, fdf, adv, ker, lig⟩ = false by simp only [ordB]; rw [HO.out, HD.out, decide_eq_false (by show ¬ (last < xf ∧ xf ≤ xt); omega)]; rfl)
        go_wp2
        go_ret
        exact ⟨by rw [HE.out]; rfl, HBN.out⟩
      · by_cases t2 : xt < xf
        · have HE := Lib.hid (show ordB ⟨fu, fa, fd, fg, fdf, adv, ker, lig⟩ = false by simp only [ordB]; rw [HO.out, HD.out, decide_eq_false (by show ¬ (last < xf ∧ xf ≤ xt); omega)]; rfl)
          go_wp2
          go_ret
          exact ⟨by rw [HE.out]; rfl, HBN.out⟩
        · have HO2 := Lib.hid (show advOrd (-1) adv = advOrd xt (adv.drop (k + 1)) by rw [HO.out, HD.out, decide_eq_true (by show last < xf ∧ xf ≤ xt; omega)]; rfl)
          go_wp2
          go_roundw
          case rel => exact ⟨k + 1, xt, rfl, by go_num, by omega, HO2.out, HBN.out, HKN.out⟩
          case measure => simp [intOf]; omega
    · obtain rfl : N1 = k := by omega
      have HA1 := Lib.hid (show advOrd (-1) adv = true by rw [HO.out, List.drop_of_length_le (by rw [← HN1.out]; exact Nat.le_refl _)]; rfl)
      go_wp2
      go_loopw [6] (fun s wr => ∃ k : Nat, s = .int .i64 ((k : Int) + 1) ∧ (k = 0 ∨ k + 1 ≤ N2) ∧ (∀ j x y, j < k → ker[j]? = some x → ker[j + 1]? = some y → kerLt x y = true) ∧ Below w.heap.size w wr ∧ Blk wr w.heap.size 38 #[.int .i64 fu, .int .i64 fa, .int .i64 fd, .int .i64 fg, .int .i64 fdf, .slice A1 N1 c1, .slice A2 N2 c2, .slice A3 N3 c3]) (fun s _ => N2 - (intOf s).toNat)
      case atStart => exact ⟨0, rfl, .inl rfl, fun j x y hj => absurd hj (Nat.not_lt_zero _), HB1.out, HK1.out⟩
      case round =>
        obtain ⟨k, rfl, hk, ho, hbr, hkr⟩ := hrel
        have HO2 := Lib.hid ho
        have HB2 := Lib.hid hbr
        have HK2 := Lib.hid hkr
        have hH6 : wr.cell? ⟨w.heap.size, 6, none⟩ = some (.slice A2 N2 c2) := by rw [hkr.cell]; rfl
        have hH7 : wr.cell? ⟨w.heap.size, 7, none⟩ = some (.slice A3 N3 c3) := by rw [hkr.cell]; rfl
        have hHb : w.heap.size < wr.heap.size := HK2.out.lt
        clear ho hbr hkr
        by_cases hkn : k + 1 < N2
        · have hk0 : (k : Int) + 1 < (N2 : Int) := by omega
          obtain ⟨x, b, off, hx, hA, hbl, hc⟩ := elem_at (cells := Ker.cells) (size := 3) (fun _ => rfl) (by omega) R2.out HB2.out k (by rw [← HN2.out]; omega)
          subst hA
          obtain ⟨y, b', off', hy, hA, _, hc2⟩ := elem_at (cells := Ker.cells) (size := 3) (fun _ => rfl) (by omega) R2.out HB2.out (k + 1) (by rw [← HN2.out]; exact hkn)
          injection hA with hA
          injection hA with hb' hoff _
          subst hb' hoff
          obtain ⟨xa, xb, xd⟩ := x
          obtain ⟨ya, yb, yd⟩ := y
          have d0 : wr.cell? ⟨b, off + k * 3, none⟩ = some (.int .i32 xa) := hc 0 _ (by omega) rfl
          have d1 : wr.cell? ⟨b, off + k * 3 + 1, none⟩ = some (.int .i32 xb) := hc 1 _ (by omega) rfl
          have e0 : wr.cell? ⟨b, off + (k + 1) * 3, none⟩ = some (.int .i32 ya) := hc2 0 _ (by omega) rfl
          have e1 : wr.cell? ⟨b, off + (k + 1) * 3 + 1, none⟩ = some (.int .i32 yb) := hc2 1 _ (by omega) rfl
          have HX := Lib.hid hx
          have HY := Lib.hid hy
          have hbw : b < wr.heap.size := Nat.lt_of_lt_of_le hbl HB2.out.size
          have hk1 : (0 : Int) ≤ (k : Int) + 1 := by omega
          have hk2 : (k : Int) < (N2 : Int) := by omega
          have hk3 : IntKind.i64.wrap (k : Int) = (k : Int) := IntWalk.i64_in _ (by omega)
          have hk4 : (0 : Int) ≤ (k : Int) := by omega
          clear hc hc2 hx hy
          by_cases hlt : ltB xa xb ya yb = true
          · have hd : decide (0 ≤ cmpP xa xb ya yb) = false := by have := (cmpP_lt xa xb ya yb).2 hlt; simp; omega
            have HLT := Lib.hid hlt
            clear hlt
            go_wp2
            go_region_held3 (fun w' => w'.cell? ⟨w.heap.size, 6, none⟩ = some (.slice (some ⟨b, off, none⟩) N2 c2) ∧ w'.cell? ⟨b, off + k * 3, none⟩ = some (.int .i32 xa) ∧ w'.cell? ⟨b, off + k * 3 + 1, none⟩ = some (.int .i32 xb) ∧ w'.cell? ⟨b, off + (k + 1) * 3, none⟩ = some (.int .i32 ya) ∧ w'.cell? ⟨b, off + (k + 1) * 3 + 1, none⟩ = some (.int .i32 yb)) (first | with_reducible assumption | go_keep)
              (first
                | (go_at_call 68; refine (pair_any xa xb ya yb _).mono ?_; rintro e w1 ⟨rfl, hb1⟩
                   have HBW := Lib.hid (show Below wr.heap.size wr w1 from (Below.refl _ _).drew.trans hb1)
                   have hS : w1.cell? ⟨w.heap.size, 6, none⟩ = some (.slice (some ⟨b, off, none⟩) N2 c2) ∧ w1.cell? ⟨b, off + k * 3, none⟩ = some (.int .i32 xa) ∧ w1.cell? ⟨b, off + k * 3 + 1, none⟩ = some (.int .i32 xb) ∧ w1.cell? ⟨b, off + (k + 1) * 3, none⟩ = some (.int .i32 ya) ∧ w1.cell? ⟨b, off + (k + 1) * 3 + 1, none⟩ = some (.int .i32 yb) := ⟨(HBW.out.cell (p := ⟨w.heap.size, 6, none⟩) hHb).trans hH6, (HBW.out.cell (p := ⟨b, off + k * 3, none⟩) hbw).trans d0, (HBW.out.cell (p := ⟨b, off + k * 3 + 1, none⟩) hbw).trans d1, (HBW.out.cell (p := ⟨b, off + (k + 1) * 3, none⟩) hbw).trans e0, (HBW.out.cell (p := ⟨b, off + (k + 1) * 3 + 1, none⟩) hbw).trans e1⟩
                   clear hb1)
                | fail)
            clear hk3
            go_wp2
            go_roundw
            case rel =>
              refine ⟨k + 1, by go_num, .inr (by omega), fun j u v hj hu hv => ?_, HB2.out.trans (HBW.out.mono HB2.out.size), HK2.out.below HBW.out hHb⟩
              rcases Nat.lt_or_ge j k with h | h
              · exact HO2.out j u v h hu hv
              · obtain rfl : j = k := by omega
                rw [HX.out] at hu; rw [HY.out] at hv
                injection hu with hu; injection hv with hv
                subst hu hv
                exact HLT.out
            case measure => simp [intOf]; omega
          · have hlt2 : ltB xa xb ya yb = false := by simpa using hlt
            have hd : decide (0 ≤ cmpP xa xb ya yb) = true := by have := mt (cmpP_lt xa xb ya yb).1 hlt; simp; omega
            have HE := Lib.hid (show ordB ⟨fu, fa, fd, fg, fdf, adv, ker, lig⟩ = false by simp [ordB, kerOrd, pw_not kerLt ker k _ _ HX.out HY.out hlt2])
            clear hlt hlt2
            go_wp2
            go_region_held3 (fun w' => w'.cell? ⟨w.heap.size, 6, none⟩ = some (.slice (some ⟨b, off, none⟩) N2 c2) ∧ w'.cell? ⟨b, off + k * 3, none⟩ = some (.int .i32 xa) ∧ w'.cell? ⟨b, off + k * 3 + 1, none⟩ = some (.int .i32 xb) ∧ w'.cell? ⟨b, off + (k + 1) * 3, none⟩ = some (.int .i32 ya) ∧ w'.cell? ⟨b, off + (k + 1) * 3 + 1, none⟩ = some (.int .i32 yb)) (first | with_reducible assumption | go_keep)
              (first
                | (go_at_call 68; refine (pair_any xa xb ya yb _).mono ?_; rintro e w1 ⟨rfl, hb1⟩
                   have HBW := Lib.hid (show Below wr.heap.size wr w1 from (Below.refl _ _).drew.trans hb1)
                   have hS : w1.cell? ⟨w.heap.size, 6, none⟩ = some (.slice (some ⟨b, off, none⟩) N2 c2) ∧ w1.cell? ⟨b, off + k * 3, none⟩ = some (.int .i32 xa) ∧ w1.cell? ⟨b, off + k * 3 + 1, none⟩ = some (.int .i32 xb) ∧ w1.cell? ⟨b, off + (k + 1) * 3, none⟩ = some (.int .i32 ya) ∧ w1.cell? ⟨b, off + (k + 1) * 3 + 1, none⟩ = some (.int .i32 yb) := ⟨(HBW.out.cell (p := ⟨w.heap.size, 6, none⟩) hHb).trans hH6, (HBW.out.cell (p := ⟨b, off + k * 3, none⟩) hbw).trans d0, (HBW.out.cell (p := ⟨b, off + k * 3 + 1, none⟩) hbw).trans d1, (HBW.out.cell (p := ⟨b, off + (k + 1) * 3, none⟩) hbw).trans e0, (HBW.out.cell (p := ⟨b, off + (k + 1) * 3 + 1, none⟩) hbw).trans e1⟩
                   clear hb1)
                | fail)
            clear hk3
            go_wp2
            go_ret
            exact ⟨by rw [HE.out]; rfl, HB2.out.trans (HBW.out.mono HB2.out.size)⟩
        · have HA2 := Lib.hid (show kerOrd ker = true from pw_of _ _ (fun j x y hx hy => HO2.out j x y (by have := (List.getElem?_eq_some_iff.1 hy).1; have := HN2.out; omega) hx hy))
          have hkn2 : (N2 : Int) ≤ (k : Int) + 1 := by omega
          go_wp2
          go_loopw [7] (fun s wr => ∃ k : Nat, s = .int .i64 ((k : Int) + 1) ∧ (k = 0 ∨ k + 1 ≤ N3) ∧ (∀ j x y, j < k → lig[j]? = some x → lig[j + 1]? = some y → ligLt x y = true) ∧ Below w.heap.size w wr ∧ Blk wr w.heap.size 38 #[.int .i64 fu, .int .i64 fa, .int .i64 fd, .int .i64 fg, .int .i64 fdf, .slice A1 N1 c1, .slice A2 N2 c2, .slice A3 N3 c3]) (fun s _ => N3 - (intOf s).toNat)
          case atStart => exact ⟨0, rfl, .inl rfl, fun j x y hj => absurd hj (Nat.not_lt_zero _), HB2.out, HK2.out⟩
          case round =>
            obtain ⟨k, rfl, hk, ho, hbr, hkr⟩ := hrel
            have HO3 := Lib.hid ho
            have HB3 := Lib.hid hbr
            have HK3 := Lib.hid hkr
            have hH6 : wr.cell? ⟨w.heap.size, 6, none⟩ = some (.slice A2 N2 c2) := by rw [hkr.cell]; rfl
            have hH7 : wr.cell? ⟨w.heap.size, 7, none⟩ = some (.slice A3 N3 c3) := by rw [hkr.cell]; rfl
            have hHb : w.heap.size < wr.heap.size := HK3.out.lt
            clear ho hbr hkr
            by_cases hkn : k + 1 < N3
            · have hk0 : (k : Int) + 1 < (N3 : Int) := by omega
              obtain ⟨x, b, off, hx, hA, hbl, hc⟩ := elem_at (cells := Lig.cells) (size := 4) (fun _ => rfl) (by omega) R3.out HB3.out k (by rw [← HN3.out]; omega)
              subst hA
              obtain ⟨y, b', off', hy, hA, _, hc2⟩ := elem_at (cells := Lig.cells) (size := 4) (fun _ => rfl) (by omega) R3.out HB3.out (k + 1) (by rw [← HN3.out]; exact hkn)
              injection hA with hA
              injection hA with hb' hoff _
              subst hb' hoff
              obtain ⟨xa, xb, xg, xd⟩ := x
              obtain ⟨ya, yb, yg, yd⟩ := y
              have d0 : wr.cell? ⟨b, off + k * 4, none⟩ = some (.int .i32 xa) := hc 0 _ (by omega) rfl
              have d1 : wr.cell? ⟨b, off + k * 4 + 1, none⟩ = some (.int .i32 xb) := hc 1 _ (by omega) rfl
              have e0 : wr.cell? ⟨b, off + (k + 1) * 4, none⟩ = some (.int .i32 ya) := hc2 0 _ (by omega) rfl
              have e1 : wr.cell? ⟨b, off + (k + 1) * 4 + 1, none⟩ = some (.int .i32 yb) := hc2 1 _ (by omega) rfl
              have HX := Lib.hid hx
              have HY := Lib.hid hy
              have hbw : b < wr.heap.size := Nat.lt_of_lt_of_le hbl HB3.out.size
              have hk1 : (0 : Int) ≤ (k : Int) + 1 := by omega
              have hk2 : (k : Int) < (N3 : Int) := by omega
              have hk3 : IntKind.i64.wrap (k : Int) = (k : Int) := IntWalk.i64_in _ (by omega)
              have hk4 : (0 : Int) ≤ (k : Int) := by omega
              clear hc hc2 hx hy
              by_cases hlt : ltB xa xb ya yb = true
              · have hd : decide (0 ≤ cmpP xa xb ya yb) = false := by have := (cmpP_lt xa xb ya yb).2 hlt; simp; omega
                have HLT := Lib.hid hlt
                clear hlt
                go_wp2
                go_region_held3 (fun w' => w'.cell? ⟨w.heap.size, 7, none⟩ = some (.slice (some ⟨b, off, none⟩) N3 c3) ∧ w'.cell? ⟨b, off + k * 4, none⟩ = some (.int .i32 xa) ∧ w'.cell? ⟨b, off + k * 4 + 1, none⟩ = some (.int .i32 xb) ∧ w'.cell? ⟨b, off + (k + 1) * 4, none⟩ = some (.int .i32 ya) ∧ w'.cell? ⟨b, off + (k + 1) * 4 + 1, none⟩ = some (.int .i32 yb)) (first | with_reducible assumption | go_keep)
                  (first
                    | (go_at_call 68; refine (pair_any xa xb ya yb _).mono ?_; rintro e w1 ⟨rfl, hb1⟩
                       have HBW := Lib.hid (show Below wr.heap.size wr w1 from (Below.refl _ _).drew.trans hb1)
                       have hS : w1.cell? ⟨w.heap.size, 7, none⟩ = some (.slice (some ⟨b, off, none⟩) N3 c3) ∧ w1.cell? ⟨b, off + k * 4, none⟩ = some (.int .i32 xa) ∧ w1.cell? ⟨b, off + k * 4 + 1, none⟩ = some (.int .i32 xb) ∧ w1.cell? ⟨b, off + (k + 1) * 4, none⟩ = some (.int .i32 ya) ∧ w1.cell? ⟨b, off + (k + 1) * 4 + 1, none⟩ = some (.int .i32 yb) := ⟨(HBW.out.cell (p := ⟨w.heap.size, 7, none⟩) hHb).trans hH7, (HBW.out.cell (p := ⟨b, off + k * 4, none⟩) hbw).trans d0, (HBW.out.cell (p := ⟨b, off + k * 4 + 1, none⟩) hbw).trans d1, (HBW.out.cell (p := ⟨b, off + (k + 1) * 4, none⟩) hbw).trans e0, (HBW.out.cell (p := ⟨b, off + (k + 1) * 4 + 1, none⟩) hbw).trans e1⟩
                       clear hb1)
                    | fail)
                clear hk3
                go_wp2
                go_roundw
                case rel =>
                  refine ⟨k + 1, by go_num, .inr (by omega), fun j u v hj hu hv => ?_, HB3.out.trans (HBW.out.mono HB3.out.size), HK3.out.below HBW.out hHb⟩
                  rcases Nat.lt_or_ge j k with h | h
                  · exact HO3.out j u v h hu hv
                  · obtain rfl : j = k := by omega
                    rw [HX.out] at hu; rw [HY.out] at hv
                    injection hu with hu; injection hv with hv
                    subst hu hv
                    exact HLT.out
                case measure => simp [intOf]; omega
              · have hlt2 : ltB xa xb ya yb = false := by simpa using hlt
                have hd : decide (0 ≤ cmpP xa xb ya yb) = true := by have := mt (cmpP_lt xa xb ya yb).1 hlt; simp; omega
                have HE := Lib.hid (show ordB ⟨fu, fa, fd, fg, fdf, adv, ker, lig⟩ = false by simp [ordB, ligOrd, pw_not ligLt lig k _ _ HX.out HY.out hlt2])
                clear hlt hlt2
                go_wp2
                go_region_held3 (fun w' => w'.cell? ⟨w.heap.size, 7, none⟩ = some (.slice (some ⟨b, off, none⟩) N3 c3) ∧ w'.cell? ⟨b, off + k * 4, none⟩ = some (.int .i32 xa) ∧ w'.cell? ⟨b, off + k * 4 + 1, none⟩ = some (.int .i32 xb) ∧ w'.cell? ⟨b, off + (k + 1) * 4, none⟩ = some (.int .i32 ya) ∧ w'.cell? ⟨b, off + (k + 1) * 4 + 1, none⟩ = some (.int .i32 yb)) (first | with_reducible assumption | go_keep)
                  (first
                    | (go_at_call 68; refine (pair_any xa xb ya yb _).mono ?_; rintro e w1 ⟨rfl, hb1⟩
                       have HBW := Lib.hid (show Below wr.heap.size wr w1 from (Below.refl _ _).drew.trans hb1)
                       have hS : w1.cell? ⟨w.heap.size, 7, none⟩ = some (.slice (some ⟨b, off, none⟩) N3 c3) ∧ w1.cell? ⟨b, off + k * 4, none⟩ = some (.int .i32 xa) ∧ w1.cell? ⟨b, off + k * 4 + 1, none⟩ = some (.int .i32 xb) ∧ w1.cell? ⟨b, off + (k + 1) * 4, none⟩ = some (.int .i32 ya) ∧ w1.cell? ⟨b, off + (k + 1) * 4 + 1, none⟩ = some (.int .i32 yb) := ⟨(HBW.out.cell (p := ⟨w.heap.size, 7, none⟩) hHb).trans hH7, (HBW.out.cell (p := ⟨b, off + k * 4, none⟩) hbw).trans d0, (HBW.out.cell (p := ⟨b, off + k * 4 + 1, none⟩) hbw).trans d1, (HBW.out.cell (p := ⟨b, off + (k + 1) * 4, none⟩) hbw).trans e0, (HBW.out.cell (p := ⟨b, off + (k + 1) * 4 + 1, none⟩) hbw).trans e1⟩
                       clear hb1)
                    | fail)
                clear hk3
                go_wp2
                go_ret
                exact ⟨by rw [HE.out]; rfl, HB3.out.trans (HBW.out.mono HB3.out.size)⟩
            · have HA3 := Lib.hid (show ligOrd lig = true from pw_of _ _ (fun j x y hx hy => HO3.out j x y (by have := (List.getElem?_eq_some_iff.1 hy).1; have := HN3.out; omega) hx hy))
              have hkn2 : (N3 : Int) ≤ (k : Int) + 1 := by omega
              go_wp2
              go_ret
              exact ⟨by rw [show ordB ⟨fu, fa, fd, fg, fdf, adv, ker, lig⟩ = true by simp [ordB, HA1.out, HA2.out, HA3.out]]; rfl, HB3.out⟩
end Go.Proofs.Ytagokefbbdlpcaa
