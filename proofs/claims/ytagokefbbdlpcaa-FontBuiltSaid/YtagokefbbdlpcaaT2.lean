/- FontBuilt walked. -/
import Derived.Test.YtagokefbbdlpcaaT1
import Derived.Test.YtagokefbbdlpcaaS1
import Derived.Deep.CutBlock
namespace Go.Proofs.Ytagokefbbdlpcaa
set_option linter.unusedVariables false
set_option linter.unusedSimpArgs false
open Go.RowKit

set_option maxRecDepth 100000 in
set_option maxHeartbeats 8000000 in
theorem built_any : LawAny 8 := by
  intro A n c zs w hnc hc hr hz
  have HR := Lib.hid hr
  have HZ := Lib.hid hz
  clear hr hz
  obtain ⟨i1, hi1, hz1, hy1, hx1⟩ := info_parts adv_info
  obtain ⟨i2, hi2, hz2, hy2, hx2⟩ := info_parts ker_info
  go_enter Try.func8, Try.ntmps8
  go_wp2_with fail
  refine (new_any w.heap.size A n c zs _ (Nat.le_refl _) hnc hc HR.out HZ.out).mono ?_
  rintro e w1 ⟨g, rfl, hg0, hs1, hb1⟩
  have hgl1 := hs1.lt
  have HB1 := Lib.hid hb1
  clear hb1
  go_wp2_with fail
  refine (font_any g w.heap.size _ hs1).mono ?_
  rintro e w2 ⟨f, v1, v2, v3, rfl, hv, ho1, ho2, ho3, hs2, hg2⟩
  have hlt2 : w1.heap.size ≤ w2.heap.size := hg2.size
  have HB2 := Lib.hid (HB1.out.grown hg2 HB1.out.size (fun k hk => by cases hk; exact hg0))
  obtain ⟨A1, c1, rfl, m1⟩ := own_sl ho1
  obtain ⟨A2, c2, rfl, m2⟩ := own_sl ho2
  obtain ⟨A3, c3, rfl, m3⟩ := own_sl ho3
  have hf3 : FB w w1.heap.size g w2.heap.size f A1 c1 A2 c2 A3 c3 (w2.alloc (Obj.cells (f.cs A1 c1 A2 c2 A3 c3) 38)) :=
    ⟨Blk.new _ _ _, ho1.alloc _, ho2.alloc _, ho3.alloc _, hs2.belowH ((Below.refl w2.heap.size w2).alloc (Nat.le_refl _) _) hs2.lt, HB2.out.alloc HB2.out.size _, hgl1, hg0, hlt2⟩
  have HF3 := Lib.hid hf3
  have HV := Lib.hid hv
  unfold Fnt.cv
  go_wp2_with fail
  refine (validate_any f A1 c1 A2 c2 A3 c3 _ HF3.out.fm).mono ?_
  rintro e w3 ⟨rfl, hb3⟩
  rw [HV.out]
  have hf4 := HF3.out.below hb3
  obtain ⟨fb, hfb⟩ : ∃ fb, fb = w2.heap.size := ⟨_, rfl⟩
  obtain ⟨B1, hB1⟩ : ∃ B, B = w1.heap.size := ⟨_, rfl⟩
  rw [← hfb, ← hB1] at hf4
  rw [← hfb]
  have hsz3 : g < w3.heap.size := hf4.src.lt
  have HF4 := Lib.hid hf4
  have HZ4 := Lib.hid (Blk.new w3 3 SZ)
  have HNE := Lib.hid (show w3.heap.size ≠ g by omega)
  clear hb3 hfb hB1 hf4 hf3 HF3 ho1 ho2 ho3 hs2 hg2 hlt2 HB2 HB1 hs1 hgl1 hg0 HR HZ hv hsz3
  have HF5 := Lib.hid (HF4.out.alloc (Obj.cells SZ 3))
  clear HF4
  unfold SZ at HF5
  unfold maxLen at m1 m2 m3
  go_wp2
  obtain ⟨sz, hsz⟩ : ∃ s, s = w3.heap.size := ⟨_, rfl⟩
  rw [← hsz] at HZ4 HNE
  try rw [← hsz]
  clear hsz
  go_loopw [6] (fun s6 wr => ∃ k : Nat, s6 = .int .i64 (k : Int) ∧ k ≤ 7 ∧ FB w B1 g fb f A1 c1 A2 c2 A3 c3 wr ∧ Blk wr sz 3 SZ) (fun s6 _ => 7 - (intOf s6).toNat)
  case atStart => exact ⟨0, rfl, by omega, HF5.out, HZ4.out⟩
  case round =>
    clear HF5 HZ4
    obtain ⟨k, rfl, hk, hfr, hzr⟩ := hrel
    have HFX := Lib.hid hfr
    have HZX := Lib.hid hzr
    clear hfr hzr
    by_cases hk7 : k < 7
    · have hk7' : (k : Int) < 7 := by omega
      obtain ⟨z, hz⟩ := sz_at k hk7
      have HZC := Lib.hid hz
      have hzc : wr.cell? ⟨sz, k, none⟩ = some (.int .i64 z) := by rw [HZX.out.cell]; exact hz
      obtain ⟨g0, g1, g2, g3, g4, g5, g6, g7⟩ := HFX.out.cells
      clear hz
      go_upto_region 9 with (fail)
      have HFX := Lib.hid HFX.out.drew
      have HZX := Lib.hid HZX.out.drew
      go_region_held3 (fun w' => w'.cell? ⟨fb, 0, none⟩ = some (.int .i64 f.u) ∧ w'.cell? ⟨fb, 1, none⟩ = some (.int .i64 f.a) ∧ w'.cell? ⟨fb, 2, none⟩ = some (.int .i64 f.d) ∧ w'.cell? ⟨fb, 3, none⟩ = some (.int .i64 f.g) ∧ w'.cell? ⟨fb, 4, none⟩ = some (.int .i64 f.df) ∧ w'.cell? ⟨fb, 5, none⟩ = some (.slice A1 f.adv.length c1) ∧ w'.cell? ⟨fb, 6, none⟩ = some (.slice A2 f.ker.length c2) ∧ w'.cell? ⟨fb, 7, none⟩ = some (.slice A3 f.lig.length c3) ∧ w'.cell? ⟨sz, k, none⟩ = some (.int .i64 z)) (first | with_reducible assumption | go_keep)
        (first
          | (go_at_call 26; refine (rune_any g w.heap.size _ HFX.out.src).mono ?_; rintro e w5 ⟨r5, rfl, r50, r51, hs5, hg5⟩
             have HFX := Lib.hid (HFX.out.call hs5 hg5)
             have HZX := Lib.hid (blk_gb HZX.out hg5 HNE.out)
             have hS := HFX.out.cells
             have hS2 : w5.cell? ⟨sz, k, none⟩ = some (.int .i64 z) := by rw [HZX.out.cell]; exact HZC.out
             clear hs5 hg5)
          | (go_at_call 32; refine (same_any rv f z _ _ A1 c1 A2 c2 A3 c3 _ HFX.out.fm (by assumption)).mono ?_; rintro e w6 ⟨rfl, hb6⟩
             have HFX := Lib.hid (HFX.out.below hb6)
             have HZX := Lib.hid (HZX.out.below hb6 HZX.out.lt)
             have hS := HFX.out.cells
             have hS2 : w6.cell? ⟨sz, k, none⟩ = some (.int .i64 z) := by rw [HZX.out.cell]; exact HZC.out
             clear hb6)
          | fail)
      all_goals
        go_wp2
        go_roundw
        case rel => exact ⟨k + 1, by go_num, by omega, HFX.out, HZX.out⟩
        case measure => simp [intOf]; omega
    · obtain rfl : k = 7 := by omega
      have hk7' : ¬ (7 : Int) < 7 := by omega
      clear HZX HNE hk hk7
      obtain ⟨N2, hN2⟩ : ∃ N, N = f.ker.length := ⟨_, rfl⟩
      obtain ⟨N3, hN3⟩ : ∃ N, N = f.lig.length := ⟨_, rfl⟩
      have HN2 := Lib.hid hN2
      have HN3 := Lib.hid hN3
      rw [← hN2] at m2
      rw [← hN3] at m3
      clear hN2 hN3
      have CS := Lib.hid (fun (w : World) (s a b : Int) (hf : FM w f A1 c1 A2 c2 A3 c3) (ha : -2147483648 ≤ a) => (show Calls Try.prog 32 #[.agg #[.int .i64 f.u, .int .i64 f.a, .int .i64 f.d, .int .i64 f.g, .int .i64 f.df, .slice A1 f.adv.length c1, .slice A2 N2 c2, .slice A3 N3 c3], .int .i64 s, .int .i32 a, .int .i32 b] w (Blb true w) by
        rw [HN2.out, HN3.out]; exact same_any rv f s a b A1 c1 A2 c2 A3 c3 w hf ha))
      have SHORT := Lib.hid (use_short (use_of HV.out (show (1 : Int) ≤ 1 ∧ (1 : Int) ≤ 1000 by omega)))
      have hal := Lib.hid (use_bd (use_of HV.out (show (1 : Int) ≤ 1 ∧ (1 : Int) ≤ 1000 by omega)))
      go_wp2
      go_loopw [7] (fun s wr => ∃ k : Nat, s = .int .i64 (k : Int) ∧ k ≤ N2 ∧ FB w B1 g fb f A1 c1 A2 c2 A3 c3 wr) (fun s _ => N2 - (intOf s).toNat)
      case atStart => exact ⟨0, rfl, by omega, HFX.out⟩
      case round =>
        clear HFX
        obtain ⟨k, rfl, hk, hfr⟩ := hrel
        have HFX := Lib.hid hfr
        clear hfr
        obtain ⟨g0, g1, g2, g3, g4, g5, g6, g7⟩ := HFX.out.cells
        rw [← HN2.out] at g6
        rw [← HN3.out] at g7
        by_cases hkn : k < N2
        · have hk0 : (k : Int) < (N2 : Int) := by omega
          obtain ⟨x, b, off, hx, hA, hbl, hc⟩ := elem_at (cells := Ker.cells) (size := 3) (fun _ => rfl) (by omega) HFX.out.fm.r2 (Below.refl wr.heap.size wr) k (by rw [← HN2.out]; exact hkn)
          have hxo := List.all_eq_true.1 hal.out.2.2.2.2.1 _ (List.mem_of_getElem? hx)
          subst hA
          obtain ⟨xa, xb, xd⟩ := x
          simp only [kerOk, inB, Bool.and_eq_true, decide_eq_true_eq] at hxo
          have hxa : -2147483648 ≤ xa := by omega
          have d0 : wr.cell? ⟨b, off + k * 3, none⟩ = some (.int .i32 xa) := hc 0 _ (by omega) rfl
          have d1 : wr.cell? ⟨b, off + k * 3 + 1, none⟩ = some (.int .i32 xb) := hc 1 _ (by omega) rfl
          clear hc hx hxo
          have HD := Lib.hid (And.intro d0 d1)
          have HFY := HFX
          go_upto_region 14 with (fail)
          have HFX := Lib.hid HFX.out.drew
          go_region_held3 (fun w' => w'.cell? ⟨fb, 0, none⟩ = some (.int .i64 f.u) ∧ w'.cell? ⟨fb, 1, none⟩ = some (.int .i64 f.a) ∧ w'.cell? ⟨fb, 2, none⟩ = some (.int .i64 f.d) ∧ w'.cell? ⟨fb, 3, none⟩ = some (.int .i64 f.g) ∧ w'.cell? ⟨fb, 4, none⟩ = some (.int .i64 f.df) ∧ w'.cell? ⟨fb, 5, none⟩ = some (.slice A1 f.adv.length c1) ∧ w'.cell? ⟨fb, 6, none⟩ = some (.slice (some ⟨b, off, none⟩) N2 c2) ∧ w'.cell? ⟨fb, 7, none⟩ = some (.slice A3 N3 c3) ∧ w'.cell? ⟨b, off + k * 3, none⟩ = some (.int .i32 xa) ∧ w'.cell? ⟨b, off + k * 3 + 1, none⟩ = some (.int .i32 xb)) (first | with_reducible assumption | go_keep)
            (first
              | (go_at_call 32; refine (CS.out _ 20 xa xb HFX.out.fm hxa).mono ?_; rintro e w6 ⟨rfl, hb6⟩
                 have HFX := Lib.hid (HFX.out.below hb6)
                 have hS := HFX.out.cells
                 rw [← HN2.out, ← HN3.out] at hS
                 have hS2 : w6.cell? ⟨b, off + k * 3, none⟩ = some (.int .i32 xa) ∧ w6.cell? ⟨b, off + k * 3 + 1, none⟩ = some (.int .i32 xb) := ⟨(hb6.cell (p := ⟨b, off + k * 3, none⟩) hbl).trans HD.out.1, (hb6.cell (p := ⟨b, off + k * 3 + 1, none⟩) hbl).trans HD.out.2⟩
                 clear hb6)
              | fail)
          all_goals
            go_wp2
            go_roundw
            case rel => exact ⟨k + 1, by go_num, by omega, HFX.out⟩
            case measure => simp [intOf]; omega
        · obtain rfl : N2 = k := by omega
          have hkn' : ¬ (N2 : Int) < (N2 : Int) := by omega
          clear hk hkn
          go_wp2
          go_loopw [8] (fun s wr => ∃ k : Nat, s = .int .i64 (k : Int) ∧ k ≤ N3 ∧ FB w B1 g fb f A1 c1 A2 c2 A3 c3 wr) (fun s _ => N3 - (intOf s).toNat)
          case atStart => exact ⟨0, rfl, by omega, HFX.out⟩
          case round =>
            clear HFX
            obtain ⟨k, rfl, hk, hfr⟩ := hrel
            have HFX := Lib.hid hfr
            clear hfr
            obtain ⟨g0, g1, g2, g3, g4, g5, g6, g7⟩ := HFX.out.cells
            rw [← HN2.out] at g6
            rw [← HN3.out] at g7
            by_cases hkn : k < N3
            · have hk0 : (k : Int) < (N3 : Int) := by omega
              obtain ⟨x, b, off, hx, hA, hbl, hc⟩ := elem_at (cells := Lig.cells) (size := 4) (fun _ => rfl) (by omega) HFX.out.fm.r3 (Below.refl wr.heap.size wr) k (by rw [← HN3.out]; exact hkn)
              have hxo := List.all_eq_true.1 hal.out.2.2.2.2.2 _ (List.mem_of_getElem? hx)
              subst hA
              obtain ⟨xa, xb, xg, xd⟩ := x
              simp only [ligOk, inB, Bool.and_eq_true, decide_eq_true_eq] at hxo
              have hxa : -2147483648 ≤ xa := by omega
              have d0 : wr.cell? ⟨b, off + k * 4, none⟩ = some (.int .i32 xa) := hc 0 _ (by omega) rfl
              have d1 : wr.cell? ⟨b, off + k * 4 + 1, none⟩ = some (.int .i32 xb) := hc 1 _ (by omega) rfl
              clear hc hx hxo
              have HD := Lib.hid (And.intro d0 d1)
              have HFY := HFX
              go_upto_region 19 with (fail)
              have HFX := Lib.hid HFX.out.drew
              go_region_held3 (fun w' => w'.cell? ⟨fb, 0, none⟩ = some (.int .i64 f.u) ∧ w'.cell? ⟨fb, 1, none⟩ = some (.int .i64 f.a) ∧ w'.cell? ⟨fb, 2, none⟩ = some (.int .i64 f.d) ∧ w'.cell? ⟨fb, 3, none⟩ = some (.int .i64 f.g) ∧ w'.cell? ⟨fb, 4, none⟩ = some (.int .i64 f.df) ∧ w'.cell? ⟨fb, 5, none⟩ = some (.slice A1 f.adv.length c1) ∧ w'.cell? ⟨fb, 6, none⟩ = some (.slice A2 N2 c2) ∧ w'.cell? ⟨fb, 7, none⟩ = some (.slice (some ⟨b, off, none⟩) N3 c3) ∧ w'.cell? ⟨b, off + k * 4, none⟩ = some (.int .i32 xa) ∧ w'.cell? ⟨b, off + k * 4 + 1, none⟩ = some (.int .i32 xb)) (first | with_reducible assumption | go_keep)
                (first
                  | (go_at_call 32; refine (CS.out _ 20 xa xb HFX.out.fm hxa).mono ?_; rintro e w6 ⟨rfl, hb6⟩
                     have HFX := Lib.hid (HFX.out.below hb6)
                     have hS := HFX.out.cells
                     rw [← HN2.out, ← HN3.out] at hS
                     have hS2 : w6.cell? ⟨b, off + k * 4, none⟩ = some (.int .i32 xa) ∧ w6.cell? ⟨b, off + k * 4 + 1, none⟩ = some (.int .i32 xb) := ⟨(hb6.cell (p := ⟨b, off + k * 4, none⟩) hbl).trans HD.out.1, (hb6.cell (p := ⟨b, off + k * 4 + 1, none⟩) hbl).trans HD.out.2⟩
                     clear hb6)
                  | fail)
              all_goals
                go_wp2
                go_roundw
                case rel => exact ⟨k + 1, by go_num, by omega, HFX.out⟩
                case measure => simp [intOf]; omega
            · obtain rfl : N3 = k := by omega
              have hkn' : ¬ (N3 : Int) < (N3 : Int) := by omega
              clear hk hkn
              have hN2 := HN2.out
              have hN3 := HN3.out
              clear HN2 HN3 CS
              subst hN2 hN3
              go_wp2_with fail
              refine (n_any g w.heap.size _ _ HFX.out.src (by omega) (by omega)).mono ?_
              rintro e w7 ⟨r7, rfl, a7, b7, _, hs7, hg7⟩
              have b7 := b7 (by omega)
              have HFX := Lib.hid (HFX.out.call hs7 hg7)
              clear hs7 hg7 g0 g1 g2 g3 g4 g5 g6 g7
              obtain ⟨g0, g1, g2, g3, g4, g5, g6, g7⟩ := HFX.out.cells
              have hcases : r7 = 0 ∨ r7 = 1 ∨ r7 = 2 ∨ r7 = 3 ∨ r7 = 4 ∨ r7 = 5 ∨ r7 = 6 := by omega
              clear a7 b7
              have hfr := fun i => HFX.out.blk.frozen i
              have HFR := Lib.hid hfr
              clear hfr
              rcases hcases with rfl | rfl | rfl | rfl | rfl | rfl | rfl
              · go_wp2_with fail
                refine (raw_any g w.heap.size _ HFX.out.src).mono ?_
                rintro e w8 ⟨r8, rfl, _, _, hs8, hg8⟩
                have HFX := Lib.hid (HFX.out.call hs8 hg8)
                clear hs8 hg8 g0 g1 g2 g3 g4 g5 g6 g7
                obtain ⟨g0, g1, g2, g3, g4, g5, g6, g7⟩ := HFX.out.cells
                have hfz := HFX.out.blk.frozen 0
                have HE := Lib.hid (HFX.out.put 0 (.int .i64 r8) { f with u := r8 } (by simp [Fnt.cs]) rfl rfl rfl).fe
                obtain ⟨q0, q1, q2, q3, q4, q5, q6, q7⟩ := HE.out.cells
                try dsimp only at q0 q1 q2 q3 q4 q5 q6 q7
                have CSX := same_any rv { f with u := r8 } 16 97 98 A1 c1 A2 c2 A3 c3 _ HE.out.fm (by omega)
                unfold Fnt.val at CSX
                try dsimp only at CSX
                have CSX := Lib.hid CSX
                go_wp2_with fail
                refine CSX.out.mono ?_
                rintro e w8 ⟨rfl, hb8⟩
                have HBE := Lib.hid (HE.out.bel.trans (hb8.mono HE.out.bel.size))
                clear hb8 q0 q1 q2 q3 q4 q5 q6 q7 HE CSX
                go_wp2_with fail
                refine (awakeF_any _).mono ?_
                rintro e w9 ⟨rfl, hb9⟩
                have HBE := Lib.hid (HBE.out.trans (hb9.mono HBE.out.size))
                clear hb9
                go_wp2
                go_ret
                exact ⟨rfl, HBE.out⟩
              · go_wp2_with fail
                refine (n_any g w.heap.size _ _ HFX.out.src (by omega) (by omega)).mono ?_
                rintro e w8 ⟨r8, rfl, _, _, _, hs8, hg8⟩
                have HFX := Lib.hid (HFX.out.call hs8 hg8)
                clear hs8 hg8 g0 g1 g2 g3 g4 g5 g6 g7
                obtain ⟨g0, g1, g2, g3, g4, g5, g6, g7⟩ := HFX.out.cells
                have hfz1 := HFX.out.blk.frozen 1
                have hfz2 := HFX.out.blk.frozen 2
                have HE := Lib.hid ((HFX.out.put 1 (.int .i64 0) { f with a := 0 } (by simp [Fnt.cs]) rfl rfl rfl).put 2 (.int .i64 r8) { f with a := 0, d := r8 } (by simp [Fnt.cs]) rfl rfl rfl).fe
                obtain ⟨q0, q1, q2, q3, q4, q5, q6, q7⟩ := HE.out.cells
                try dsimp only at q0 q1 q2 q3 q4 q5 q6 q7
                have CSX := same_any rv { f with a := 0, d := r8 } 16 97 98 A1 c1 A2 c2 A3 c3 _ HE.out.fm (by omega)
                unfold Fnt.val at CSX
                try dsimp only at CSX
                have CSX := Lib.hid CSX
                go_wp2_with fail
                refine CSX.out.mono ?_
                rintro e w8 ⟨rfl, hb8⟩
                have HBE := Lib.hid (HE.out.bel.trans (hb8.mono HE.out.bel.size))
                clear hb8 q0 q1 q2 q3 q4 q5 q6 q7 HE CSX
                go_wp2_with fail
                refine (awakeF_any _).mono ?_
                rintro e w9 ⟨rfl, hb9⟩
                have HBE := Lib.hid (HBE.out.trans (hb9.mono HBE.out.size))
                clear hb9
                go_wp2
                go_ret
                exact ⟨rfl, HBE.out⟩
              · by_cases hl0 : 0 < f.adv.length
                · have hl0' : (0 : Int) < (f.adv.length : Int) := by omega
                  obtain ⟨x, b, off, hx, hA, hbl, hc⟩ := elem_at (cells := Adv.cells) (size := 3) (fun _ => rfl) (by omega) HFX.out.fm.r1 (Below.refl w7.heap.size w7) 0 (by omega)
                  subst hA
                  obtain ⟨xa, xb, xd⟩ := x
                  have d0 : w7.cell? ⟨b, off, none⟩ = some (.int .i32 xa) := by simpa using hc 0 _ (by omega) rfl
                  have d1 : w7.cell? ⟨b, off + 1, none⟩ = some (.int .i32 xb) := by simpa using hc 1 _ (by omega) rfl
                  have d2 : w7.cell? ⟨b, off + 2, none⟩ = some (.int .i64 xd) := by simpa using hc 2 _ (by omega) rfl
                  have HX := Lib.hid hx
                  have hfz := HFX.out.blk.frozen 5
                  have hbw : w.heap.size ≤ w7.heap.size := HFX.out.bel.size
                  have hb1 : B1 ≤ w7.heap.size := by have := HFX.out.lf; have := HFX.out.blk.lt; omega
                  clear hc hx
                  go_upto_region 29 with (fail)
                  have HFD := Lib.hid (HFX.out.alloc (Obj.cells #[.int .i32 xa, .int .i32 xb, .int .i64 xd] 54)).drew
                  have c10a : (w7.alloc (Obj.cells #[.int .i32 xa, .int .i32 xb, .int .i64 xd] 54)).cell? ⟨fb, 5, none⟩ = some (.slice (some ⟨b, off, none⟩) f.adv.length c1) := HFD.out.cells.2.2.2.2.2.1
                  go_region_law (first
                    | (refine step_append_any _ (by rfl) (.tmp 101) (.tmp 106) _ (by rfl) B1 54 i1 _ 3 16 Try.underlying34 hi1 hz1 hy1 hx1 rfl (by omega) (.slice (some ⟨b, off, none⟩) f.adv.length c1) f.adv.length (acells f.adv) (by rfl)
                         HFD.out.o1 _ _ 1 1 _ (by rfl) (reads_new w7 #[.int .i32 xa, .int .i32 xb, .int .i64 xd] 54 3 1 rfl).drew (by intro u hu; simp at hu; rcases hu with rfl | rfl | rfl <;> rfl) (by have := SHORT.out.1; simp only [maxLen]; omega) (by have := SHORT.out.1; omega) (by simp; omega) ?_
                       intro v13 w13 hown13 hg13 hat13
                       obtain ⟨g13, k13, rfl, _, _, _⟩ := own_form hown13 (by omega)
                       have hb13 := blk_own HFD.out.blk HFD.out.o1 (by decide) hg13
                       have c13 : w13.cell? ⟨fb, 5, none⟩ = some (.slice (some ⟨b, off, none⟩) f.adv.length c1) := by rw [hb13.cell]; rfl
                       have f13 := hb13.frozen 5
                       have HE := Lib.hid (HFD.out.app1 ⟨xa, xb, xd⟩ rfl hown13 hg13 (by simp; omega))
                       clear hown13 hg13 hat13 hb13)
                    | fail)
                  all_goals
                    obtain ⟨q0, q1, q2, q3, q4, q5, q6, q7⟩ := HE.out.cells
                    try dsimp only at q0 q1 q2 q3 q4 q5 q6 q7
                    simp only [List.length_append, List.length_cons, List.length_nil, Nat.zero_add] at q5 q6 q7
                    have CSX := same_any rv { f with adv := f.adv ++ [⟨xa, xb, xd⟩] } 16 97 98 (some ⟨g13, 0, none⟩) k13 A2 c2 A3 c3 _ HE.out.fm (by omega)
                    unfold Fnt.val at CSX
                    try dsimp only at CSX
                    simp only [List.length_append, List.length_cons, List.length_nil, Nat.zero_add] at CSX
                    have CSX := Lib.hid CSX
                    go_wp2_with fail
                    refine CSX.out.mono ?_
                    rintro e w8 ⟨rfl, hb8⟩
                    have HBE := Lib.hid (HE.out.bel.trans (hb8.mono HE.out.bel.size))
                    clear hb8 q0 q1 q2 q3 q4 q5 q6 q7 HE CSX
                    go_wp2_with fail
                    refine (awakeF_any _).mono ?_
                    rintro e w9 ⟨rfl, hb9⟩
                    have HBE := Lib.hid (HBE.out.trans (hb9.mono HBE.out.size))
                    clear hb9
                    go_wp2
                    go_ret
                    exact ⟨rfl, HBE.out⟩
                · have hl0' : ¬ (0 : Int) < (f.adv.length : Int) := by omega
                  have HE := Lib.hid HFX.out.fe
                  obtain ⟨q0, q1, q2, q3, q4, q5, q6, q7⟩ := HE.out.cells
                  try dsimp only at q0 q1 q2 q3 q4 q5 q6 q7
                  have CSX := same_any rv f 16 97 98 A1 c1 A2 c2 A3 c3 _ HE.out.fm (by omega)
                  unfold Fnt.val at CSX
                  try dsimp only at CSX
                  have CSX := Lib.hid CSX
                  go_wp2_with fail
                  refine CSX.out.mono ?_
                  rintro e w8 ⟨rfl, hb8⟩
                  have HBE := Lib.hid (HE.out.bel.trans (hb8.mono HE.out.bel.size))
                  clear hb8 q0 q1 q2 q3 q4 q5 q6 q7 HE CSX
                  go_wp2_with fail
                  refine (awakeF_any _).mono ?_
                  rintro e w9 ⟨rfl, hb9⟩
                  have HBE := Lib.hid (HBE.out.trans (hb9.mono HBE.out.size))
                  clear hb9
                  go_wp2
                  go_ret
                  exact ⟨rfl, HBE.out⟩
              · by_cases hl0 : 0 < f.ker.length
                · have hl0' : (0 : Int) < (f.ker.length : Int) := by omega
                  obtain ⟨m, hm⟩ : ∃ m, f.ker.length = m + 1 := ⟨f.ker.length - 1, by omega⟩
                  have hmn : (m : Int) < (f.ker.length : Int) := by omega
                  have hm0 : (0 : Int) ≤ (m : Int) := by omega
                  have hmw : IntKind.i64.wrap ((f.ker.length : Int) - 1) = (m : Int) := by rw [show (f.ker.length : Int) - 1 = (m : Int) by omega]; exact IntWalk.i64_in _ (by omega)
                  have HM := Lib.hid hm
                  clear hm
                  obtain ⟨x, b, off, hx, hA, hbl, hc⟩ := elem_at (cells := Ker.cells) (size := 3) (fun _ => rfl) (by omega) HFX.out.fm.r2 (Below.refl w7.heap.size w7) m (by have := HM.out; omega)
                  subst hA
                  obtain ⟨xa, xb, xd⟩ := x
                  have d0 : w7.cell? ⟨b, off + m * 3, none⟩ = some (.int .i32 xa) := hc 0 _ (by omega) rfl
                  have d1 : w7.cell? ⟨b, off + m * 3 + 1, none⟩ = some (.int .i32 xb) := hc 1 _ (by omega) rfl
                  have d2 : w7.cell? ⟨b, off + m * 3 + 2, none⟩ = some (.int .i64 xd) := hc 2 _ (by omega) rfl
                  have HX := Lib.hid hx
                  have hfz := HFX.out.blk.frozen 6
                  have hbw : w.heap.size ≤ w7.heap.size := HFX.out.bel.size
                  have hb1 : B1 ≤ w7.heap.size := by have := HFX.out.lf; have := HFX.out.blk.lt; omega
                  clear hc hx
                  go_upto_region 32 with (fail)
                  have HFD := Lib.hid (HFX.out.alloc (Obj.cells #[.int .i32 xa, .int .i32 xb, .int .i64 xd] 48)).drew
                  have c10a : (w7.alloc (Obj.cells #[.int .i32 xa, .int .i32 xb, .int .i64 xd] 48)).cell? ⟨fb, 6, none⟩ = some (.slice (some ⟨b, off, none⟩) f.ker.length c2) := HFD.out.cells.2.2.2.2.2.2.1
                  go_region_law (first
                    | (refine step_append_any _ (by rfl) (.tmp 116) (.tmp 125) _ (by rfl) B1 48 i2 _ 3 16 Try.underlying35 hi2 hz2 hy2 hx2 rfl (by omega) (.slice (some ⟨b, off, none⟩) f.ker.length c2) f.ker.length (kcells f.ker) (by rfl)
                         HFD.out.o2 _ _ 1 1 _ (by rfl) (reads_new w7 #[.int .i32 xa, .int .i32 xb, .int .i64 xd] 48 3 1 rfl).drew (by intro u hu; simp at hu; rcases hu with rfl | rfl | rfl <;> rfl) (by have := SHORT.out.2.1; simp only [maxLen]; omega) (by have := SHORT.out.2.1; omega) (by simp; omega) ?_
                       intro v13 w13 hown13 hg13 hat13
                       obtain ⟨g13, k13, rfl, _, _, _⟩ := own_form hown13 (by omega)
                       have hb13 := blk_own HFD.out.blk HFD.out.o2 (by decide) hg13
                       have c13 : w13.cell? ⟨fb, 6, none⟩ = some (.slice (some ⟨b, off, none⟩) f.ker.length c2) := by rw [hb13.cell]; rfl
                       have f13 := hb13.frozen 6
                       have HE := Lib.hid (HFD.out.app2 ⟨xa, xb, xd⟩ rfl hown13 hg13 (by simp; omega))
                       clear hown13 hg13 hat13 hb13)
                    | fail)
                  all_goals
                    obtain ⟨q0, q1, q2, q3, q4, q5, q6, q7⟩ := HE.out.cells
                    try dsimp only at q0 q1 q2 q3 q4 q5 q6 q7
                    simp only [List.length_append, List.length_cons, List.length_nil, Nat.zero_add] at q5 q6 q7
                    have CSX := same_any rv { f with ker := f.ker ++ [⟨xa, xb, xd⟩] } 16 97 98 A1 c1 (some ⟨g13, 0, none⟩) k13 A3 c3 _ HE.out.fm (by omega)
                    unfold Fnt.val at CSX
                    try dsimp only at CSX
                    simp only [List.length_append, List.length_cons, List.length_nil, Nat.zero_add] at CSX
                    have CSX := Lib.hid CSX
                    go_wp2_with fail
                    refine CSX.out.mono ?_
                    rintro e w8 ⟨rfl, hb8⟩
                    have HBE := Lib.hid (HE.out.bel.trans (hb8.mono HE.out.bel.size))
                    clear hb8 q0 q1 q2 q3 q4 q5 q6 q7 HE CSX
                    go_wp2_with fail
                    refine (awakeF_any _).mono ?_
                    rintro e w9 ⟨rfl, hb9⟩
                    have HBE := Lib.hid (HBE.out.trans (hb9.mono HBE.out.size))
                    clear hb9
                    go_wp2
                    go_ret
                    exact ⟨rfl, HBE.out⟩
                · have hl0' : ¬ (0 : Int) < (f.ker.length : Int) := by omega
                  have HE := Lib.hid HFX.out.fe
                  
                  obtain ⟨q0, q1, q2, q3, q4, q5, q6, q7⟩ := HE.out.cells
                  try dsimp only at q0 q1 q2 q3 q4 q5 q6 q7
                  have CSX := same_any rv f 16 97 98 A1 c1 A2 c2 A3 c3 _ HE.out.fm (by omega)
                  unfold Fnt.val at CSX
                  try dsimp only at CSX
                  have CSX := Lib.hid CSX
                  go_wp2_with fail
                  refine CSX.out.mono ?_
                  rintro e w8 ⟨rfl, hb8⟩
                  have HBE := Lib.hid (HE.out.bel.trans (hb8.mono HE.out.bel.size))
                  clear hb8 q0 q1 q2 q3 q4 q5 q6 q7 HE CSX
                  go_wp2_with fail
                  refine (awakeF_any _).mono ?_
                  rintro e w9 ⟨rfl, hb9⟩
                  have HBE := Lib.hid (HBE.out.trans (hb9.mono HBE.out.size))
                  clear hb9
                  go_wp2
                  go_ret
                  exact ⟨rfl, HBE.out⟩
              · by_cases hl0 : 0 < f.lig.length
                · have hl0' : (0 : Int) < (f.lig.length : Int) := by omega
                  obtain ⟨g3b, k3b, hsl, hg3b, hg3l, _⟩ := own_form HFX.out.o3 hl0
                  injection hsl with hA3 _ hk3
                  subst hA3 hk3
                  obtain ⟨x, t, hxt⟩ : ∃ x t, f.lig = x :: t := by
                    cases hlig : f.lig with
                    | nil => rw [hlig] at hl0; simp at hl0
                    | cons x t => exact ⟨x, t, rfl⟩
                  have HXT := Lib.hid hxt
                  clear hxt
                  have hne : g3b ≠ fb := fun e => own_blk_ne HFX.out.o3 HFX.out.blk (by decide) (by rw [← e]; rfl)
                  have hne2 := hne.symm
                  have HLEN := Lib.hid (show t.length + 1 = f.lig.length by rw [HXT.out]; rfl)
                  have hc7 := HFX.out.drew.cells.2.2.2.2.2.2.2
                  go_upto_region 35 with (fail)
                  go_region_held3 (fun w' => w'.cell? ⟨fb, 7, none⟩ = some (.slice (some ⟨g3b, 0, none⟩) f.lig.length c3)) (first | with_reducible assumption | go_keep)
                    (first
                      | (go_at_call 34; refine (n_any g w.heap.size _ _ HFX.out.drew.src (by omega) (by omega)).mono ?_
                         rintro e w8 ⟨r8, rfl, a8, b8, _, hs8, hg8⟩
                         have b8 := b8 (by omega)
                         have HFY := Lib.hid (HFX.out.drew.call hs8 hg8)
                         have hS := HFY.out.cells.2.2.2.2.2.2.2
                         have hfz := (HFY.out.glyph_cell HXT.out).2
                         have hd2 := (HFY.out.glyph_cell HXT.out).1
                         have hw8 : IntKind.i64.wrap (1114111 + r8) = 1114111 + r8 := IntWalk.i64_in _ (by omega)
                         have HE := Lib.hid (HFY.out.glyph HXT.out (1114111 + r8) rfl)
                         clear hs8 hg8)
                      | fail)
                  all_goals
                    clear hw8 hS hfz hd2 hc7
                    obtain ⟨q0, q1, q2, q3, q4, q5, q6, q7⟩ := HE.out.cells
                    try dsimp only at q0 q1 q2 q3 q4 q5 q6 q7
                    simp only [List.length_cons, HLEN.out] at q7
                    have CSX := same_any rv { f with lig := { x with g := 1114111 + r8 } :: t } 16 97 98 A1 c1 A2 c2 (some ⟨g3b, 0, none⟩) c3 _ HE.out.fm (by omega)
                    unfold Fnt.val at CSX
                    try dsimp only at CSX
                    simp only [List.length_cons, HLEN.out] at CSX
                    have CSX := Lib.hid CSX
                    go_wp2_with fail
                    refine CSX.out.mono ?_
                    rintro e w8 ⟨rfl, hb8⟩
                    have HBE := Lib.hid (HE.out.bel.trans (hb8.mono HE.out.bel.size))
                    clear hb8 q0 q1 q2 q3 q4 q5 q6 q7 HE CSX
                    go_wp2_with fail
                    refine (awakeF_any _).mono ?_
                    rintro e w9 ⟨rfl, hb9⟩
                    have HBE := Lib.hid (HBE.out.trans (hb9.mono HBE.out.size))
                    clear hb9
                    go_wp2
                    go_ret
                    exact ⟨rfl, HBE.out⟩
                · have hl0' : ¬ (0 : Int) < (f.lig.length : Int) := by omega
                  have HE := Lib.hid HFX.out.fe
                  obtain ⟨q0, q1, q2, q3, q4, q5, q6, q7⟩ := HE.out.cells
                  try dsimp only at q0 q1 q2 q3 q4 q5 q6 q7
                  have CSX := same_any rv f 16 97 98 A1 c1 A2 c2 A3 c3 _ HE.out.fm (by omega)
                  unfold Fnt.val at CSX
                  try dsimp only at CSX
                  have CSX := Lib.hid CSX
                  go_wp2_with fail
                  refine CSX.out.mono ?_
                  rintro e w8 ⟨rfl, hb8⟩
                  have HBE := Lib.hid (HE.out.bel.trans (hb8.mono HE.out.bel.size))
                  clear hb8 q0 q1 q2 q3 q4 q5 q6 q7 HE CSX
                  go_wp2_with fail
                  refine (awakeF_any _).mono ?_
                  rintro e w9 ⟨rfl, hb9⟩
                  have HBE := Lib.hid (HBE.out.trans (hb9.mono HBE.out.size))
                  clear hb9
                  go_wp2
                  go_ret
                  exact ⟨rfl, HBE.out⟩
              · go_wp2_with fail
                refine (n_any g w.heap.size _ _ HFX.out.src (by omega) (by omega)).mono ?_
                rintro e w8 ⟨r8, rfl, a8, b8, _, hs8, hg8⟩
                have b8 := b8 (by omega)
                have HFX := Lib.hid (HFX.out.call hs8 hg8)
                clear hs8 hg8 g0 g1 g2 g3 g4 g5 g6 g7
                obtain ⟨g0, g1, g2, g3, g4, g5, g6, g7⟩ := HFX.out.cells
                have hfz := HFX.out.blk.frozen 4
                have HE := Lib.hid (HFX.out.put 4 (.int .i64 (4096 + r8)) { f with df := 4096 + r8 } (by simp [Fnt.cs]) rfl rfl rfl).fe
                obtain ⟨q0, q1, q2, q3, q4, q5, q6, q7⟩ := HE.out.cells
                try dsimp only at q0 q1 q2 q3 q4 q5 q6 q7
                have CSX := same_any rv { f with df := 4096 + r8 } 16 97 98 A1 c1 A2 c2 A3 c3 _ HE.out.fm (by omega)
                unfold Fnt.val at CSX
                try dsimp only at CSX
                have CSX := Lib.hid CSX
                go_wp2_with fail
                refine CSX.out.mono ?_
                rintro e w8 ⟨rfl, hb8⟩
                have HBE := Lib.hid (HE.out.bel.trans (hb8.mono HE.out.bel.size))
                clear hb8 q0 q1 q2 q3 q4 q5 q6 q7 HE CSX
                go_wp2_with fail
                refine (awakeF_any _).mono ?_
                rintro e w9 ⟨rfl, hb9⟩
                have HBE := Lib.hid (HBE.out.trans (hb9.mono HBE.out.size))
                clear hb9
                go_wp2
                go_ret
                exact ⟨rfl, HBE.out⟩
              · go_wp2_with fail
                refine (raw_any g w.heap.size _ HFX.out.src).mono ?_
                rintro e w8 ⟨r8, rfl, _, _, hs8, hg8⟩
                have HFX := Lib.hid (HFX.out.call hs8 hg8)
                clear hs8 hg8 g0 g1 g2 g3 g4 g5 g6 g7
                obtain ⟨g0, g1, g2, g3, g4, g5, g6, g7⟩ := HFX.out.cells
                have hfz := HFX.out.blk.frozen 3
                have HE := Lib.hid (HFX.out.put 3 (.int .i64 r8) { f with g := r8 } (by simp [Fnt.cs]) rfl rfl rfl).fe
                obtain ⟨q0, q1, q2, q3, q4, q5, q6, q7⟩ := HE.out.cells
                try dsimp only at q0 q1 q2 q3 q4 q5 q6 q7
                have CSX := same_any rv { f with g := r8 } 16 97 98 A1 c1 A2 c2 A3 c3 _ HE.out.fm (by omega)
                unfold Fnt.val at CSX
                try dsimp only at CSX
                have CSX := Lib.hid CSX
                go_wp2_with fail
                refine CSX.out.mono ?_
                rintro e w8 ⟨rfl, hb8⟩
                have HBE := Lib.hid (HE.out.bel.trans (hb8.mono HE.out.bel.size))
                clear hb8 q0 q1 q2 q3 q4 q5 q6 q7 HE CSX
                go_wp2_with fail
                refine (awakeF_any _).mono ?_
                rintro e w9 ⟨rfl, hb9⟩
                have HBE := Lib.hid (HBE.out.trans (hb9.mono HBE.out.size))
                clear hb9
                go_wp2
                go_ret
                exact ⟨rfl, HBE.out⟩
end Go.Proofs.Ytagokefbbdlpcaa
