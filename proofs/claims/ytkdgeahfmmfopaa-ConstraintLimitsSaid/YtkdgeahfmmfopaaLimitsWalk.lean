/- ConstraintLimits walked. -/
import Derived.Test.YtkdgeahfmmfopaaC4
import Derived.Test.YtkdgeahfmmfopaaP6
import Derived.Test.YtkdgeahfmmfopaaRawWalk
import Derived.Laws.BitsLemmas
namespace Go.Proofs.Ytkdgeahfmmfopaa
set_option linter.unusedVariables false
set_option linter.unusedSimpArgs false
open Go.RowKit

theorem i64_and3 (n : Int) : bits .and .i64 n 3 = n % 4 := by
  have h3 : (BitVec.ofInt 64 3).toNat = 2 ^ 2 - 1 := by decide
  have key : (BitVec.ofInt 64 n &&& BitVec.ofInt 64 3).toNat = (n % ((2 ^ 64 : Nat) : Int)).toNat % 2 ^ 2 := by
    rw [BitVec.toNat_and, BitVec.toNat_ofInt, h3, Nat.and_two_pow_sub_one_eq_mod]
  show IntKind.i64.wrap ((BitVec.ofInt 64 n &&& BitVec.ofInt 64 3).toNat : Nat) = n % 4
  rw [key, IntKind.wrap_i64]
  omega

set_option maxRecDepth 100000 in
set_option maxHeartbeats 2000000 in
theorem limits_any (z : Int) (w : World) : Calls Try.prog 8 #[.int .i64 z] w fun e w' => e = .returned (.bool true) ∧ Below w.heap.size w w' := by
  obtain ⟨i0, hi0, hz0, hz1, hz2⟩ := info_parts con_info
  obtain ⟨m, hm⟩ : ∃ m : Nat, (m : Int) = z % 4 := ⟨(z % 4).toNat, by omega⟩
  have hm3 : m ≤ 3 := by omega
  have hbit : bits .and .i64 z 3 = (m : Int) := by rw [i64_and3, hm]
  clear hm
  by_cases hm2 : m < 2
  · go_enter Try.func8, Try.ntmps8
    go_wp2_with fail
    refine (solve_any (63 + (m : Int)) none 0 0 0 [] w rfl Reads.none_ (Nat.zero_le _) (fun _ => ⟨rfl, rfl⟩)).mono ?_
    intro e w1 hs1
    rw [show (63 + (m : Int)) = ((63 + m : Nat) : Int) by omega, iSolve_empty _ (by omega)] at hs1
    obtain ⟨va, rfl, hva, hb1⟩ := hs1
    obtain ⟨v1, v2, v3, rfl, a1, a2, a3⟩ := hva
    obtain ⟨A1, c1, rfl, _, _, _, r1⟩ := a1
    obtain ⟨A2, c2, rfl, _, _, _, r2⟩ := a2
    obtain ⟨A4, c4, rfl, hle4, _, _, r4⟩ := a3
    rw [List.length_replicate] at r4 hle4 ⊢
    have HB1 := Lib.hid hb1
    clear hb1 r1 r2 r4
    have hm2' : (m : Int) < 2 := by omega
    rw [show ((63 + m : Nat) : Int) = 63 + (m : Int) by omega] at *
    have HBW := Lib.hid (HB1.out.alloc HB1.out.size (Obj.cells #[.int .i64 (63 + (m : Int)), .slice A1 0 c1, .slice A2 0 c2, .slice A4 (63 + m) c4] 26))
    go_wp2
    generalize w1.alloc (Obj.cells #[.int .i64 (63 + (m : Int)), .slice A1 0 c1, .slice A2 0 c2, .slice A4 (63 + m) c4] 26) = W at *
    obtain ⟨H, hH⟩ : ∃ H, H = W.heap.size := ⟨_, rfl⟩
    have hwH : w.heap.size ≤ H := by rw [hH]; exact HBW.out.size
    go_loopw [5, 6] (fun s5 s6 wr => ∃ k : Nat, s6 = .int .i64 (k : Int) ∧ k ≤ 199 + m ∧ wr.ownsRow H 40 5 s5 k (conCells (limL k)) ∧ Below H W wr) (fun _ s6 _ => 199 + m - (intOf s6).toNat)
    case atStart => exact ⟨0, rfl, by omega, World.ownsRow_nil _ _ _ _, Below.refl _ _⟩
    case round =>
      obtain ⟨k, rfl, hk, hown, hbw⟩ := hrel
      have HOWN := Lib.hid hown
      have HBR := Lib.hid hbw
      have hwr : H ≤ wr.heap.size := by have := hbw.size; omega
      clear hown hbw
      by_cases hkm : k < 199 + m
      · have hk1 : (k : Int) < 199 + (m : Int) := by omega
        have hown8 := Lib.hid (HOWN.out.alloc (Obj.cells #[.int .i64 0, .int .i64 (-1), .int .i64 0, .int .i64 (k : Int), .int .i64 3] 40))
        have hrd8 := Lib.hid (reads_new wr #[.int .i64 0, .int .i64 (-1), .int .i64 0, .int .i64 (k : Int), .int .i64 3] 40 5 1 rfl)
        have HB8 := Lib.hid (HBR.out.alloc hwr (Obj.cells #[.int .i64 0, .int .i64 (-1), .int .i64 0, .int .i64 (k : Int), .int .i64 3] 40))
        go_wp2_with (
          at_builtin
          refine wpList_append_any _ rfl (.tmp 50) (.tmp 53) _ rfl H 40 i0 _ 5 40 Try.underlying22 hi0 hz0 hz1 hz2 rfl (by omega) _ k (conCells (limL k)) rfl
            hown8.out _ _ 1 1 _ rfl hrd8.out (by intro u hu; simp at hu; rcases hu with rfl | rfl | rfl | rfl | rfl <;> rfl) (by simp only [maxLen]; omega) (by omega) (by simp; omega) ?_
          intro v13 w13 hown13 hg13 hat13)
        go_roundw
        case rel =>
          refine ⟨k + 1, by go_num, by omega, ?_, ?_⟩
          · have e : conCells (limL (k + 1)) = conCells (limL k) ++ [.int .i64 0, .int .i64 (-1), .int .i64 0, .int .i64 (k : Int), .int .i64 3] := by rw [limL_succ]; simp [conCells, Con.cells, limC]
            rw [e]
            exact hown13
          · exact HB8.out.grown hg13 (by simp; omega) (fun k hk => (hown8.out.lt k hk).1)
        case measure => simp [intOf]; omega
      · obtain rfl : k = 199 + m := by omega
        obtain ⟨A3, c3, rfl, hle3, hm3', hnil3, hr3⟩ := own_slr HOWN.out
        have HR3 := Lib.hid hr3
        have HN3 := Lib.hid hnil3
        have HB3 := Lib.hid (HBW.out.trans (HBR.out.mono hwH))
        clear hr3 hnil3
        have hk199 : ((199 + m : Nat) : Int) = 199 + (m : Int) := by omega
        obtain ⟨K, hK⟩ : ∃ K, K = 199 + m := ⟨_, rfl⟩
        rw [← hK] at HR3 HN3 hle3 ⊢
        have hKm : (K : Int) = 199 + (m : Int) := by omega
        have hK2 : 199 ≤ K ∧ (m < 2 → K ≤ 200) ∧ (¬ m < 2 → 200 < K) := by omega
        have HK2 := Lib.hid hK2
        clear hK hk199 hK2
        go_wp2_with fail
        refine (solve_any 1 A3 K c3 wr.heap.size (limL K) _ (limL_len K) HR3.out (Nat.le_refl _) HN3.out).mono ?_
        intro e w4 hs4
        obtain ⟨hh, hsol⟩ := lim_solved K (by have := HK2.out; omega) (HK2.out.2.1 hm2)
        rw [show ((1 : Nat) : Int) = 1 from rfl] at hsol
        rw [hsol] at hs4
        obtain ⟨va, rfl, hva, hb4⟩ := hs4
        obtain ⟨v1, v2, v3, rfl, a1, a2, a3⟩ := hva
        obtain ⟨A1, c1, rfl, _, _, _, r1⟩ := a1
        obtain ⟨A2, c2, rfl, _, _, _, r2⟩ := a2
        obtain ⟨A4, c4, rfl, hle4, _, _, r4⟩ := a3
        rw [limL_len] at r1 ⊢
        change Reads w4 w4.heap.size 1 A4 1 _ at r4
        change 1 ≤ c4 at hle4
        obtain ⟨b4, o4, rfl, hb4', hc4⟩ := r4.plain (by omega) (by omega)
        have q0 : w4.cell? ⟨b4, o4, none⟩ = some (.int .i64 ((K : Int) - 1)) := hc4 0 _ rfl
        have HB4 := Lib.hid (HB3.out.trans (hb4.mono HB3.out.size))
        clear hsol hb4 r1 r2 r4 hc4
        have HB5 := Lib.hid (HB4.out.alloc HB4.out.size (Obj.cells #[.int .i64 1, .slice A1 K c1, .slice A2 hh.length c2, .slice (some ⟨b4, o4, none⟩) 1 c4] 26))
        go_wp2_with fail
        refine (awake_any _).mono ?_
        rintro e w7 ⟨rfl, hb7⟩
        have HB7 := Lib.hid (HB5.out.trans (hb7.mono HB5.out.size))
        clear hb7
        go_wp2
        go_ret
        exact ⟨rfl, HB7.out⟩
  · go_enter Try.func8, Try.ntmps8
    go_wp2_with fail
    refine (solve_any (63 + (m : Int)) none 0 0 0 [] w rfl Reads.none_ (Nat.zero_le _) (fun _ => ⟨rfl, rfl⟩)).mono ?_
    intro e w1 hs1
    rw [show (63 + (m : Int)) = ((63 + m : Nat) : Int) by omega, iSolve_many _ (by omega)] at hs1
    obtain ⟨rfl, hb1⟩ := hs1
    have HB1 := Lib.hid hb1
    clear hb1
    have hm2' : ¬ (m : Int) < 2 := by omega
    unfold zeroSys
    have HBW := Lib.hid (HB1.out.alloc HB1.out.size (Obj.cells #[.int .i64 0, .slice none 0 0, .slice none 0 0, .slice none 0 0] 26))
    go_wp2
    generalize w1.alloc (Obj.cells #[.int .i64 0, .slice none 0 0, .slice none 0 0, .slice none 0 0] 26) = W at *
    obtain ⟨H, hH⟩ : ∃ H, H = W.heap.size := ⟨_, rfl⟩
    have hwH : w.heap.size ≤ H := by rw [hH]; exact HBW.out.size
    go_loopw [5, 6] (fun s5 s6 wr => ∃ k : Nat, s6 = .int .i64 (k : Int) ∧ k ≤ 199 + m ∧ wr.ownsRow H 40 5 s5 k (conCells (limL k)) ∧ Below H W wr) (fun _ s6 _ => 199 + m - (intOf s6).toNat)
    case atStart => exact ⟨0, rfl, by omega, World.ownsRow_nil _ _ _ _, Below.refl _ _⟩
    case round =>
      obtain ⟨k, rfl, hk, hown, hbw⟩ := hrel
      have HOWN := Lib.hid hown
      have HBR := Lib.hid hbw
      have hwr : H ≤ wr.heap.size := by have := hbw.size; omega
      clear hown hbw
      by_cases hkm : k < 199 + m
      · have hk1 : (k : Int) < 199 + (m : Int) := by omega
        have hown8 := Lib.hid (HOWN.out.alloc (Obj.cells #[.int .i64 0, .int .i64 (-1), .int .i64 0, .int .i64 (k : Int), .int .i64 3] 40))
        have hrd8 := Lib.hid (reads_new wr #[.int .i64 0, .int .i64 (-1), .int .i64 0, .int .i64 (k : Int), .int .i64 3] 40 5 1 rfl)
        have HB8 := Lib.hid (HBR.out.alloc hwr (Obj.cells #[.int .i64 0, .int .i64 (-1), .int .i64 0, .int .i64 (k : Int), .int .i64 3] 40))
        go_wp2_with (
          at_builtin
          refine wpList_append_any _ rfl (.tmp 50) (.tmp 53) _ rfl H 40 i0 _ 5 40 Try.underlying22 hi0 hz0 hz1 hz2 rfl (by omega) _ k (conCells (limL k)) rfl
            hown8.out _ _ 1 1 _ rfl hrd8.out (by intro u hu; simp at hu; rcases hu with rfl | rfl | rfl | rfl | rfl <;> rfl) (by simp only [maxLen]; omega) (by omega) (by simp; omega) ?_
          intro v13 w13 hown13 hg13 hat13)
        go_roundw
        case rel =>
          refine ⟨k + 1, by go_num, by omega, ?_, ?_⟩
          · have e : conCells (limL (k + 1)) = conCells (limL k) ++ [.int .i64 0, .int .i64 (-1), .int .i64 0, .int .i64 (k : Int), .int .i64 3] := by rw [limL_succ]; simp [conCells, Con.cells, limC]
            rw [e]
            exact hown13
          · exact HB8.out.grown hg13 (by simp; omega) (fun k hk => (hown8.out.lt k hk).1)
        case measure => simp [intOf]; omega
      · obtain rfl : k = 199 + m := by omega
        obtain ⟨A3, c3, rfl, hle3, hm3', hnil3, hr3⟩ := own_slr HOWN.out
        have HR3 := Lib.hid hr3
        have HN3 := Lib.hid hnil3
        have HB3 := Lib.hid (HBW.out.trans (HBR.out.mono hwH))
        clear hr3 hnil3
        have hk199 : ((199 + m : Nat) : Int) = 199 + (m : Int) := by omega
        obtain ⟨K, hK⟩ : ∃ K, K = 199 + m := ⟨_, rfl⟩
        rw [← hK] at HR3 HN3 hle3 ⊢
        have hKm : (K : Int) = 199 + (m : Int) := by omega
        have hK2 : 199 ≤ K ∧ (m < 2 → K ≤ 200) ∧ (¬ m < 2 → 200 < K) := by omega
        have HK2 := Lib.hid hK2
        clear hK hk199 hK2
        go_wp2_with fail
        refine (solve_any 1 A3 K c3 wr.heap.size (limL K) _ (limL_len K) HR3.out (Nat.le_refl _) HN3.out).mono ?_
        intro e w4 hs4
        rw [show (1 : Int) = ((1 : Nat) : Int) from rfl, lim_long K (HK2.out.2.2 hm2)] at hs4
        obtain ⟨rfl, hb4⟩ := hs4
        have HB4 := Lib.hid (HB3.out.trans (hb4.mono HB3.out.size))
        clear hb4
        unfold zeroSys
        go_wp2_with fail
        refine (awake_any _).mono ?_
        rintro e w7 ⟨rfl, hb7⟩
        have HB7 := Lib.hid ((HB4.out.alloc HB4.out.size _).trans (hb7.mono (by have := HB4.out.size; simp; omega)))
        clear hb7
        go_wp2
        go_ret
        exact ⟨rfl, HB7.out⟩
end Go.Proofs.Ytkdgeahfmmfopaa
