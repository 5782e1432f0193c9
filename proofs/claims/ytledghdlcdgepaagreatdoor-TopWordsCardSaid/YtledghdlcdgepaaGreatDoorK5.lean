/- The law, walked: for every world, TopWords answers true and leaves all that was there alone. -/
import Derived.Test.YtledghdlcdgepaaGreatDoorK2
import Derived.Test.YtledghdlcdgepaaGreatDoorK3
import Derived.Test.YtledghdlcdgepaaGreatDoorK9
namespace Go.Proofs.YtledghdlcdgepaaGreatDoor
set_option linter.unusedVariables false
open Go.RowKit

theorem round : ∀ k, k < 13 → ev cB (S k) (S (k + 1)) = true
  | 0, _ => r0
  | 1, _ => r1
  | 2, _ => r2
  | 3, _ => r3
  | 4, _ => r4
  | 5, _ => r5
  | 6, _ => r6
  | 7, _ => r7
  | 8, _ => r8
  | 9, _ => r9
  | 10, _ => r10
  | 11, _ => r11
  | 12, _ => r12
  | k + 13, h => absurd h (by omega)

section
variable {N : Nat → Prop} {r : Ren} {a : Act} {w : World}

theorem loop_ok {Q : Exit → Act → World → Prop} (hQ : ∀ r' a' w', SB Tryz.prog N r' 55 (S 13) a' w' → Below N w w' → Q (.exit 0) a' w') : ∀ (m k : Nat) (r : Ren) (a1 : Act) (w1 : World), k + m = 13 → SB Tryz.prog N r 55 (S k) a1 w1 → Below N w w1 → Code.rounds Tryz.prog cB Q (m + 1) a1 w1
  | 0, k, r, a1, w1, hk, hB, hw => by
    have hk : k = 13 := by omega
    subst hk
    rw [rounds_succ]
    exact pieceX_ok mixed tbl_ok call_ok (by decide) pX hB fun r' a' w' hB' hw' => hQ r' a' w' hB' (hw.trans hw')
  | m + 1, k, r, a1, w1, hk, hB, hw => by
    rw [rounds_succ]
    refine piece_ok mixed tbl_ok call_ok (by decide) (round k (by omega)) hB fun r' a' w' hB' hw' => ?_
    exact loop_ok hQ m (k + 1) r' a' w' (by omega) hB' (hw.trans hw')

theorem law_any (w : World) : Calls Tryz.prog 3 #[] w fun e w' => e = .returned (.bool true) ∧ Below (fun k => k < w.heap.size) w w' := by
  have hf : Tryz.prog.funcs[3]? = some Tryz.f3 := by kernel_rfl
  refine calls_of_wp hf body3_eq ?_
  have hnt : Tryz.f3.ntmps = 55 := by kernel_rfl
  rw [hnt]
  have hB0 : SB Tryz.prog (fun k => k < w.heap.size) ⟨fun _ => 0, fun _ => 0⟩ 55 T0 { tmps := #[] ++ Array.replicate (55 - (#[] : Array Value).size) undef, defers := [] } w :=
    ⟨⟨by simp, fun k v hk => by simp [T0, Tr.get_leaf] at hk, sim_empty 0⟩, trivial⟩
  refine wp_seq (piece_ok mixed tbl_ok call_ok (by decide) p0 hB0 fun r1 a1 w1 hB1 hw1 => ?_)
  refine wp_seq (piece_ok mixed tbl_ok call_ok (by decide) p1 hB1 fun r2 a2 w2 hB2 hw2 => ?_)
  refine wp_seq (wp_seq (piece_ok mixed tbl_ok call_ok (by decide) p2 hB2 fun r3 a3 w3 hB3 hw3 => ?_))
  have hw3' := (hw1.trans hw2).trans hw3
  refine wp_block (wp_loop_rounds 14 (loop_ok (w := w) (fun r4 a4 w4 hB4 hw4 => ?_) 13 0 r3 a3 w3 rfl hB3 hw3'))
  simp only [Exit.inBlock, if_true]
  refine wp_seq (piece_ok mixed tbl_ok (knowTrue_ok call_ok awake) (by decide) p9 hB4 fun r5 a5 w5 hB5 hw5 => ?_)
  refine wp_ret ?_
  have hd : a5.defers = [] := by
    have hdf := hB5.df
    cases hq : a5.defers with
    | nil => rfl
    | cons d ds => rw [hq] at hdf; exact hdf.elim
  have hres : aRes tbl T9.s T9.h Tryz.f3.results.toList = some [.bool true] := by kernel_rfl
  obtain ⟨_, v', h1, h2⟩ := results_ok tbl_ok hB5.sa hres
  have hv := vr_bool h1
  subst hv
  exact ⟨hd, _, h2, rfl, hw4.trans hw5⟩
end
#print axioms law_any
end Go.Proofs.YtledghdlcdgepaaGreatDoor
