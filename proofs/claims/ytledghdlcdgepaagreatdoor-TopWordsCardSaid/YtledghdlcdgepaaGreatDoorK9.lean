/- The sanity check of the law answers true, in every world. -/
import Derived.Test.YtledghdlcdgepaaGreatDoorK7
import Derived.Test.YtledghdlcdgepaaGreatDoorK8
namespace Go.Proofs.YtledghdlcdgepaaGreatDoor
set_option linter.unusedVariables false
open Go.RowKit

theorem awake_any (w : World) : Calls Tryz.prog 7 #[] w fun e w' => e = .returned (.bool true) ∧ Below (fun k => k < w.heap.size) w w' := by
  have hf : Tryz.prog.funcs[7]? = some Tryz.f7 := by kernel_rfl
  refine calls_of_wp hf body7_eq ?_
  have hnt : Tryz.f7.ntmps = 92 := by kernel_rfl
  rw [hnt]
  have hB0 : SB Tryz.prog (fun k => k < w.heap.size) ⟨fun _ => 0, fun _ => 0⟩ 92 T0 { tmps := #[] ++ Array.replicate (92 - (#[] : Array Value).size) undef, defers := [] } w :=
    ⟨⟨by simp, fun k v hk => by simp [T0, Tr.get_leaf] at hk, sim_empty 0⟩, trivial⟩
  refine wp_seq (piece_ok mixed tbl_ok call_ok (by decide) q0 hB0 fun r1 a1 w1 hB1 hw1 => ?_)
  refine wp_seq (piece_ok mixed tbl_ok call_ok (by decide) q1 hB1 fun r2 a2 w2 hB2 hw2 => ?_)
  refine wp_seq (piece_ok mixed tbl_ok call_ok (by decide) q2 hB2 fun r3 a3 w3 hB3 hw3 => ?_)
  refine wp_seq (piece_ok mixed tbl_ok call_ok (by decide) q3 hB3 fun r4 a4 w4 hB4 hw4 => ?_)
  refine wp_seq (piece_ok mixed tbl_ok call_ok (by decide) q4 hB4 fun r5 a5 w5 hB5 hw5 => ?_)
  refine wp_seq (piece_ok mixed tbl_ok call_ok (by decide) q5 hB5 fun r6 a6 w6 hB6 hw6 => ?_)
  refine wp_seq (piece_ok mixed tbl_ok call_ok (by decide) q6 hB6 fun r7 a7 w7 hB7 hw7 => ?_)
  refine wp_seq (piece_ok mixed tbl_ok call_ok (by decide) q7 hB7 fun r8 a8 w8 hB8 hw8 => ?_)
  refine wp_ret ?_
  have hd : a8.defers = [] := by
    have hdf := hB8.df
    cases hq : a8.defers with
    | nil => rfl
    | cons d ds => rw [hq] at hdf; exact hdf.elim
  have hres : aRes tbl A8.s A8.h Tryz.f7.results.toList = some [.bool true] := by kernel_rfl
  obtain ⟨_, v', h1, h2⟩ := results_ok tbl_ok hB8.sa hres
  have hv := vr_bool h1
  subst hv
  exact ⟨hd, _, h2, rfl, ((((((hw1.trans hw2).trans hw3).trans hw4).trans hw5).trans hw6).trans hw7).trans hw8⟩
theorem awake : TrueCall Tryz.prog 7 := ⟨awake_any, Tryz.f7, by kernel_rfl, by kernel_rfl, names 7 Tryz.f7 (by kernel_rfl)⟩
end Go.Proofs.YtledghdlcdgepaaGreatDoor
