/- The law's same walked: both sides answer alike. -/
import Derived.Test.YtagokefbbdlpcaaK7
import Derived.Test.YtagokefbbdlpcaaJ1
namespace Go.Proofs.Ytagokefbbdlpcaa
set_option linter.unusedVariables false
set_option linter.unusedSimpArgs false
open Go.RowKit

theorem fm_alloc {w : World} {f : Fnt} {A1 A2 A3 : Option Addr} {c1 c2 c3 : Nat} (h : FM w f A1 c1 A2 c2 A3 c3) (o : Obj) : FM (w.alloc o) f A1 c1 A2 c2 A3 c3 :=
  h.below ((Below.refl w.heap.size w).alloc (Nat.le_refl _) o)
theorem ligC_form (o : Option Lig) : ∃ u0 u1 u2 u3 : Int, ligC o = #[.int .i32 u0, .int .i32 u1, .int .i64 u2, .int .i64 u3] := by
  cases o with
  | none => exact ⟨_, _, _, _, rfl⟩
  | some x => exact ⟨_, _, _, _, rfl⟩

set_option maxRecDepth 100000 in
set_option maxHeartbeats 4000000 in
theorem same_any (hv : RV) (f : Fnt) (s a b : Int) (A1 : Option Addr) (c1 : Nat) (A2 : Option Addr) (c2 : Nat) (A3 : Option Addr) (c3 : Nat) (w : World) (hf : FM w f A1 c1 A2 c2 A3 c3) (ha : -2147483648 ≤ a) :
    Calls Try.prog 32 #[f.val A1 c1 A2 c2 A3 c3, .int .i64 s, .int .i32 a, .int .i32 b] w (Blb true w) := by
  have HF := Lib.hid (fm_box hf)
  have HB := Lib.hid ((Below.refl w.heap.size w).alloc (Nat.le_refl _) (Obj.cells (f.cs A1 c1 A2 c2 A3 c3) 38))
  have HK := Lib.hid (Blk.new w 38 (f.cs A1 c1 A2 c2 A3 c3))
  clear hf
  obtain ⟨u0, u1, u2, u3, hu⟩ := ligC_form (iLig f a b)
  obtain ⟨is, his⟩ : ∃ is, is = (iLig f a b).isSome := ⟨_, rfl⟩
  have CL := Lib.hid (fun w hf => (show Calls Try.prog 48 #[f.val A1 c1 A2 c2 A3 c3, .int .i32 a, .int .i32 b] w (fun e w' => e = .returned (.tuple #[.agg #[.int .i32 u0, .int .i32 u1, .int .i64 u2, .int .i64 u3], .bool is]) ∧ Below w.heap.size w w') by
    have := lig_any f a b A1 c1 A2 c2 A3 c3 w hf
    unfold LigIn at this
    rwa [hu, ← his] at this))
  have CM := Lib.hid (fun w hf => (show Calls Try.prog 49 #[f.val A1 c1 A2 c2 A3 c3, .int .i32 a, .int .i32 b] w (fun e w' => e = .returned (.tuple #[.agg #[.int .i32 u0, .int .i32 u1, .int .i64 u2, .int .i64 u3], .bool is]) ∧ Below w.heap.size w w') by
    have := rlig_any hv f a b A1 c1 A2 c2 A3 c3 w hf
    unfold LigIn at this
    rwa [hu, ← his] at this))
  clear hu his
  unfold Fnt.val
  go_enter Try.func32, Try.ntmps32
  go_wp2_with fail
  refine (CL.out _ HF.out).mono ?_
  rintro e wa ⟨rfl, hb⟩
  have HB := Lib.hid (HB.out.trans (hb.mono HB.out.size))
  have HF := Lib.hid (HF.out.below hb)
  have HK := Lib.hid (HK.out.below hb HK.out.lt)
  obtain ⟨g0, g1, g2, g3, g4, g5, g6, g7⟩ := box_cells HK.out (Below.refl _ _)
  have hsz := Lib.hid (Nat.le_refl wa.heap.size)
  have HQ := Lib.hid (Blk.new wa 50 #[.int .i32 u0, .int .i32 u1, .int .i64 u2, .int .i64 u3])
  have HB := Lib.hid (HB.out.alloc HB.out.size (Obj.cells #[.int .i32 u0, .int .i32 u1, .int .i64 u2, .int .i64 u3] 50))
  have HF := Lib.hid (fm_alloc HF.out (Obj.cells #[.int .i32 u0, .int .i32 u1, .int .i64 u2, .int .i64 u3] 50))
  have HK := Lib.hid (HK.out.alloc (Obj.cells #[.int .i32 u0, .int .i32 u1, .int .i64 u2, .int .i64 u3] 50))
  have HX := HQ
  have gg := box_cells HK.out (Below.refl _ _)
  go_wp2_with fail
  refine (CM.out _ HF.out).mono ?_
  rintro e wb ⟨rfl, hb⟩
  have HB := Lib.hid (HB.out.trans (hb.mono HB.out.size))
  have HF := Lib.hid (HF.out.below hb)
  have HK := Lib.hid (HK.out.below hb HK.out.lt)
  have HX := Lib.hid (HX.out.below hb HX.out.lt)
  have hsz := Lib.hid (Nat.le_refl wb.heap.size)
  have HQ := Lib.hid (Blk.new wb 50 #[.int .i32 u0, .int .i32 u1, .int .i64 u2, .int .i64 u3])
  have HB := Lib.hid (HB.out.alloc HB.out.size (Obj.cells #[.int .i32 u0, .int .i32 u1, .int .i64 u2, .int .i64 u3] 50))
  have HF := Lib.hid (fm_alloc HF.out (Obj.cells #[.int .i32 u0, .int .i32 u1, .int .i64 u2, .int .i64 u3] 50))
  have HK := Lib.hid (HK.out.alloc (Obj.cells #[.int .i32 u0, .int .i32 u1, .int .i64 u2, .int .i64 u3] 50))
  have HX := Lib.hid (HX.out.alloc (Obj.cells #[.int .i32 u0, .int .i32 u1, .int .i64 u2, .int .i64 u3] 50))
  have HY := HQ
  clear gg g0 g1 g2 g3 g4 g5 g6 g7
  obtain ⟨g0, g1, g2, g3, g4, g5, g6, g7⟩ := box_cells HK.out (Below.refl _ _)
  obtain ⟨x0, x1, x2, x3⟩ := lig_cells HX.out
  obtain ⟨y0, y1, y2, y3⟩ := lig_cells HY.out
  clear g0 g1 g2 g3 g4 g5 g6 g7 x0 x1 x2 x3 y0 y1 y2 y3
  go_upto_region 3 with (fail)
  simp only [List.append]
  refine wp_region_S (S := fun w' => Below (wb.alloc (Obj.cells #[.int .i32 u0, .int .i32 u1, .int .i64 u2, .int .i64 u3] 50)).heap.size (wb.alloc (Obj.cells #[.int .i32 u0, .int .i32 u1, .int .i64 u2, .int .i64 u3] 50)) w') (by kernel_rfl) (Below.refl _ _).drew ?_
  refine wpAnyS_take (i := 0) (v := ?_) (by simp only [List.getElem?_toArray, List.getElem?_cons_zero, List.getElem?_cons_succ]; rfl) (by kernel_rfl) (by kernel_rfl) (by kernel_rfl) (by intro _ _ _ h; exact h) (yieldsG_val (by rfl) ?_) ?_
  rotate_left
  · (intro w' hSw; obtain ⟨g0, g1, g2, g3, g4, g5, g6, g7⟩ := box_cells HK.out hSw; go_simp; try (with_reducible rfl))
  simp only [Act.put, List.setIfInBounds_toArray, List.set_cons_zero, List.set_cons_succ]
  refine wpAnyS_take (i := 1) (v := Value.int .i64 (vld f)) (by simp only [List.getElem?_toArray, List.getElem?_cons_zero, List.getElem?_cons_succ]; rfl) (by kernel_rfl) (by kernel_rfl) (by kernel_rfl) (by intro _ _ _ h; exact h) (yieldsG_call (f := 33) (args := #[f.val A1 c1 A2 c2 A3 c3]) (by rfl) (fun w' hSw => ?_) (fun w' hSw => (validate_any f A1 c1 A2 c2 A3 c3 _ (HF.out.below hSw)).mono fun e w5 ⟨he, hb5⟩ => ⟨he, hSw.trans (hb5.mono hSw.size)⟩)) ?_
  · (go_simp; try rfl)
  simp only [Act.put, List.setIfInBounds_toArray, List.set_cons_zero, List.set_cons_succ]
  refine wpAnyS_take (i := 2) (v := ?_) (by simp only [List.getElem?_toArray, List.getElem?_cons_zero, List.getElem?_cons_succ]; rfl) (by kernel_rfl) (by kernel_rfl) (by kernel_rfl) (by intro _ _ _ h; exact h) (yieldsG_val (by rfl) ?_) ?_
  rotate_left
  · (intro w' hSw; obtain ⟨g0, g1, g2, g3, g4, g5, g6, g7⟩ := box_cells HK.out hSw; go_simp; try (with_reducible rfl))
  simp only [Act.put, List.setIfInBounds_toArray, List.set_cons_zero, List.set_cons_succ]
  refine wpAnyS_take (i := 3) (v := Value.int .i64 (vld f)) (by simp only [List.getElem?_toArray, List.getElem?_cons_zero, List.getElem?_cons_succ]; rfl) (by kernel_rfl) (by kernel_rfl) (by kernel_rfl) (by intro _ _ _ h; exact h) (yieldsG_call (f := 50) (args := #[f.val A1 c1 A2 c2 A3 c3]) (by rfl) (fun w' hSw => ?_) (fun w' hSw => (hv f A1 c1 A2 c2 A3 c3 _ (HF.out.below hSw)).mono fun e w5 ⟨he, hb5⟩ => ⟨he, hSw.trans (hb5.mono hSw.size)⟩)) ?_
  · (go_simp; try rfl)
  simp only [Act.put, List.setIfInBounds_toArray, List.set_cons_zero, List.set_cons_succ]
  refine wpAnyS_take (i := 4) (v := ?_) (by simp only [List.getElem?_toArray, List.getElem?_cons_zero, List.getElem?_cons_succ]; rfl) (by kernel_rfl) (by kernel_rfl) (by kernel_rfl) (by intro _ _ _ h; exact h) (yieldsG_val (by rfl) ?_) ?_
  rotate_left
  · (intro w' hSw; go_simp; try (with_reducible rfl))
  simp only [Act.put, List.setIfInBounds_toArray, List.set_cons_zero, List.set_cons_succ]
  refine wpAnyS_take (i := 5) (v := ?_) (by simp only [List.getElem?_toArray, List.getElem?_cons_zero, List.getElem?_cons_succ]; rfl) (by kernel_rfl) (by kernel_rfl) (by kernel_rfl) (by intro _ _ _ h; exact h) (yieldsG_val (by rfl) ?_) ?_
  rotate_left
  · (intro w' hSw; go_simp; try (with_reducible rfl))
  simp only [Act.put, List.setIfInBounds_toArray, List.set_cons_zero, List.set_cons_succ]
  refine wpAnyS_take (i := 6) (v := ?_) (by simp only [List.getElem?_toArray, List.getElem?_cons_zero, List.getElem?_cons_succ]; rfl) (by kernel_rfl) (by kernel_rfl) (by kernel_rfl) (by intro _ _ _ h; exact h) (yieldsG_val (by rfl) ?_) ?_
  rotate_left
  · (intro w' hSw; obtain ⟨g0, g1, g2, g3, g4, g5, g6, g7⟩ := box_cells HK.out hSw; go_simp; try (with_reducible rfl))
  simp only [Act.put, List.setIfInBounds_toArray, List.set_cons_zero, List.set_cons_succ]
  refine wpAnyS_take (i := 7) (v := ?_) (by simp only [List.getElem?_toArray, List.getElem?_cons_zero, List.getElem?_cons_succ]; rfl) (by kernel_rfl) (by kernel_rfl) (by kernel_rfl) (by intro _ _ _ h; exact h) (yieldsG_val (by rfl) ?_) ?_
  rotate_left
  · (intro w' hSw; go_simp; try (with_reducible rfl))
  simp only [Act.put, List.setIfInBounds_toArray, List.set_cons_zero, List.set_cons_succ]
  refine wpAnyS_take (i := 8) (v := ?_) (by simp only [List.getElem?_toArray, List.getElem?_cons_zero, List.getElem?_cons_succ]; rfl) (by kernel_rfl) (by kernel_rfl) (by kernel_rfl) (by intro _ _ _ h; exact h) (yieldsG_val (by rfl) ?_) ?_
  rotate_left
  · (intro w' hSw; go_simp; try (with_reducible rfl))
  simp only [Act.put, List.setIfInBounds_toArray, List.set_cons_zero, List.set_cons_succ]
  refine wpAnyS_take (i := 9) (v := Value.int .i64 (iAdv f s a)) (by simp only [List.getElem?_toArray, List.getElem?_cons_zero, List.getElem?_cons_succ]; rfl) (by kernel_rfl) (by kernel_rfl) (by kernel_rfl) (by intro _ _ _ h; exact h) (yieldsG_call (f := 27) (args := #[f.val A1 c1 A2 c2 A3 c3, .int .i64 s, .int .i32 a]) (by rfl) (fun w' hSw => ?_) (fun w' hSw => (advance_any f s a A1 c1 A2 c2 A3 c3 _ (HF.out.below hSw) ha).mono fun e w5 ⟨he, hb5⟩ => ⟨he, hSw.trans (hb5.mono hSw.size)⟩)) ?_
  · (go_simp; try rfl)
  simp only [Act.put, List.setIfInBounds_toArray, List.set_cons_zero, List.set_cons_succ]
  refine wpAnyS_take (i := 10) (v := ?_) (by simp only [List.getElem?_toArray, List.getElem?_cons_zero, List.getElem?_cons_succ]; rfl) (by kernel_rfl) (by kernel_rfl) (by kernel_rfl) (by intro _ _ _ h; exact h) (yieldsG_val (by rfl) ?_) ?_
  rotate_left
  · (intro w' hSw; obtain ⟨g0, g1, g2, g3, g4, g5, g6, g7⟩ := box_cells HK.out hSw; go_simp; try (with_reducible rfl))
  simp only [Act.put, List.setIfInBounds_toArray, List.set_cons_zero, List.set_cons_succ]
  refine wpAnyS_take (i := 11) (v := ?_) (by simp only [List.getElem?_toArray, List.getElem?_cons_zero, List.getElem?_cons_succ]; rfl) (by kernel_rfl) (by kernel_rfl) (by kernel_rfl) (by intro _ _ _ h; exact h) (yieldsG_val (by rfl) ?_) ?_
  rotate_left
  · (intro w' hSw; go_simp; try (with_reducible rfl))
  simp only [Act.put, List.setIfInBounds_toArray, List.set_cons_zero, List.set_cons_succ]
  refine wpAnyS_take (i := 12) (v := ?_) (by simp only [List.getElem?_toArray, List.getElem?_cons_zero, List.getElem?_cons_succ]; rfl) (by kernel_rfl) (by kernel_rfl) (by kernel_rfl) (by intro _ _ _ h; exact h) (yieldsG_val (by rfl) ?_) ?_
  rotate_left
  · (intro w' hSw; go_simp; try (with_reducible rfl))
  simp only [Act.put, List.setIfInBounds_toArray, List.set_cons_zero, List.set_cons_succ]
  refine wpAnyS_take (i := 13) (v := Value.int .i64 (iAdv f s a)) (by simp only [List.getElem?_toArray, List.getElem?_cons_zero, List.getElem?_cons_succ]; rfl) (by kernel_rfl) (by kernel_rfl) (by kernel_rfl) (by intro _ _ _ h; exact h) (yieldsG_call (f := 51) (args := #[f.val A1 c1 A2 c2 A3 c3, .int .i64 s, .int .i32 a]) (by rfl) (fun w' hSw => ?_) (fun w' hSw => (radvance_any hv f s a A1 c1 A2 c2 A3 c3 _ (HF.out.below hSw)).mono fun e w5 ⟨he, hb5⟩ => ⟨he, hSw.trans (hb5.mono hSw.size)⟩)) ?_
  · (go_simp; try rfl)
  simp only [Act.put, List.setIfInBounds_toArray, List.set_cons_zero, List.set_cons_succ]
  refine wpAnyS_take (i := 14) (v := ?_) (by simp only [List.getElem?_toArray, List.getElem?_cons_zero, List.getElem?_cons_succ]; rfl) (by kernel_rfl) (by kernel_rfl) (by kernel_rfl) (by intro _ _ _ h; exact h) (yieldsG_val (by rfl) ?_) ?_
  rotate_left
  · (intro w' hSw; go_simp; try (with_reducible rfl))
  simp only [Act.put, List.setIfInBounds_toArray, List.set_cons_zero, List.set_cons_succ]
  refine wpAnyS_take (i := 15) (v := ?_) (by simp only [List.getElem?_toArray, List.getElem?_cons_zero, List.getElem?_cons_succ]; rfl) (by kernel_rfl) (by kernel_rfl) (by kernel_rfl) (by intro _ _ _ h; exact h) (yieldsG_val (by rfl) ?_) ?_
  rotate_left
  · (intro w' hSw; go_simp; try (with_reducible rfl))
  simp only [Act.put, List.setIfInBounds_toArray, List.set_cons_zero, List.set_cons_succ]
  refine wpAnyS_take (i := 16) (v := ?_) (by simp only [List.getElem?_toArray, List.getElem?_cons_zero, List.getElem?_cons_succ]; rfl) (by kernel_rfl) (by kernel_rfl) (by kernel_rfl) (by intro _ _ _ h; exact h) (yieldsG_val (by rfl) ?_) ?_
  rotate_left
  · (intro w' hSw; go_simp; try (with_reducible rfl))
  simp only [Act.put, List.setIfInBounds_toArray, List.set_cons_zero, List.set_cons_succ]
  refine wpAnyS_take (i := 17) (v := ?_) (by simp only [List.getElem?_toArray, List.getElem?_cons_zero, List.getElem?_cons_succ]; rfl) (by kernel_rfl) (by kernel_rfl) (by kernel_rfl) (by intro _ _ _ h; exact h) (yieldsG_val (by rfl) ?_) ?_
  rotate_left
  · (intro w' hSw; obtain ⟨g0, g1, g2, g3, g4, g5, g6, g7⟩ := box_cells HK.out hSw; go_simp; try (with_reducible rfl))
  simp only [Act.put, List.setIfInBounds_toArray, List.set_cons_zero, List.set_cons_succ]
  refine wpAnyS_take (i := 18) (v := ?_) (by simp only [List.getElem?_toArray, List.getElem?_cons_zero, List.getElem?_cons_succ]; rfl) (by kernel_rfl) (by kernel_rfl) (by kernel_rfl) (by intro _ _ _ h; exact h) (yieldsG_val (by rfl) ?_) ?_
  rotate_left
  · (intro w' hSw; go_simp; try (with_reducible rfl))
  simp only [Act.put, List.setIfInBounds_toArray, List.set_cons_zero, List.set_cons_succ]
  refine wpAnyS_take (i := 19) (v := ?_) (by simp only [List.getElem?_toArray, List.getElem?_cons_zero, List.getElem?_cons_succ]; rfl) (by kernel_rfl) (by kernel_rfl) (by kernel_rfl) (by intro _ _ _ h; exact h) (yieldsG_val (by rfl) ?_) ?_
  rotate_left
  · (intro w' hSw; go_simp; try (with_reducible rfl))
  simp only [Act.put, List.setIfInBounds_toArray, List.set_cons_zero, List.set_cons_succ]
  refine wpAnyS_take (i := 20) (v := ?_) (by simp only [List.getElem?_toArray, List.getElem?_cons_zero, List.getElem?_cons_succ]; rfl) (by kernel_rfl) (by kernel_rfl) (by kernel_rfl) (by intro _ _ _ h; exact h) (yieldsG_val (by rfl) ?_) ?_
  rotate_left
  · (intro w' hSw; go_simp; try (with_reducible rfl))
  simp only [Act.put, List.setIfInBounds_toArray, List.set_cons_zero, List.set_cons_succ]
  refine wpAnyS_take (i := 21) (v := Value.int .i64 (iKer f s a b)) (by simp only [List.getElem?_toArray, List.getElem?_cons_zero, List.getElem?_cons_succ]; rfl) (by kernel_rfl) (by kernel_rfl) (by kernel_rfl) (by intro _ _ _ h; exact h) (yieldsG_call (f := 52) (args := #[f.val A1 c1 A2 c2 A3 c3, .int .i64 s, .int .i32 a, .int .i32 b]) (by rfl) (fun w' hSw => ?_) (fun w' hSw => (kern_any f s a b A1 c1 A2 c2 A3 c3 _ (HF.out.below hSw)).mono fun e w5 ⟨he, hb5⟩ => ⟨he, hSw.trans (hb5.mono hSw.size)⟩)) ?_
  · (go_simp; try rfl)
  simp only [Act.put, List.setIfInBounds_toArray, List.set_cons_zero, List.set_cons_succ]
  refine wpAnyS_take (i := 22) (v := ?_) (by simp only [List.getElem?_toArray, List.getElem?_cons_zero, List.getElem?_cons_succ]; rfl) (by kernel_rfl) (by kernel_rfl) (by kernel_rfl) (by intro _ _ _ h; exact h) (yieldsG_val (by rfl) ?_) ?_
  rotate_left
  · (intro w' hSw; obtain ⟨g0, g1, g2, g3, g4, g5, g6, g7⟩ := box_cells HK.out hSw; go_simp; try (with_reducible rfl))
  simp only [Act.put, List.setIfInBounds_toArray, List.set_cons_zero, List.set_cons_succ]
  refine wpAnyS_take (i := 23) (v := ?_) (by simp only [List.getElem?_toArray, List.getElem?_cons_zero, List.getElem?_cons_succ]; rfl) (by kernel_rfl) (by kernel_rfl) (by kernel_rfl) (by intro _ _ _ h; exact h) (yieldsG_val (by rfl) ?_) ?_
  rotate_left
  · (intro w' hSw; go_simp; try (with_reducible rfl))
  simp only [Act.put, List.setIfInBounds_toArray, List.set_cons_zero, List.set_cons_succ]
  refine wpAnyS_take (i := 24) (v := ?_) (by simp only [List.getElem?_toArray, List.getElem?_cons_zero, List.getElem?_cons_succ]; rfl) (by kernel_rfl) (by kernel_rfl) (by kernel_rfl) (by intro _ _ _ h; exact h) (yieldsG_val (by rfl) ?_) ?_
  rotate_left
  · (intro w' hSw; go_simp; try (with_reducible rfl))
  simp only [Act.put, List.setIfInBounds_toArray, List.set_cons_zero, List.set_cons_succ]
  refine wpAnyS_take (i := 25) (v := ?_) (by simp only [List.getElem?_toArray, List.getElem?_cons_zero, List.getElem?_cons_succ]; rfl) (by kernel_rfl) (by kernel_rfl) (by kernel_rfl) (by intro _ _ _ h; exact h) (yieldsG_val (by rfl) ?_) ?_
  rotate_left
  · (intro w' hSw; go_simp; try (with_reducible rfl))
  simp only [Act.put, List.setIfInBounds_toArray, List.set_cons_zero, List.set_cons_succ]
  refine wpAnyS_take (i := 26) (v := Value.int .i64 (iKer f s a b)) (by simp only [List.getElem?_toArray, List.getElem?_cons_zero, List.getElem?_cons_succ]; rfl) (by kernel_rfl) (by kernel_rfl) (by kernel_rfl) (by intro _ _ _ h; exact h) (yieldsG_call (f := 53) (args := #[f.val A1 c1 A2 c2 A3 c3, .int .i64 s, .int .i32 a, .int .i32 b]) (by rfl) (fun w' hSw => ?_) (fun w' hSw => (rkern_any hv f s a b A1 c1 A2 c2 A3 c3 _ (HF.out.below hSw)).mono fun e w5 ⟨he, hb5⟩ => ⟨he, hSw.trans (hb5.mono hSw.size)⟩)) ?_
  · (go_simp; try rfl)
  simp only [Act.put, List.setIfInBounds_toArray, List.set_cons_zero, List.set_cons_succ]
  refine wpAnyS_take (i := 27) (v := ?_) (by simp only [List.getElem?_toArray, List.getElem?_cons_zero, List.getElem?_cons_succ]; rfl) (by kernel_rfl) (by kernel_rfl) (by kernel_rfl) (by intro _ _ _ h; exact h) (yieldsG_val (by rfl) ?_) ?_
  rotate_left
  · (intro w' hSw; go_simp; try (with_reducible rfl))
  simp only [Act.put, List.setIfInBounds_toArray, List.set_cons_zero, List.set_cons_succ]
  refine wpAnyS_take (i := 28) (v := ?_) (by simp only [List.getElem?_toArray, List.getElem?_cons_zero, List.getElem?_cons_succ]; rfl) (by kernel_rfl) (by kernel_rfl) (by kernel_rfl) (by intro _ _ _ h; exact h) (yieldsG_val (by rfl) ?_) ?_
  rotate_left
  · (intro w' hSw; go_simp; try (with_reducible rfl))
  simp only [Act.put, List.setIfInBounds_toArray, List.set_cons_zero, List.set_cons_succ]
  refine wpAnyS_take (i := 29) (v := ?_) (by simp only [List.getElem?_toArray, List.getElem?_cons_zero, List.getElem?_cons_succ]; rfl) (by kernel_rfl) (by kernel_rfl) (by kernel_rfl) (by intro _ _ _ h; exact h) (yieldsG_val (by rfl) ?_) ?_
  rotate_left
  · (intro w' hSw; go_simp; try (with_reducible rfl))
  simp only [Act.put, List.setIfInBounds_toArray, List.set_cons_zero, List.set_cons_succ]
  refine wpAnyS_take (i := 30) (v := ?_) (by simp only [List.getElem?_toArray, List.getElem?_cons_zero, List.getElem?_cons_succ]; rfl) (by kernel_rfl) (by kernel_rfl) (by kernel_rfl) (by intro _ _ _ h; exact h) (yieldsG_val (by rfl) ?_) ?_
  rotate_left
  · (intro w' hSw; obtain ⟨x0, x1, x2, x3⟩ := lig_cells (HX.out.below hSw HX.out.lt); go_simp; try (with_reducible rfl))
  simp only [Act.put, List.setIfInBounds_toArray, List.set_cons_zero, List.set_cons_succ]
  refine wpAnyS_take (i := 31) (v := ?_) (by simp only [List.getElem?_toArray, List.getElem?_cons_zero, List.getElem?_cons_succ]; rfl) (by kernel_rfl) (by kernel_rfl) (by kernel_rfl) (by intro _ _ _ h; exact h) (yieldsG_val (by rfl) ?_) ?_
  rotate_left
  · (intro w' hSw; obtain ⟨y0, y1, y2, y3⟩ := lig_cells (HY.out.below hSw HY.out.lt); go_simp; try (with_reducible rfl))
  simp only [Act.put, List.setIfInBounds_toArray, List.set_cons_zero, List.set_cons_succ]
  refine wpAnyS_take (i := 32) (v := ?_) (by simp only [List.getElem?_toArray, List.getElem?_cons_zero, List.getElem?_cons_succ]; rfl) (by kernel_rfl) (by kernel_rfl) (by kernel_rfl) (by intro _ _ _ h; exact h) (yieldsG_val (by rfl) ?_) ?_
  rotate_left
  · (intro w' hSw; go_simp; try (with_reducible rfl))
  simp only [Act.put, List.setIfInBounds_toArray, List.set_cons_zero, List.set_cons_succ]
  refine wpAnyS_take (i := 33) (v := ?_) (by simp only [List.getElem?_toArray, List.getElem?_cons_zero, List.getElem?_cons_succ]; rfl) (by kernel_rfl) (by kernel_rfl) (by kernel_rfl) (by intro _ _ _ h; exact h) (yieldsG_val (by rfl) ?_) ?_
  rotate_left
  · (intro w' hSw; go_simp; try (with_reducible rfl))
  simp only [Act.put, List.setIfInBounds_toArray, List.set_cons_zero, List.set_cons_succ]
  refine wpAnyS_take (i := 34) (v := ?_) (by simp only [List.getElem?_toArray, List.getElem?_cons_zero, List.getElem?_cons_succ]; rfl) (by kernel_rfl) (by kernel_rfl) (by kernel_rfl) (by intro _ _ _ h; exact h) (yieldsG_val (by rfl) ?_) ?_
  rotate_left
  · (intro w' hSw; go_simp; try (with_reducible rfl))
  simp only [Act.put, List.setIfInBounds_toArray, List.set_cons_zero, List.set_cons_succ]
  refine wpAnyS_take (i := 35) (v := ?_) (by simp only [List.getElem?_toArray, List.getElem?_cons_zero, List.getElem?_cons_succ]; rfl) (by kernel_rfl) (by kernel_rfl) (by kernel_rfl) (by intro _ _ _ h; exact h) (yieldsG_val (by rfl) ?_) ?_
  rotate_left
  · (intro w' hSw; go_simp; try (with_reducible rfl))
  simp only [Act.put, List.setIfInBounds_toArray, List.set_cons_zero, List.set_cons_succ]
  refine wpAnyS_take (i := 36) (v := ?_) (by simp only [List.getElem?_toArray, List.getElem?_cons_zero, List.getElem?_cons_succ]; rfl) (by kernel_rfl) (by kernel_rfl) (by kernel_rfl) (by intro _ _ _ h; exact h) (yieldsG_val (by rfl) ?_) ?_
  rotate_left
  · (intro w' hSw; go_simp; try (with_reducible rfl))
  simp only [Act.put, List.setIfInBounds_toArray, List.set_cons_zero, List.set_cons_succ]
  refine wpAnyS_take (i := 37) (v := ?_) (by simp only [List.getElem?_toArray, List.getElem?_cons_zero, List.getElem?_cons_succ]; rfl) (by kernel_rfl) (by kernel_rfl) (by kernel_rfl) (by intro _ _ _ h; exact h) (yieldsG_val (by rfl) ?_) ?_
  rotate_left
  · (intro w' hSw; go_simp; try (with_reducible rfl))
  simp only [Act.put, List.setIfInBounds_toArray, List.set_cons_zero, List.set_cons_succ]
  refine wpAnyS_take (i := 38) (v := ?_) (by simp only [List.getElem?_toArray, List.getElem?_cons_zero, List.getElem?_cons_succ]; rfl) (by kernel_rfl) (by kernel_rfl) (by kernel_rfl) (by intro _ _ _ h; exact h) (yieldsG_val (by rfl) ?_) ?_
  rotate_left
  · (intro w' hSw; go_simp; try (with_reducible rfl))
  simp only [Act.put, List.setIfInBounds_toArray, List.set_cons_zero, List.set_cons_succ]
  refine wpAnyS_take (i := 39) (v := ?_) (by simp only [List.getElem?_toArray, List.getElem?_cons_zero, List.getElem?_cons_succ]; rfl) (by kernel_rfl) (by kernel_rfl) (by kernel_rfl) (by intro _ _ _ h; exact h) (yieldsG_val (by rfl) ?_) ?_
  rotate_left
  · (intro w' hSw; go_simp; try (with_reducible rfl))
  simp only [Act.put, List.setIfInBounds_toArray, List.set_cons_zero, List.set_cons_succ]
  refine wpAnyS_take (i := 40) (v := ?_) (by simp only [List.getElem?_toArray, List.getElem?_cons_zero, List.getElem?_cons_succ]; rfl) (by kernel_rfl) (by kernel_rfl) (by kernel_rfl) (by intro _ _ _ h; exact h) (yieldsG_val (by rfl) ?_) ?_
  rotate_left
  · (intro w' hSw; obtain ⟨g0, g1, g2, g3, g4, g5, g6, g7⟩ := box_cells HK.out hSw; go_simp; try (with_reducible rfl))
  simp only [Act.put, List.setIfInBounds_toArray, List.set_cons_zero, List.set_cons_succ]
  refine wpAnyS_take (i := 41) (v := ?_) (by simp only [List.getElem?_toArray, List.getElem?_cons_zero, List.getElem?_cons_succ]; rfl) (by kernel_rfl) (by kernel_rfl) (by kernel_rfl) (by intro _ _ _ h; exact h) (yieldsG_val (by rfl) ?_) ?_
  rotate_left
  · (intro w' hSw; go_simp; try (with_reducible rfl))
  simp only [Act.put, List.setIfInBounds_toArray, List.set_cons_zero, List.set_cons_succ]
  refine wpAnyS_take (i := 42) (v := Value.int .i64 (iAsc f s)) (by simp only [List.getElem?_toArray, List.getElem?_cons_zero, List.getElem?_cons_succ]; rfl) (by kernel_rfl) (by kernel_rfl) (by kernel_rfl) (by intro _ _ _ h; exact h) (yieldsG_call (f := 28) (args := #[f.val A1 c1 A2 c2 A3 c3, .int .i64 s]) (by rfl) (fun w' hSw => ?_) (fun w' hSw => (ascent_any f s A1 c1 A2 c2 A3 c3 _ (HF.out.below hSw)).mono fun e w5 ⟨he, hb5⟩ => ⟨he, hSw.trans (hb5.mono hSw.size)⟩)) ?_
  · (go_simp; try rfl)
  simp only [Act.put, List.setIfInBounds_toArray, List.set_cons_zero, List.set_cons_succ]
  refine wpAnyS_take (i := 43) (v := ?_) (by simp only [List.getElem?_toArray, List.getElem?_cons_zero, List.getElem?_cons_succ]; rfl) (by kernel_rfl) (by kernel_rfl) (by kernel_rfl) (by intro _ _ _ h; exact h) (yieldsG_val (by rfl) ?_) ?_
  rotate_left
  · (intro w' hSw; obtain ⟨g0, g1, g2, g3, g4, g5, g6, g7⟩ := box_cells HK.out hSw; go_simp; try (with_reducible rfl))
  simp only [Act.put, List.setIfInBounds_toArray, List.set_cons_zero, List.set_cons_succ]
  refine wpAnyS_take (i := 44) (v := ?_) (by simp only [List.getElem?_toArray, List.getElem?_cons_zero, List.getElem?_cons_succ]; rfl) (by kernel_rfl) (by kernel_rfl) (by kernel_rfl) (by intro _ _ _ h; exact h) (yieldsG_val (by rfl) ?_) ?_
  rotate_left
  · (intro w' hSw; go_simp; try (with_reducible rfl))
  simp only [Act.put, List.setIfInBounds_toArray, List.set_cons_zero, List.set_cons_succ]
  refine wpAnyS_take (i := 45) (v := Value.int .i64 (iAsc f s)) (by simp only [List.getElem?_toArray, List.getElem?_cons_zero, List.getElem?_cons_succ]; rfl) (by kernel_rfl) (by kernel_rfl) (by kernel_rfl) (by intro _ _ _ h; exact h) (yieldsG_call (f := 54) (args := #[f.val A1 c1 A2 c2 A3 c3, .int .i64 s]) (by rfl) (fun w' hSw => ?_) (fun w' hSw => (rascent_any hv f s A1 c1 A2 c2 A3 c3 _ (HF.out.below hSw)).mono fun e w5 ⟨he, hb5⟩ => ⟨he, hSw.trans (hb5.mono hSw.size)⟩)) ?_
  · (go_simp; try rfl)
  simp only [Act.put, List.setIfInBounds_toArray, List.set_cons_zero, List.set_cons_succ]
  refine wpAnyS_take (i := 46) (v := ?_) (by simp only [List.getElem?_toArray, List.getElem?_cons_zero, List.getElem?_cons_succ]; rfl) (by kernel_rfl) (by kernel_rfl) (by kernel_rfl) (by intro _ _ _ h; exact h) (yieldsG_val (by rfl) ?_) ?_
  rotate_left
  · (intro w' hSw; go_simp; try (with_reducible rfl))
  simp only [Act.put, List.setIfInBounds_toArray, List.set_cons_zero, List.set_cons_succ]
  refine wpAnyS_take (i := 47) (v := ?_) (by simp only [List.getElem?_toArray, List.getElem?_cons_zero, List.getElem?_cons_succ]; rfl) (by kernel_rfl) (by kernel_rfl) (by kernel_rfl) (by intro _ _ _ h; exact h) (yieldsG_val (by rfl) ?_) ?_
  rotate_left
  · (intro w' hSw; go_simp; try (with_reducible rfl))
  simp only [Act.put, List.setIfInBounds_toArray, List.set_cons_zero, List.set_cons_succ]
  refine wpAnyS_take (i := 48) (v := ?_) (by simp only [List.getElem?_toArray, List.getElem?_cons_zero, List.getElem?_cons_succ]; rfl) (by kernel_rfl) (by kernel_rfl) (by kernel_rfl) (by intro _ _ _ h; exact h) (yieldsG_val (by rfl) ?_) ?_
  rotate_left
  · (intro w' hSw; go_simp; try (with_reducible rfl))
  simp only [Act.put, List.setIfInBounds_toArray, List.set_cons_zero, List.set_cons_succ]
  refine wpAnyS_take (i := 49) (v := ?_) (by simp only [List.getElem?_toArray, List.getElem?_cons_zero, List.getElem?_cons_succ]; rfl) (by kernel_rfl) (by kernel_rfl) (by kernel_rfl) (by intro _ _ _ h; exact h) (yieldsG_val (by rfl) ?_) ?_
  rotate_left
  · (intro w' hSw; obtain ⟨g0, g1, g2, g3, g4, g5, g6, g7⟩ := box_cells HK.out hSw; go_simp; try (with_reducible rfl))
  simp only [Act.put, List.setIfInBounds_toArray, List.set_cons_zero, List.set_cons_succ]
  refine wpAnyS_take (i := 50) (v := ?_) (by simp only [List.getElem?_toArray, List.getElem?_cons_zero, List.getElem?_cons_succ]; rfl) (by kernel_rfl) (by kernel_rfl) (by kernel_rfl) (by intro _ _ _ h; exact h) (yieldsG_val (by rfl) ?_) ?_
  rotate_left
  · (intro w' hSw; go_simp; try (with_reducible rfl))
  simp only [Act.put, List.setIfInBounds_toArray, List.set_cons_zero, List.set_cons_succ]
  refine wpAnyS_take (i := 51) (v := Value.int .i64 (iDes f s)) (by simp only [List.getElem?_toArray, List.getElem?_cons_zero, List.getElem?_cons_succ]; rfl) (by kernel_rfl) (by kernel_rfl) (by kernel_rfl) (by intro _ _ _ h; exact h) (yieldsG_call (f := 29) (args := #[f.val A1 c1 A2 c2 A3 c3, .int .i64 s]) (by rfl) (fun w' hSw => ?_) (fun w' hSw => (descent_any f s A1 c1 A2 c2 A3 c3 _ (HF.out.below hSw)).mono fun e w5 ⟨he, hb5⟩ => ⟨he, hSw.trans (hb5.mono hSw.size)⟩)) ?_
  · (go_simp; try rfl)
  simp only [Act.put, List.setIfInBounds_toArray, List.set_cons_zero, List.set_cons_succ]
  refine wpAnyS_take (i := 52) (v := ?_) (by simp only [List.getElem?_toArray, List.getElem?_cons_zero, List.getElem?_cons_succ]; rfl) (by kernel_rfl) (by kernel_rfl) (by kernel_rfl) (by intro _ _ _ h; exact h) (yieldsG_val (by rfl) ?_) ?_
  rotate_left
  · (intro w' hSw; obtain ⟨g0, g1, g2, g3, g4, g5, g6, g7⟩ := box_cells HK.out hSw; go_simp; try (with_reducible rfl))
  simp only [Act.put, List.setIfInBounds_toArray, List.set_cons_zero, List.set_cons_succ]
  refine wpAnyS_take (i := 53) (v := ?_) (by simp only [List.getElem?_toArray, List.getElem?_cons_zero, List.getElem?_cons_succ]; rfl) (by kernel_rfl) (by kernel_rfl) (by kernel_rfl) (by intro _ _ _ h; exact h) (yieldsG_val (by rfl) ?_) ?_
  rotate_left
  · (intro w' hSw; go_simp; try (with_reducible rfl))
  simp only [Act.put, List.setIfInBounds_toArray, List.set_cons_zero, List.set_cons_succ]
  refine wpAnyS_take (i := 54) (v := Value.int .i64 (iDes f s)) (by simp only [List.getElem?_toArray, List.getElem?_cons_zero, List.getElem?_cons_succ]; rfl) (by kernel_rfl) (by kernel_rfl) (by kernel_rfl) (by intro _ _ _ h; exact h) (yieldsG_call (f := 55) (args := #[f.val A1 c1 A2 c2 A3 c3, .int .i64 s]) (by rfl) (fun w' hSw => ?_) (fun w' hSw => (rdescent_any hv f s A1 c1 A2 c2 A3 c3 _ (HF.out.below hSw)).mono fun e w5 ⟨he, hb5⟩ => ⟨he, hSw.trans (hb5.mono hSw.size)⟩)) ?_
  · (go_simp; try rfl)
  simp only [Act.put, List.setIfInBounds_toArray, List.set_cons_zero, List.set_cons_succ]
  refine wpAnyS_take (i := 55) (v := ?_) (by simp only [List.getElem?_toArray, List.getElem?_cons_zero, List.getElem?_cons_succ]; rfl) (by kernel_rfl) (by kernel_rfl) (by kernel_rfl) (by intro _ _ _ h; exact h) (yieldsG_val (by rfl) ?_) ?_
  rotate_left
  · (intro w' hSw; go_simp; try (with_reducible rfl))
  simp only [Act.put, List.setIfInBounds_toArray, List.set_cons_zero, List.set_cons_succ]
  refine wpAnyS_take (i := 56) (v := ?_) (by simp only [List.getElem?_toArray, List.getElem?_cons_zero, List.getElem?_cons_succ]; rfl) (by kernel_rfl) (by kernel_rfl) (by kernel_rfl) (by intro _ _ _ h; exact h) (yieldsG_val (by rfl) ?_) ?_
  rotate_left
  · (intro w' hSw; go_simp; try (with_reducible rfl))
  simp only [Act.put, List.setIfInBounds_toArray, List.set_cons_zero, List.set_cons_succ]
  refine wpAnyS_take (i := 57) (v := ?_) (by simp only [List.getElem?_toArray, List.getElem?_cons_zero, List.getElem?_cons_succ]; rfl) (by kernel_rfl) (by kernel_rfl) (by kernel_rfl) (by intro _ _ _ h; exact h) (yieldsG_val (by rfl) ?_) ?_
  rotate_left
  · (intro w' hSw; go_simp; try (with_reducible rfl))
  simp only [Act.put, List.setIfInBounds_toArray, List.set_cons_zero, List.set_cons_succ]
  refine wpAnyS_take (i := 58) (v := ?_) (by simp only [List.getElem?_toArray, List.getElem?_cons_zero, List.getElem?_cons_succ]; rfl) (by kernel_rfl) (by kernel_rfl) (by kernel_rfl) (by intro _ _ _ h; exact h) (yieldsG_val (by rfl) ?_) ?_
  rotate_left
  · (intro w' hSw; obtain ⟨g0, g1, g2, g3, g4, g5, g6, g7⟩ := box_cells HK.out hSw; go_simp; try (with_reducible rfl))
  simp only [Act.put, List.setIfInBounds_toArray, List.set_cons_zero, List.set_cons_succ]
  refine wpAnyS_take (i := 59) (v := ?_) (by simp only [List.getElem?_toArray, List.getElem?_cons_zero, List.getElem?_cons_succ]; rfl) (by kernel_rfl) (by kernel_rfl) (by kernel_rfl) (by intro _ _ _ h; exact h) (yieldsG_val (by rfl) ?_) ?_
  rotate_left
  · (intro w' hSw; go_simp; try (with_reducible rfl))
  simp only [Act.put, List.setIfInBounds_toArray, List.set_cons_zero, List.set_cons_succ]
  refine wpAnyS_take (i := 60) (v := Value.int .i64 (iHei f s)) (by simp only [List.getElem?_toArray, List.getElem?_cons_zero, List.getElem?_cons_succ]; rfl) (by kernel_rfl) (by kernel_rfl) (by kernel_rfl) (by intro _ _ _ h; exact h) (yieldsG_call (f := 30) (args := #[f.val A1 c1 A2 c2 A3 c3, .int .i64 s]) (by rfl) (fun w' hSw => ?_) (fun w' hSw => (height_any f s A1 c1 A2 c2 A3 c3 _ (HF.out.below hSw)).mono fun e w5 ⟨he, hb5⟩ => ⟨he, hSw.trans (hb5.mono hSw.size)⟩)) ?_
  · (go_simp; try rfl)
  simp only [Act.put, List.setIfInBounds_toArray, List.set_cons_zero, List.set_cons_succ]
  refine wpAnyS_take (i := 61) (v := ?_) (by simp only [List.getElem?_toArray, List.getElem?_cons_zero, List.getElem?_cons_succ]; rfl) (by kernel_rfl) (by kernel_rfl) (by kernel_rfl) (by intro _ _ _ h; exact h) (yieldsG_val (by rfl) ?_) ?_
  rotate_left
  · (intro w' hSw; obtain ⟨g0, g1, g2, g3, g4, g5, g6, g7⟩ := box_cells HK.out hSw; go_simp; try (with_reducible rfl))
  simp only [Act.put, List.setIfInBounds_toArray, List.set_cons_zero, List.set_cons_succ]
  refine wpAnyS_take (i := 62) (v := ?_) (by simp only [List.getElem?_toArray, List.getElem?_cons_zero, List.getElem?_cons_succ]; rfl) (by kernel_rfl) (by kernel_rfl) (by kernel_rfl) (by intro _ _ _ h; exact h) (yieldsG_val (by rfl) ?_) ?_
  rotate_left
  · (intro w' hSw; go_simp; try (with_reducible rfl))
  simp only [Act.put, List.setIfInBounds_toArray, List.set_cons_zero, List.set_cons_succ]
  refine wpAnyS_take (i := 63) (v := Value.int .i64 (iHei f s)) (by simp only [List.getElem?_toArray, List.getElem?_cons_zero, List.getElem?_cons_succ]; rfl) (by kernel_rfl) (by kernel_rfl) (by kernel_rfl) (by intro _ _ _ h; exact h) (yieldsG_call (f := 56) (args := #[f.val A1 c1 A2 c2 A3 c3, .int .i64 s]) (by rfl) (fun w' hSw => ?_) (fun w' hSw => (rheight_any hv f s A1 c1 A2 c2 A3 c3 _ (HF.out.below hSw)).mono fun e w5 ⟨he, hb5⟩ => ⟨he, hSw.trans (hb5.mono hSw.size)⟩)) ?_
  · (go_simp; try rfl)
  simp only [Act.put, List.setIfInBounds_toArray, List.set_cons_zero, List.set_cons_succ]
  refine wpAnyS_take (i := 64) (v := ?_) (by simp only [List.getElem?_toArray, List.getElem?_cons_zero, List.getElem?_cons_succ]; rfl) (by kernel_rfl) (by kernel_rfl) (by kernel_rfl) (by intro _ _ _ h; exact h) (yieldsG_val (by rfl) ?_) ?_
  rotate_left
  · (intro w' hSw; go_simp; try (with_reducible rfl))
  simp only [Act.put, List.setIfInBounds_toArray, List.set_cons_zero, List.set_cons_succ]
  refine wpAnyS_take (i := 65) (v := ?_) (by simp only [List.getElem?_toArray, List.getElem?_cons_zero, List.getElem?_cons_succ]; rfl) (by kernel_rfl) (by kernel_rfl) (by kernel_rfl) (by intro _ _ _ h; exact h) (yieldsG_val (by rfl) ?_) ?_
  rotate_left
  · (intro w' hSw; go_simp; try (with_reducible rfl))
  simp only [Act.put, List.setIfInBounds_toArray, List.set_cons_zero, List.set_cons_succ]
  refine wpAnyS_take (i := 66) (v := ?_) (by simp only [List.getElem?_toArray, List.getElem?_cons_zero, List.getElem?_cons_succ]; rfl) (by kernel_rfl) (by kernel_rfl) (by kernel_rfl) (by intro _ _ _ h; exact h) (yieldsG_val (by rfl) ?_) ?_
  rotate_left
  · (intro w' hSw; go_simp; try (with_reducible rfl))
  simp only [Act.put, List.setIfInBounds_toArray, List.set_cons_zero, List.set_cons_succ]
  refine wpAnyS_done (by kernel_rfl) (fun w' hSw => ?_) _
  go_wp2
  go_ret
  exact ⟨rfl, HB.out.trans (hSw.mono HB.out.size)⟩
end Go.Proofs.Ytagokefbbdlpcaa
