/- The implementation's find, all ways. -/
import Derived.Test.YtagokefbbdlpcaaA5
import Derived.Deep.CutBlock
import Derived.Outline
namespace Go.Proofs.Ytagokefbbdlpcaa
set_option linter.unusedVariables false
set_option linter.unusedSimpArgs false
open Go.RowKit

def ascB : List TRow → Bool
  | [] => true
  | [_] => true
  | x :: y :: t => decide (x.l ≤ y.l) && ascB (y :: t)
theorem asc_of (T : List TRow) (h : ascB T = true) : Asc T := by
  induction T with
  | nil => intro i j x y _ hx; simp at hx
  | cons x T ih =>
    have hT : ascB T = true := by
      cases T with
      | nil => rfl
      | cons y t => simp only [ascB, Bool.and_eq_true] at h; exact h.2
    have hAll : ∀ (j : Nat) (y : TRow), T[j]? = some y → x.l ≤ y.l := by
      intro j y hy
      cases T with
      | nil => simp at hy
      | cons z t =>
        simp only [ascB, Bool.and_eq_true, decide_eq_true_eq] at h
        have := ih hT 0 j z y (by omega) (by simp) hy
        omega
    intro i j u v hij hu hv
    match i, j with
    | 0, 0 => rw [hu] at hv; injection hv with hv; subst hv; exact Int.le_refl _
    | 0, j + 1 => simp at hu; subst hu; exact hAll j v (by simpa using hv)
    | i + 1, 0 => omega
    | i + 1, j + 1 => exact ih hT i j u v (by omega) (by simpa using hu) (by simpa using hv)
theorem asc1 : Asc T1 := asc_of _ (by kernel_rfl)
theorem asc2 : Asc T2 := asc_of _ (by kernel_rfl)
theorem asc3 : Asc T3 := asc_of _ (by kernel_rfl)
theorem asc4 : Asc T4 := asc_of _ (by kernel_rfl)

theorem slice77 (H : Nat) (W : World) : (Instr.sliceAt 77 (.pointer (some ⟨H, 0, none⟩)) none none none).run Try.prog W = .ok (.slice (some ⟨H, 0, none⟩) 44 44) W := by
  simp [Instr.sliceAt, go_sem]
theorem slice81 (H : Nat) (W : World) : (Instr.sliceAt 81 (.pointer (some ⟨H, 0, none⟩)) none none none).run Try.prog W = .ok (.slice (some ⟨H, 0, none⟩) 41 41) W := by
  simp [Instr.sliceAt, go_sem]

theorem info_T1 : (Try.prog.info? 77).map (fun i => (i.zero, i.size)) = some (some (.agg (madeCells TRow.zero.cells 308)), (tcells T1).length) := by kernel_rfl
theorem size_T1 : (madeCells TRow.zero.cells 308).size = (tcells T1).length := by kernel_rfl
theorem one_T1 : (tcells T1).toArray.all (·.oneCell') = true := by kernel_rfl
theorem info_T2 : (Try.prog.info? 77).map (fun i => (i.zero, i.size)) = some (some (.agg (madeCells TRow.zero.cells 308)), (tcells T2).length) := by kernel_rfl
theorem size_T2 : (madeCells TRow.zero.cells 308).size = (tcells T2).length := by kernel_rfl
theorem one_T2 : (tcells T2).toArray.all (·.oneCell') = true := by kernel_rfl
theorem info_T3 : (Try.prog.info? 77).map (fun i => (i.zero, i.size)) = some (some (.agg (madeCells TRow.zero.cells 308)), (tcells T3).length) := by kernel_rfl
theorem size_T3 : (madeCells TRow.zero.cells 308).size = (tcells T3).length := by kernel_rfl
theorem one_T3 : (tcells T3).toArray.all (·.oneCell') = true := by kernel_rfl
theorem info_T4 : (Try.prog.info? 81).map (fun i => (i.zero, i.size)) = some (some (.agg (madeCells TRow.zero.cells 287)), (tcells T4).length) := by kernel_rfl
theorem size_T4 : (madeCells TRow.zero.cells 287).size = (tcells T4).length := by kernel_rfl
theorem one_T4 : (tcells T4).toArray.all (·.oneCell') = true := by kernel_rfl
set_option maxHeartbeats 1000000 in
theorem find_t1 (r : Int) (w : World) (h : r ≤ 161) : Calls Try.prog 36 #[.int .i32 r] w (Found w (look T1 r)) := by
  have hd : decide (44032 ≤ r) = false := by simp; omega
  have hd2 : decide (r ≤ 161) = true := by simpa using h
  go_enter Try.func36, Try.ntmps36
  go_upto_region 6 with fail
  rename_i K hK
  change (tailA 6 3 32 77 59 "char.go:233").wp Try.prog _ _ _
  refine tail_wp 6 3 32 77 59 44 "char.go:233" "char.go:234" T1 r (madeCells TRow.zero.cells 308) 56 w.heap.size _ _ _ _ _ _ _ _ _ K _ (fun a w h => hK a w h) Try.call59 any_T1 len_T1 (by omega) (by omega) asc1 info_T1 size_T1 one_T1 slice77 rfl rfl (by omega) (by omega) (by simp) (Blk.new w 56 _) fun a' w' k hb hbl => ?_
  exact res36 a' w' w.heap.size _ _ ((k.slots 2 (by omega)).trans rfl) k.defers hb ⟨rfl, ((Below.refl _ _).alloc (Nat.le_refl _) _).trans hbl⟩

set_option maxHeartbeats 1000000 in
theorem find_t2 (r : Int) (w : World) (h0 : 161 < r) (h : r ≤ 1642) : Calls Try.prog 36 #[.int .i32 r] w (Found w (look T2 r)) := by
  have hd : decide (44032 ≤ r) = false := by simp; omega
  have hd2 : decide (r ≤ 161) = false := by simpa using h0
  have hd3 : decide (r ≤ 1642) = true := by simpa using h
  go_enter Try.func36, Try.ntmps36
  go_upto_region 9 with fail
  rename_i K hK
  change (tailA 9 4 39 77 61 "char.go:236").wp Try.prog _ _ _
  refine tail_wp 9 4 39 77 61 44 "char.go:236" "char.go:237" T2 r (madeCells TRow.zero.cells 308) 56 w.heap.size _ _ _ _ _ _ _ _ _ K _ (fun a w h => hK a w h) Try.call61 any_T2 len_T2 (by omega) (by omega) asc2 info_T2 size_T2 one_T2 slice77 rfl rfl (by omega) (by omega) (by simp) (Blk.new w 56 _) fun a' w' k hb hbl => ?_
  exact res36 a' w' w.heap.size _ _ ((k.slots 2 (by omega)).trans rfl) k.defers hb ⟨rfl, ((Below.refl _ _).alloc (Nat.le_refl _) _).trans hbl⟩

set_option maxHeartbeats 1000000 in
theorem find_t3 (r : Int) (w : World) (h0 : 1642 < r) (h : r ≤ 8237) : Calls Try.prog 36 #[.int .i32 r] w (Found w (look T3 r)) := by
  have hd : decide (44032 ≤ r) = false := by simp; omega
  have hd2 : decide (r ≤ 161) = false := by simp; omega
  have hd3 : decide (r ≤ 1642) = false := by simpa using h0
  have hd4 : decide (r ≤ 8237) = true := by simpa using h
  go_enter Try.func36, Try.ntmps36
  go_upto_region 12 with fail
  rename_i K hK
  change (tailA 12 5 46 77 62 "char.go:239").wp Try.prog _ _ _
  refine tail_wp 12 5 46 77 62 44 "char.go:239" "char.go:240" T3 r (madeCells TRow.zero.cells 308) 56 w.heap.size _ _ _ _ _ _ _ _ _ K _ (fun a w h => hK a w h) Try.call62 any_T3 len_T3 (by omega) (by omega) asc3 info_T3 size_T3 one_T3 slice77 rfl rfl (by omega) (by omega) (by simp) (Blk.new w 56 _) fun a' w' k hb hbl => ?_
  exact res36 a' w' w.heap.size _ _ ((k.slots 2 (by omega)).trans rfl) k.defers hb ⟨rfl, ((Below.refl _ _).alloc (Nat.le_refl _) _).trans hbl⟩

set_option maxHeartbeats 1000000 in
theorem find_t4 (r : Int) (w : World) (h0 : 8237 < r) (h : r < 44032) : Calls Try.prog 36 #[.int .i32 r] w (Found w (look T4 r)) := by
  have hd : decide (44032 ≤ r) = false := by simp; omega
  have hd2 : decide (r ≤ 161) = false := by simp; omega
  have hd3 : decide (r ≤ 1642) = false := by simp; omega
  have hd4 : decide (r ≤ 8237) = false := by simpa using h0
  go_enter Try.func36, Try.ntmps36
  go_upto_region 14 with fail
  rename_i K hK
  change (tailA 14 6 50 81 63 "char.go:242").wp Try.prog _ _ _
  refine tail_wp 14 6 50 81 63 41 "char.go:242" "char.go:243" T4 r (madeCells TRow.zero.cells 287) 56 w.heap.size _ _ _ _ _ _ _ _ _ K _ (fun a w h => hK a w h) Try.call63 any_T4 len_T4 (by omega) (by omega) asc4 info_T4 size_T4 one_T4 slice81 rfl rfl (by omega) (by omega) (by simp) (Blk.new w 56 _) fun a' w' k hb hbl => ?_
  exact res36 a' w' w.heap.size _ _ ((k.slots 2 (by omega)).trans rfl) k.defers hb ⟨rfl, ((Below.refl _ _).alloc (Nat.le_refl _) _).trans hbl⟩

end Go.Proofs.Ytagokefbbdlpcaa
