/- The implementation's find; the five classes of both. -/
import Derived.Test.YtagokefbbdlpcaaP1
namespace Go.Proofs.Ytagokefbbdlpcaa
set_option linter.unusedVariables false
set_option linter.unusedSimpArgs false
open Go.RowKit

set_option maxHeartbeats 1000000 in
theorem find_h0 (r : Int) (w : World) (h1 : 44032 ≤ r) (h2 : r ≤ 55203) (h3 : (r - 44032) % 28 = 0) : Calls Try.prog 36 #[.int .i32 r] w (Found w ⟨0, 0, 12, 3, 18, 0, 0⟩) := by
  have hb : ((r - 44032) % 28 == 0) = true := by simpa using h3
  clear h3
  go_enter Try.func36, Try.ntmps36
  go_wp2
  exact res36 _ _ w.heap.size ⟨0, 0, 12, 3, 18, 0, 0⟩ _ rfl rfl (Blk.new w 56 _) ⟨rfl, (Below.refl _ _).alloc (Nat.le_refl _) _⟩

set_option maxHeartbeats 1000000 in
theorem find_h1 (r : Int) (w : World) (h1 : 44032 ≤ r) (h2 : r ≤ 55203) (h3 : ¬ (r - 44032) % 28 = 0) : Calls Try.prog 36 #[.int .i32 r] w (Found w ⟨0, 0, 13, 3, 18, 0, 0⟩) := by
  have hb : ((r - 44032) % 28 == 0) = false := by simpa using h3
  go_enter Try.func36, Try.ntmps36
  go_wp2
  exact res36 _ _ w.heap.size ⟨0, 0, 13, 3, 18, 0, 0⟩ _ rfl rfl (Blk.new w 56 _) ⟨rfl, (Below.refl _ _).alloc (Nat.le_refl _) _⟩

set_option maxHeartbeats 1000000 in
theorem find_t5 (r : Int) (w : World) (h : 55203 < r) : Calls Try.prog 36 #[.int .i32 r] w (Found w (look T4 r)) := by
  have hd : decide (44032 ≤ r) = true := by simp; omega
  have hd1 : decide (r ≤ 55203) = false := by simpa using h
  have hd2 : decide (r ≤ 161) = false := by simp; omega
  have hd3 : decide (r ≤ 1642) = false := by simp; omega
  have hd4 : decide (r ≤ 8237) = false := by simp; omega
  go_enter Try.func36, Try.ntmps36
  go_upto_region 14 with fail
  rename_i K hK
  change (tailA 14 6 50 81 63 "char.go:242").wp Try.prog _ _ _
  refine tail_wp 14 6 50 81 63 41 "char.go:242" "char.go:243" T4 r (madeCells TRow.zero.cells 287) 56 w.heap.size _ _ _ _ _ _ _ _ _ K _ (fun a w h => hK a w h) Try.call63 any_T4 len_T4 (by omega) (by omega) asc4 info_T4 size_T4 one_T4 slice81 rfl rfl (by omega) (by omega) (by simp) (Blk.new w 56 _) fun a' w' k hb hbl => ?_
  exact res36 a' w' w.heap.size _ _ ((k.slots 2 (by omega)).trans rfl) k.defers hb ⟨rfl, ((Below.refl _ _).alloc (Nat.le_refl _) _).trans hbl⟩

theorem find_any (r : Int) (w : World) : Calls Try.prog 36 #[.int .i32 r] w (Found w (ifind r)) := by
  unfold ifind
  by_cases h : 44032 ≤ r ∧ r ≤ 55203
  · rw [if_pos h]
    by_cases h3 : (r - 44032) % 28 = 0
    · rw [if_pos h3]; exact find_h0 r w h.1 h.2 h3
    · rw [if_neg h3]; exact find_h1 r w h.1 h.2 h3
  · rw [if_neg h]
    by_cases h1 : r ≤ 161
    · rw [if_pos h1]; exact find_t1 r w h1
    · rw [if_neg h1]
      by_cases h2 : r ≤ 1642
      · rw [if_pos h2]; exact find_t2 r w (by omega) h2
      · rw [if_neg h2]
        by_cases h3 : r ≤ 8237
        · rw [if_pos h3]; exact find_t3 r w (by omega) h3
        · rw [if_neg h3]
          by_cases h4 : r < 44032
          · exact find_t4 r w (by omega) h4
          · exact find_t5 r w (by omega)

end Go.Proofs.Ytagokefbbdlpcaa
