/- Without of the reference walked. -/
import Derived.Test.YtkdgeahfmmfopaaE2
namespace Go.Proofs.Ytkdgeahfmmfopaa
set_option linter.unusedVariables false
set_option linter.unusedSimpArgs false
open Go.RowKit

set_option maxRecDepth 100000 in
set_option maxHeartbeats 400000 in
theorem without_any (l : List Con) (n c i : Nat) (A : Option Addr) (w : World) (hL : SlR w 5 n (.slice A n c) (conCells l)) (hl : l.length = n) (hn : n ≤ 1000) (hi : i < n) :
    Calls Try.prog 21 #[.slice A n c, .int .i64 (i : Int)] w (OwnOf 40 5 (n - 1) (conCells (l.eraseIdx i)) w) := by
  obtain ⟨i0, hi0, hz0, hz1, hz2⟩ := info_parts con_info
  obtain ⟨A', c', hv, hle, hm, hnil, hr⟩ := hL
  injection hv with hv1 hv2 hv3
  subst hv1 hv3
  obtain ⟨b, off, rfl, hb, _⟩ := hr.plain (by omega) (by omega)
  have hm' : (c : Int) ≤ 9223372036854775807 := by unfold maxLen at hm; omega
  have hr1 : Reads w w.heap.size 5 (some ⟨b, off, none⟩) i (conCells (l.take i)) := by rw [← conCells_take]; exact hr.take i (by omega)
  have hr2 := hr.cut (k := i + 1) (cap := c) (by omega) hle
  rw [conCells_drop] at hr2
  have hn1 : i + (n - (i + 1)) = n - 1 := by omega
  have hj0 : (0 : Int) ≤ (i : Int) + 1 := by omega
  have hj1 : (i : Int) + 1 ≤ (n : Int) := by omega
  have hic : i ≤ c := by omega
  have hic' : (i : Int) ≤ (c : Int) := by omega
  have hic1 : i + 1 ≤ c := by omega
  have hic2 : i + 1 ≤ n := by omega
  have hnc : (n : Int) ≤ (c : Int) := by omega
  have hwrap : IntKind.i64.wrap ((i : Int) + 1) = (i : Int) + 1 := IntWalk.i64_in _ (by omega)
  have HR1 := Lib.hid hr1
  have HR2 := Lib.hid hr2
  have HN1 := Lib.hid hn1
  clear hr hr1 hr2 hn1 hnil
  by_cases hci : c = i + 1
  · obtain rfl : n = i + 1 := by omega
    subst hci
    have hile : (i : Int) ≤ (i : Int) + 1 := by omega
    have hR2 := HR2.out
    rw [if_pos rfl, Nat.sub_self] at hR2
    have HR2b := Lib.hid hR2
    have hN1 := HN1.out
    rw [Nat.sub_self] at hN1
    have HN1b := Lib.hid hN1
    clear hR2 hN1 HR2 HN1
    go_enter Try.func21, Try.ntmps21
    go_wp2_with fail
    go_region_law (first
      | (refine step_append_any _ (by rfl) (.const (.slice none 0 0)) (.tmp 7) _ (by rfl) w.heap.size 40 i0 _ 5 40 Try.underlying22 hi0 hz0 hz1 hz2 rfl (by omega) (.slice none 0 0) 0 [] (by rfl)
          (World.ownsRow_nil _ _ _ _) w.heap.size _ i _ (conCells (l.take i)) (by rfl) HR1.out.drew (flat_con' _) (by simp only [maxLen]; omega) (by omega) (by simp) ?_
         intro v8 w8 hown8 hg8 hat8
         have HO8 := Lib.hid hown8
         have HB8 := Lib.hid (show Below w.heap.size w w8 from ((Below.refl w.heap.size w).drew).grown hg8 (by simp) (fun k hk => by cases hk))
         clear hown8 hg8 hat8)
      | (refine step_append_any _ (by rfl) (.tmp 8) (.tmp 12) _ (by rfl) w.heap.size 40 i0 _ 5 40 Try.underlying22 hi0 hz0 hz1 hz2 rfl (by omega) v8 (0 + i) _ (by rfl)
          HO8.out w.heap.size _ 0 0 (conCells (l.drop (i + 1))) (by rfl) (HR2b.out.below HB8.out) (flat_con' _) (by simp only [maxLen]; omega) (by omega) HB8.out.size ?_
         intro v13 w13 hown13 hg13 hat13
         have HO13 := Lib.hid hown13
         have HB13 := Lib.hid (HB8.out.grown hg13 HB8.out.size (fun k hk => (HO8.out.lt k hk).1))
         clear hown13 hg13 hat13))
    all_goals
      go_wp2
      go_ret
      refine ⟨_, rfl, ?_, HB13.out⟩
      have := HO13.out
      rw [Nat.zero_add, HN1b.out, List.nil_append, ← conCells_append, ← eraseIdx_eq] at this
      exact this
  · have hci' : ¬ c = i + 1 := hci
    have hR2 := HR2.out
    rw [if_neg hci] at hR2
    have e0 : (⟨b, off, none⟩ : Addr).add ((i + 1) * 5) = ⟨b, off + (i + 1) * 5, none⟩ := by unfold Addr.add; simp
    simp only [Option.map_some, e0] at hR2
    have HR2 := Lib.hid hR2
    clear hR2
    go_enter Try.func21, Try.ntmps21
    go_wp2_with fail
    go_region_law (first
      | (refine step_append_any _ (by rfl) (.const (.slice none 0 0)) (.tmp 7) _ (by rfl) w.heap.size 40 i0 _ 5 40 Try.underlying22 hi0 hz0 hz1 hz2 rfl (by omega) (.slice none 0 0) 0 [] (by rfl)
          (World.ownsRow_nil _ _ _ _) w.heap.size _ i c (conCells (l.take i)) (by rfl) HR1.out.drew (flat_con' _) (by simp only [maxLen]; omega) (by omega) (by simp) ?_
         intro v8 w8 hown8 hg8 hat8
         have HO8 := Lib.hid hown8
         have HB8 := Lib.hid (show Below w.heap.size w w8 from ((Below.refl w.heap.size w).drew).grown hg8 (by simp) (fun k hk => by cases hk))
         clear hown8 hg8 hat8)
      | (refine step_append_any _ (by rfl) (.tmp 8) (.tmp 12) _ (by rfl) w.heap.size 40 i0 _ 5 40 Try.underlying22 hi0 hz0 hz1 hz2 rfl (by omega) v8 (0 + i) _ (by rfl)
          HO8.out w.heap.size _ (n - (i + 1)) (c - (i + 1)) (conCells (l.drop (i + 1))) (by rfl) (HR2.out.below HB8.out) (flat_con' _) (by simp only [maxLen]; omega) (by omega) HB8.out.size ?_
         intro v13 w13 hown13 hg13 hat13
         have HO13 := Lib.hid hown13
         have HB13 := Lib.hid (HB8.out.grown hg13 HB8.out.size (fun k hk => (HO8.out.lt k hk).1))
         clear hown13 hg13 hat13))
    all_goals
      go_wp2
      go_ret
      refine ⟨_, rfl, ?_, HB13.out⟩
      have := HO13.out
      rw [Nat.zero_add, HN1.out, List.nil_append, ← conCells_append, ← eraseIdx_eq] at this
      exact this
end Go.Proofs.Ytkdgeahfmmfopaa
