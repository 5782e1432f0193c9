/- slices.Delete walked at one element of a list of constraints that the call owns. -/
import Derived.Test.YtkdgeahfmmfopaaA9
import Derived.Deep.RegionLaw
namespace Go.Proofs.Ytkdgeahfmmfopaa
set_option linter.unusedVariables false
set_option linter.unusedSimpArgs false
open Go.RowKit

theorem step_append_eq {P : Program} {ops : Array Oper} {o : Oper} {a : Act} {w : World} {K : Act → World → Prop} {Q : Exit → Act → World → Prop} {E : Prop}
    (hg : o.guard = none) (s x : Operand) (t : TypeId) (hop : o.op = Op.call { callee := Callee.builtin Builtin.append, args := #[s, x], argTypes := #[t, t] })
    (vs vx v : Value) (w1 : World) (hs : a.eval s = vs) (hx : a.eval x = vx) (hrun : ∀ ty, (Builtin.append_ #[t, t] ty #[vs, vx]).run P w = .ok v w1)
    (hK : K (a.put o.dst v) w1) :
    if Region.wanted o (yielded ops a.tmps) = true then Oper.wp P o a w K Q else E := by
  have hw : Region.wanted o (yielded ops a.tmps) = true := by simp [Region.wanted, hg]
  rw [if_pos hw]
  unfold Oper.wp
  simp [execOp, hop, resolve, invoke, builtin, hs, hx, hrun, Result.andThen]
  exact hK

theorem conCells_append (a b : List Con) : conCells (a ++ b) = conCells a ++ conCells b := by simp [conCells]
theorem conCells_length (l : List Con) : (conCells l).length = l.length * 5 := by
  induction l with
  | nil => rfl
  | cons c l ih => simp [conCells, Con.cells] at ih ⊢; omega
theorem conCells_take (l : List Con) (i : Nat) : (conCells l).take (i * 5) = conCells (l.take i) := by
  have h := List.take_append_drop i l
  rcases Nat.lt_or_ge i l.length with hi | hi
  · conv => lhs; rw [← h]
    rw [conCells_append, List.take_append_of_le_length (by rw [conCells_length]; simp; omega), List.take_of_length_le (by rw [conCells_length]; simp; omega)]
  · rw [List.take_of_length_le (by rw [conCells_length]; omega), List.take_of_length_le hi]
theorem conCells_drop (l : List Con) (i : Nat) : (conCells l).drop (i * 5) = conCells (l.drop i) := by
  rcases Nat.lt_or_ge i l.length with hi | hi
  · conv => lhs; rw [← List.take_append_drop i l]
    rw [conCells_append, List.drop_append_of_le_length (by rw [conCells_length]; simp; omega), List.drop_of_length_le (by rw [conCells_length]; simp; omega), List.nil_append]
  · rw [List.drop_of_length_le (by rw [conCells_length]; omega), List.drop_of_length_le hi]; rfl

def zc5 : List Value := [.int .i64 0, .int .i64 0, .int .i64 0, .int .i64 0, .int .i64 0]
theorem zero_con (w : World) : (zeroValue 40).run Try.prog w = .ok (.agg #[.int .i64 0, .int .i64 0, .int .i64 0, .int .i64 0, .int .i64 0]) w := by kernel_rfl
theorem run_clear_one {w : World} (ty : TypeId) (g off c : Nat) (cur : Array Value) (hg : w.heap[g]? = some (.cells cur 40 (0, 0))) (hfit : off + 5 ≤ cur.size) :
    (Builtin.clear_ #[22] ty #[.slice (some ⟨g, off, none⟩) 1 c]).run Try.prog w = .ok (.tuple #[]) (w.setRow g (cur.toList.take off ++ zc5 ++ cur.toList.drop (off + 5)).toArray) := by
  have hst := run_storeCells_at Try.prog g off 40 zc5 0 cur w hg (by simpa [zc5] using hfit) (by intro u hu; simp [zc5] at hu; subst hu; rfl)
  simp only [Nat.add_zero] at hst
  have hz : (Builtin.zeroCells (Value.agg #[.int .i64 0, .int .i64 0, .int .i64 0, .int .i64 0, .int .i64 0]).cells 1).toList = zc5 := by kernel_rfl
  have hl : zc5.length = 5 := rfl
  rw [hl] at hst
  simp [Builtin.clear_, run_underlying Try.underlying22, zero_con, hz, hst]

theorem eraseIdx_eq (l : List Con) (i : Nat) : l.eraseIdx i = l.take i ++ l.drop (i + 1) := List.eraseIdx_eq_take_drop_succ ..

theorem flat_con' (L : List Con) : ∀ u ∈ conCells L, u.oneCell' = true := by
  intro u hu
  simp only [conCells, List.mem_flatMap, Con.cells] at hu
  obtain ⟨b, _, hb⟩ := hu
  simp at hb
  rcases hb with rfl | rfl | rfl | rfl | rfl <;> rfl

def Deleted (base g n c : Nat) (l : List Con) (w : World) (e : Ending) (w' : World) : Prop :=
  e = .returned (.slice (some ⟨g, 0, none⟩) (n - 1) c) ∧ w'.ownsRow base 40 5 (.slice (some ⟨g, 0, none⟩) (n - 1) c) (n - 1) (conCells l) ∧ w.grownBy w' (some g)

set_option maxRecDepth 100000 in
theorem del_any (base g n c i : Nat) (l : List Con) (w : World) (hown : w.ownsRow base 40 5 (.slice (some ⟨g, 0, none⟩) n c) n (conCells l)) (hi : i < n) (hl : l.length = n) :
    Calls Try.prog 32 #[.slice (some ⟨g, 0, none⟩) n c, .int .i64 (i : Int), .int .i64 ((i : Int) + 1)] w (Deleted base g n c (l.eraseIdx i) w) := by
  obtain ⟨i0, hi0, hz0, hz1, hz2⟩ := info_parts con_info
  rcases hown.2 with ⟨h, _⟩ | ⟨g', cap, cur, hv, hbase, hheap, hncap, hcm, hsz, htake⟩
  · cases h
  injection hv with hv1 hv2 hv3
  injection hv1 with hv1
  injection hv1 with hv1
  subst hv1 hv3
  have hcm' : (c : Int) ≤ 9223372036854775807 := by unfold maxLen at hcm; omega
  have hge : (n : Int) ≤ (c : Int) := by omega
  have hi1 : ((i : Int) == (i : Int) + 1) = false := by simp; omega
  have hilt : (i : Int) < (n : Int) := by omega
  -- the cells that move
  have hnl : (conCells (l.drop (i + 1))).length = (n - (i + 1)) * 5 := by rw [conCells_length, List.length_drop, hl]
  have hsrc : ∀ (ad : Addr), (c ≠ i + 1 → ad = ⟨g, (i + 1) * 5, none⟩) → ∀ j u, (conCells (l.drop (i + 1)))[j]? = some u → w.drew.cell? (ad.add j) = some u := by
    intro ad had j u hu
    have hj : j < (conCells (l.drop (i + 1))).length := by
      rcases Nat.lt_or_ge j (conCells (l.drop (i + 1))).length with h | h
      · exact h
      · rw [List.getElem?_eq_none h] at hu; cases hu
    rw [hnl] at hj
    have hne : c ≠ i + 1 := by omega
    rw [had hne]
    rw [← conCells_drop, ← htake, List.getElem?_drop, List.getElem?_take] at hu
    split at hu
    · have e : (⟨g, (i + 1) * 5, none⟩ : Addr).add j = ⟨g, (i + 1) * 5 + j, none⟩ := by unfold Addr.add; split <;> simp_all
      rw [e]
      show w.cell? _ = _
      rw [cell_of_row w g _ cur 40 (0, 0) hheap]
      simpa using hu
    · cases hu
  have happ := fun (ad : Addr) (had : c ≠ i + 1 → ad = ⟨g, (i + 1) * 5, none⟩) (ty : TypeId) => run_append_room (P := Try.prog) w.drew 22 ty 40 i0 Try.underlying22 hi0 g i c cur hheap ad (n - (i + 1)) (c - (i + 1)) (conCells (l.drop (i + 1)))
    (by rw [hz1]; exact hnl) (hsrc ad had) (flat_con' _) (by omega) (by rw [hz1, hnl, hsz]; omega)
  have hn1 : i + (n - (i + 1)) = n - 1 := by omega
  rw [hn1] at happ
  obtain ⟨cur1, hcur1⟩ : ∃ x, x = (cur.toList.take (i * i0.size) ++ conCells (l.drop (i + 1)) ++ cur.toList.drop (i * i0.size + (conCells (l.drop (i + 1))).length)).toArray := ⟨_, rfl⟩
  rw [← hcur1] at happ
  rw [hz1, hnl] at hcur1
  have hs1 : cur1.size = c * 5 := by rw [hcur1]; simp [hnl]; omega
  have ht1 : cur1.toList.take ((n - 1) * 5) = conCells (l.eraseIdx i) := by
    rw [hcur1, eraseIdx_eq, conCells_append, ← conCells_take, ← htake, List.take_take, Nat.min_eq_left (by omega)]
    rw [List.toList_toArray, List.take_append_of_le_length (by simp [hnl]; omega), List.take_of_length_le (by simp [hnl]; omega)]
  obtain ⟨W1, hW1⟩ : ∃ x, x = w.drew.setRow g cur1 := ⟨_, rfl⟩
  have hh1 : W1.heap[g]? = some (.cells cur1 40 (0, 0)) := by rw [hW1]; exact setRow_heap w.drew g cur _ 40 (0, 0) hheap
  have hcl := fun (ty : TypeId) => run_clear_one (w := W1) ty g ((n - 1) * 5) (c - (n - 1)) cur1 hh1 (by omega)
  have HAPP := Lib.hid happ
  have HT1 := Lib.hid ht1
  have HC1 := Lib.hid hcur1
  have HW1 := Lib.hid hW1
  have HH1 := Lib.hid hh1
  have HTK := Lib.hid htake
  have HN1 := Lib.hid hn1
  clear happ ht1 hcur1 hW1 hh1 htake hn1 hnl hsrc
  have hnn : n - (n - 1) = 1 := by omega
  have hn1c : n - 1 ≤ n := by omega
  have hncc : n - 1 ≤ c := by omega
  have hic : i ≤ c := by omega
  have hic1 : i + 1 ≤ c := by omega
  have hic2 : i + 1 ≤ n := by omega
  have hj0 : (0 : Int) ≤ (i : Int) + 1 := by omega
  have hj1 : (i : Int) + 1 ≤ (n : Int) := by omega
  have HFIN : Hid ((W1.setRow g (cur1.toList.take ((n - 1) * 5) ++ zc5 ++ cur1.toList.drop ((n - 1) * 5 + 5)).toArray).ownsRow base 40 5 (.slice (some ⟨g, 0, none⟩) (n - 1) c) (n - 1) (conCells (l.eraseIdx i)) ∧ w.grownBy (W1.setRow g (cur1.toList.take ((n - 1) * 5) ++ zc5 ++ cur1.toList.drop ((n - 1) * 5 + 5)).toArray) (some g)) := by
    refine Lib.hid ⟨⟨by rw [conCells_length, List.length_eraseIdx_of_lt (by omega), hl], .inr ⟨g, c, _, rfl, hbase, setRow_heap W1 g cur1 _ 40 (0, 0) HH1.out, by omega, hcm, ?_, ?_⟩⟩, ?_⟩
    · simp [zc5]; omega
    · rw [← HT1.out, List.toList_toArray, List.append_assoc, List.take_append_of_le_length (by simp; omega), List.take_take, Nat.min_self]
    · rw [HW1.out]
      refine ⟨rfl, rfl, rfl, by simp, fun k _ hk => ?_⟩
      have hkg : k ≠ g := fun e => hk (by rw [e])
      rw [setRow_other _ _ _ _ hkg, setRow_other _ _ _ _ hkg]
      rfl
  by_cases hci : c = i + 1
  · obtain rfl : n = i + 1 := by omega
    subst hci
    have hile : (i : Int) ≤ (i : Int) + 1 := by omega
    simp only [Nat.add_sub_cancel, Nat.add_sub_cancel_left] at hcl
    clear hnn hncc hn1c
    go_enter Try.func32, Try.ntmps32
    go_wp2_with fail
    go_region_law (refine step_append_eq rfl (.tmp 22) (.tmp 25) 22 rfl (.slice (some ⟨g, 0, none⟩) i (i + 1)) (.slice (some ⟨g, 0, none⟩) 0 0) (.slice (some ⟨g, 0, none⟩) i (i + 1)) W1 (by simp [Act.eval, Act.put]) (by simp [Act.eval, Act.put]) (by have := HAPP.out ⟨g, 0, none⟩ (fun h => absurd rfl h); rw [HW1.out]; simpa using this) ?_)
    go_wp2
    go_ret
    exact ⟨rfl, by simpa using HFIN.out.1, by simpa using HFIN.out.2⟩
  · have hci' : ¬ c = i + 1 := hci
    go_enter Try.func32, Try.ntmps32
    go_wp2_with fail
    go_region_law (refine step_append_eq rfl (.tmp 22) (.tmp 25) 22 rfl (.slice (some ⟨g, 0, none⟩) i c) (.slice (some ⟨g, (i + 1) * 5, none⟩) (n - (i + 1)) (c - (i + 1))) (.slice (some ⟨g, 0, none⟩) (n - 1) c) W1 (by simp [Act.eval, Act.put]) (by simp [Act.eval, Act.put]) (by rw [HW1.out]; exact HAPP.out _ (fun _ => rfl)) ?_)
    go_wp2
    go_ret
    exact ⟨rfl, by simpa using HFIN.out.1, by simpa using HFIN.out.2⟩
end Go.Proofs.Ytkdgeahfmmfopaa
