/- Max and Clone walked. -/
import Derived.Test.YtkdgeahfmmfopaaA3
namespace Go.Proofs.Ytkdgeahfmmfopaa
set_option linter.unusedVariables false
set_option linter.unusedSimpArgs false
open Go.RowKit

/-- The greatest of the first k numbers. -/
def maxUpTo (zs : List Int) : Nat → Int
  | 0 => zs[0]?.getD 0
  | k + 1 => if maxUpTo zs k < zs[k]?.getD 0 then zs[k]?.getD 0 else maxUpTo zs k

theorem max_any (b off n c : Nat) (zs : List Int) (w : World) (hn : 0 < n) (hn2 : n ≤ 65536)
    (hc : ∀ j, j < n → w.cell? ⟨b, off + j, none⟩ = some (.int .i64 (zs[j]?.getD 0))) :
    Calls Try.prog 34 #[.slice (some ⟨b, off, none⟩) n c] w fun e w' => e = .returned (.int .i64 (maxUpTo zs n)) ∧ w = w' := by
  have hlt : (1 : Int) ≤ (n : Int) := by omega
  have h0 := hc 0 hn
  have hp : (0 : Int) < (n : Int) := by omega
  have H := Lib.hid hc
  clear hc
  simp only [Nat.add_zero] at h0
  go_enter Try.func34, Try.ntmps34
  go_wp2
  go_loop [3, 4] (fun m i => ∃ k : Nat, 1 ≤ k ∧ k ≤ n ∧ i = .int .i64 k ∧ m = .int .i64 (maxUpTo zs k)) (fun _ i => n - (intOf i).toNat)
  case atStart => exact ⟨1, by omega, by omega, rfl, by simp [maxUpTo]⟩
  case round =>
    obtain ⟨k, hk1, hk2, rfl, rfl⟩ := hrel
    by_cases hk : k < n
    · have hck := H.out k hk
      go_wp2
      go_round
      case rel => exact ⟨k + 1, by omega, by omega, by go_num, rfl⟩
      case measure => simp [intOf]; omega
    · go_wp2
      go_ret
      exact ⟨ret_int (by rw [show k = n by omega]), rfl⟩

theorem con_info : (Try.prog.info? 40).map (fun i => (i.zero, i.size, i.bytes)) = some (some (.agg #[.int .i64 0, .int .i64 0, .int .i64 0, .int .i64 0, .int .i64 0]), 5, 40) := by kernel_rfl
theorem int_info : (Try.prog.info? 3).map (fun i => (i.zero, i.size, i.bytes)) = some (some (.int .i64 0), 1, 8) := by kernel_rfl
theorem bool_info : (Try.prog.info? 4).map (fun i => (i.zero, i.size, i.bytes)) = some (some (.bool false), 1, 1) := by kernel_rfl
theorem bd_info : (Try.prog.info? 52).map (fun i => (i.zero, i.size, i.bytes)) = some (some (.agg #[.int .i64 0, .int .i64 0, .int .i64 0]), 3, 24) := by kernel_rfl

def Flat (xs : List Value) : Prop := ∀ u ∈ xs, u.oneCell' = true

/-- The call's own new row that holds these cells. -/
def OwnOf (e size n : Nat) (xs : List Value) (w : World) (en : Ending) (w' : World) : Prop :=
  ∃ v : Value, en = .returned v ∧ w'.ownsRow w.heap.size e size v n xs ∧ Below w.heap.size w w'

theorem own_start (w : World) (base e size : Nat) (hb : base ≤ w.heap.size) : (w.alloc (.cells #[] e)).ownsRow base e size (.slice (some ⟨w.heap.size, 0, none⟩) 0 0) 0 [] := by
  refine ⟨by simp, .inr ⟨w.heap.size, 0, #[], rfl, hb, heap_alloc_new w _, by omega, by simp [maxLen], by simp, by simp⟩⟩

theorem clone_con (A : Option Addr) (n c B : Nat) (xs : List Value) (w : World) (hA : A = none → n = 0 ∧ c = 0) (hr : Reads w B 5 A n xs) (hB : B ≤ w.heap.size) (hx : Flat xs) (hn : n ≤ 100000) :
    Calls Try.prog 24 #[.slice A n c] w (OwnOf 40 5 n xs w) := by
  rcases A with _ | ad
  · obtain ⟨rfl, rfl⟩ := hA rfl
    have hxs : xs = [] := List.eq_nil_of_length_eq_zero (by simpa using hr.1)
    subst hxs
    have he := fun (w : World) => Lib.run_eql_slice_nil (P := Try.prog) w 22 40 none 0 0 0 0 Try.underlying22
    go_enter Try.func24, Try.ntmps24
    go_wp2
    go_ret
    exact ⟨_, rfl, World.ownsRow_nil _ _ _ _, Below.refl _ _⟩
  · clear hA
    have he := fun (w : World) => Lib.run_eql_slice_nil (P := Try.prog) w 22 40 (some ad) n c 0 0 Try.underlying22
    obtain ⟨i0, hi0, hz0, hz1, hz2⟩ := info_parts con_info
    have hown := own_start w w.heap.size 40 5 (Nat.le_refl _)
    have HR := Lib.hid (hr.alloc hB (.cells #[] 40))
    have HX := Lib.hid hx
    clear hr hx
    go_enter Try.func24, Try.ntmps24
    go_wp2_with (
       at_builtin
       refine wpList_append_any _ rfl (.tmp 5) (.tmp 6) _ rfl w.heap.size 40 i0 _ 5 40 Try.underlying22 hi0 hz0 hz1 hz2 rfl (by omega) _ 0 [] rfl
         hown B (some ad) n c xs rfl HR.out HX.out (by simp only [maxLen]; omega) (by omega) (by simp) ?_
       intro v1 w1 hown1 hg1 hat1)
    go_ret
    exact ⟨v1, rfl, by simpa using hown1, ((Below.refl _ _).alloc (Nat.le_refl _) _).grown hg1 (by simp) (fun k hk => by cases hk; exact Nat.le_refl _)⟩

theorem clone_int (A : Option Addr) (n c B : Nat) (xs : List Value) (w : World) (hA : A = none → n = 0 ∧ c = 0) (hr : Reads w B 1 A n xs) (hB : B ≤ w.heap.size) (hx : Flat xs) (hn : n ≤ 100000) :
    Calls Try.prog 28 #[.slice A n c] w (OwnOf 3 1 n xs w) := by
  rcases A with _ | ad
  · obtain ⟨rfl, rfl⟩ := hA rfl
    have hxs : xs = [] := List.eq_nil_of_length_eq_zero (by simpa using hr.1)
    subst hxs
    have he := fun (w : World) => Lib.run_eql_slice_nil (P := Try.prog) w 24 3 none 0 0 0 0 Try.underlying24
    go_enter Try.func28, Try.ntmps28
    go_wp2
    go_ret
    exact ⟨_, rfl, World.ownsRow_nil _ _ _ _, Below.refl _ _⟩
  · clear hA
    have he := fun (w : World) => Lib.run_eql_slice_nil (P := Try.prog) w 24 3 (some ad) n c 0 0 Try.underlying24
    obtain ⟨i0, hi0, hz0, hz1, hz2⟩ := info_parts int_info
    have hown := own_start w w.heap.size 3 1 (Nat.le_refl _)
    have HR := Lib.hid (hr.alloc hB (.cells #[] 3))
    have HX := Lib.hid hx
    clear hr hx
    go_enter Try.func28, Try.ntmps28
    go_wp2_with (
       at_builtin
       refine wpList_append_any _ rfl (.tmp 5) (.tmp 6) _ rfl w.heap.size 3 i0 _ 1 8 Try.underlying24 hi0 hz0 hz1 hz2 rfl (by omega) _ 0 [] rfl
         hown B (some ad) n c xs rfl HR.out HX.out (by simp only [maxLen]; omega) (by omega) (by simp) ?_
       intro v1 w1 hown1 hg1 hat1)
    go_ret
    exact ⟨v1, rfl, by simpa using hown1, ((Below.refl _ _).alloc (Nat.le_refl _) _).grown hg1 (by simp) (fun k hk => by cases hk; exact Nat.le_refl _)⟩

end Go.Proofs.Ytkdgeahfmmfopaa
