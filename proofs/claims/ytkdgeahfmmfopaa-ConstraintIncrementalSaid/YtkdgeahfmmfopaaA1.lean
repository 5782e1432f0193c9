/- Small functions of the constraint layer walked: value, raise of the reference, N, Range, New. -/
import Derived.Test.YtkdgeahfmmfopaaRows
import Derived.Test.YtkdgeahfmmfopaaWords
import Derived.WalkKit
import Derived.WalkSpells
import Derived.WalkLawsBesides
import Derived.Outline
import Derived.Deep.QuietTactic
import Derived.BigQuiet
namespace Go.Proofs.Ytkdgeahfmmfopaa
set_option linter.unusedVariables false
set_option linter.unusedSimpArgs false
open Go.RowKit

theorem ret_int {k : IntKind} {a b : Int} (h : a = b) : Ending.returned (.int k a) = .returned (.int k b) := by rw [h]

theorem value_neg (x : Value) (i : Int) (w : World) (h : i < 0) :
    Calls Try.prog 31 #[x, .int .i64 i] w fun e w' => e = .returned (.int .i64 0) ∧ w = w' := by
  go_enter Try.func31, Try.ntmps31
  go_wp2
  go_ret
  exact ⟨rfl, rfl⟩

theorem value_pos (b off n c : Nat) (i v : Int) (w : World) (h0 : 0 ≤ i) (h : i < n) (hn : n ≤ 65536)
    (hc : w.cell? ⟨b, off + i.toNat, none⟩ = some (.int .i64 v)) :
    Calls Try.prog 31 #[.slice (some ⟨b, off, none⟩) n c, .int .i64 i] w fun e w' => e = .returned (.int .i64 v) ∧ w = w' := by
  go_enter Try.func31, Try.ntmps31
  go_wp2
  go_ret
  exact ⟨rfl, rfl⟩

theorem rraise_neg (x : Value) (i n : Int) (w : World) (h : i < 0) :
    Calls Try.prog 35 #[x, .int .i64 i, .int .i64 n] w fun e w' => e = .returned (.tuple #[.bool false, .bool (decide (n ≤ 0))]) ∧ w = w' := by
  go_enter Try.func35, Try.ntmps35
  go_wp2
  go_ret2
  exact ⟨rfl, rfl⟩

theorem rraise_keep (b off n c : Nat) (i v m : Int) (w : World) (h0 : 0 ≤ i) (h : i < n) (hn : n ≤ 65536)
    (hc : w.cell? ⟨b, off + i.toNat, none⟩ = some (.int .i64 v)) (hm : m ≤ v) :
    Calls Try.prog 35 #[.slice (some ⟨b, off, none⟩) n c, .int .i64 i, .int .i64 m] w fun e w' => e = .returned (.tuple #[.bool false, .bool true]) ∧ w = w' := by
  go_enter Try.func35, Try.ntmps35
  go_wp2
  go_ret2
  exact ⟨rfl, rfl⟩

theorem rraise_set (b off n c : Nat) (i v m : Int) (w : World) (h0 : 0 ≤ i) (h : i < n) (hn : n ≤ 65536)
    (hc : w.cell? ⟨b, off + i.toNat, none⟩ = some (.int .i64 v)) (hf : w.frozen? ⟨b, off + i.toNat, none⟩ = false) (hm : v < m) :
    Calls Try.prog 35 #[.slice (some ⟨b, off, none⟩) n c, .int .i64 i, .int .i64 m] w fun e w' => e = .returned (.tuple #[.bool true, .bool (decide (m ≤ 1048576))]) ∧ w.setCell ⟨b, off + i.toNat, none⟩ (.int .i64 m) = w' := by
  go_enter Try.func35, Try.ntmps35
  go_wp2
  go_ret2
  exact ⟨rfl, rfl⟩
end Go.Proofs.Ytkdgeahfmmfopaa
