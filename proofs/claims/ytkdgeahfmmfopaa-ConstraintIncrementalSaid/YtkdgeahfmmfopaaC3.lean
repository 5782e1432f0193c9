/- A slice of integers that came in reads as a list. -/
import Derived.Test.YtkdgeahfmmfopaaC2
namespace Go.Proofs.Ytkdgeahfmmfopaa
set_option linter.unusedVariables false
set_option linter.unusedSimpArgs false
open Go.RowKit

/-- A law over a list of integers: whatever list comes in, it returns true and leaves memory below as it was. -/
def LawAny (fn : Nat) : Prop := ∀ (A : Option Addr) (n c : Nat) (zs : List Int) (w : World), n ≤ c → c ≤ maxLen → Reads w w.heap.size 1 A n (ints zs) → (∀ z ∈ zs, (Lit.int .i64 z).wf = true) →
  Calls Try.prog fn #[.slice A n c] w fun e w' => e = .returned (.bool true) ∧ Below w.heap.size w w'

theorem law_of_row {fn : Nat} (h : LawAny fn) (a0 : Option Addr) (len0 cap0 : Nat) (z0 : List Int) (w : World)
    (w0 : (a0 = none ∧ len0 = 0 ∧ cap0 = 0 ∧ z0 = []) ∨ ∃ x, a0 = some x ∧ len0 ≤ cap0 ∧ cap0 ≤ maxLen ∧ z0.length = cap0 ∧ (∀ i, i < z0.length → w.cell? (x.add i) = some (.int .i64 (z0.getD i 0))) ∧ ∀ n ∈ z0, (Lit.int .i64 n).wf = true) :
    Calls Try.prog fn #[.slice a0 len0 cap0] w fun e w' => e = .returned (.bool true) ∧ Below w.heap.size w w' := by
  rcases w0 with ⟨rfl, rfl, rfl, rfl⟩ | ⟨x, rfl, hl, hm, hz, hcell, hwz⟩
  · exact h none 0 0 [] w (Nat.le_refl _) (by unfold maxLen; omega) Reads.none_ (by simp)
  · refine h (some x) len0 cap0 (z0.take len0) w hl hm ?_ (fun z hz' => hwz z (List.mem_of_mem_take hz'))
    refine ⟨by simp [ints]; omega, fun hn => ⟨x, rfl, ?_, fun j u hu => ?_⟩⟩
    · have := World.block_lt_of_cell? w _ (hcell 0 (by omega))
      rwa [block_of_add] at this
    · have hj : j < len0 := by
        rcases Nat.lt_or_ge j (ints (z0.take len0)).length with h | h
        · simp [ints] at h; omega
        · rw [List.getElem?_eq_none h] at hu; cases hu
      rw [hcell j (by omega)]
      have := ints_get _ _ _ hu
      rw [this]
      simp [List.getD, List.getElem?_take, hj]
end Go.Proofs.Ytkdgeahfmmfopaa
