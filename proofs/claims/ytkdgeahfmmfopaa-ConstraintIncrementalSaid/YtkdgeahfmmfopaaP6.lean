/- The plain law of the constraint solver at its limits. No program in sight. -/
import Derived.Test.YtkdgeahfmmfopaaP5
namespace Go.Proofs.Ytkdgeahfmmfopaa
set_option linter.unusedVariables false
set_option linter.unusedSimpArgs false

theorem iSolve_empty (n : Nat) (hn : n ≤ 64) : iSolve n [] = .ok [] (List.replicate n 0) := by
  rw [iSolve_out hn (by simp) (by simp)]
  rfl

/-- The limits' constraints: x0 is at least 0, 1, 2, .. -/
def limC (i : Nat) : Con := ⟨0, -1, 0, (i : Int), 3⟩
def limL (k : Nat) : List Con := (List.range k).map limC
theorem limL_len (k : Nat) : (limL k).length = k := by simp [limL]
theorem limL_succ (k : Nat) : limL (k + 1) = limL k ++ [limC k] := by simp [limL, List.range_succ]
theorem limL_mem {k : Nat} {c : Con} (h : c ∈ limL k) : ∃ i, i < k ∧ c = limC i := by
  obtain ⟨i, hi, rfl⟩ := List.mem_map.1 h
  exact ⟨i, List.mem_range.1 hi, rfl⟩
theorem limL_get {k i : Nat} (h : i < k) : (limL k)[i]? = some (limC i) := by simp [limL, h]

theorem lim_solved (k : Nat) (h0 : 0 < k) (h1 : k ≤ 200) : ∃ h, iSolve (1 : Nat) (limL k) = .ok h [(k : Int) - 1] := by
  have hv : ∀ c ∈ limL k, validB (1 : Nat) c = true := fun c hc => by
    obtain ⟨i, hi, rfl⟩ := limL_mem hc
    simp [validB, limC]
    omega
  have hok : ∀ c ∈ limL k, ConOk 1 c := fun c hc => ConOk_of_valid (hv c hc)
  have hsat : ∀ c ∈ limL k, satC [(k : Int) - 1] c = true := fun c hc => by
    obtain ⟨i, hi, rfl⟩ := limL_mem hc
    simp [satC, limC, val]
    omega
  obtain ⟨h, x, hs, hg⟩ := iSolve_good (n := 1) (by omega) (by rw [limL_len]; exact h1) hv (weak_feasible fun c hc => by
    obtain ⟨i, hi, rfl⟩ := limL_mem hc
    simp [limC])
  refine ⟨h, ?_⟩
  rw [hs]
  have hin : InR 2 [0, (k : Int) - 1] := ⟨Int.le_refl _, fun i hi => by
    match i, hi with
    | 0, _ => exact ⟨Int.le_refl _, by show (0 : Int) ≤ _; omega⟩
    | 1, _ => exact ⟨by show (0 : Int) ≤ (k : Int) - 1; omega, by show (k : Int) - 1 ≤ _; omega⟩⟩
  have hall : ∀ (i : Nat) (c : Con), (limL k)[i]? = some c → h[i]?.getD false = true := fun i c hi => by
    rcases hg.rj i c hi with h2 | ⟨_, h2⟩
    · exact h2
    · exfalso
      refine h2 [0, (k : Int) - 1] rfl hin fun b hb => ?_
      obtain ⟨j, c', _, hj, _, hb'⟩ := mem_accB.1 hb
      have hm := List.mem_of_getElem? hj
      exact (satC_iff (hok c' hm)).1 (hsat c' hm) b hb'
  have hle := good_least (y := [(k : Int) - 1]) hg hok rfl (by intro z hz; simp at hz; subst hz; omega) (fun i c hi _ => hsat c (List.mem_of_getElem? hi)) 0 (by omega)
  have hge := good_sat hg hok (limL_get (k := k) (i := k - 1) (by omega))
  rw [hall _ _ (limL_get (by omega))] at hge
  have hx : ∃ z, x = [z] := by
    have := hg.xl
    match x, this with
    | [z], _ => exact ⟨z, rfl⟩
  obtain ⟨z, rfl⟩ := hx
  have h3 : z ≤ (k : Int) - 1 := hle
  have h4 : ((k - 1 : Nat) : Int) ≤ z := by simpa [satC, limC, val] using hge
  have : z = (k : Int) - 1 := by omega
  rw [this]
theorem lim_long (k : Nat) (h1 : 200 < k) : iSolve (1 : Nat) (limL k) = .err 2 := by
  unfold iSolve
  rw [if_neg (by omega), if_pos (by rw [limL_len]; exact h1)]
theorem iSolve_many (n : Nat) (hn : 64 < n) (l : List Con) : iSolve n l = .err 1 := by
  unfold iSolve
  rw [if_pos (by omega)]
end Go.Proofs.Ytkdgeahfmmfopaa
