/- The plain law of the constraint solver: when it must succeed, and that its values are the least. No program in sight. -/
import Derived.Test.YtkdgeahfmmfopaaP4
namespace Go.Proofs.Ytkdgeahfmmfopaa
set_option linter.unusedVariables false
set_option linter.unusedSimpArgs false

theorem iSolve_out {n : Nat} {l : List Con} (hn : n ≤ 64) (hl : l.length ≤ 200) (hv : ∀ c ∈ l, validB n c = true) :
    iSolve n l = match iOut l (st0 n l.length) 4 with | none => .err 13 | some st => .ok st.held (st.v.drop 1) := by
  unfold iSolve
  rw [if_neg (by omega), if_neg (by omega), if_neg (by simpa using hv), Int.toNat_natCast]
  cases iOut l (st0 n l.length) 4 <;> rfl

/-- Where the required constraints have a solution, the solver succeeds. -/
theorem iSolve_good {n : Nat} {l : List Con} (hn : n ≤ 64) (hl : l.length ≤ 200) (hv : ∀ c ∈ l, validB n c = true) (hf : ¬ Infeas (n + 1) (accB l (held0 l) l.length)) :
    ∃ h x, iSolve n l = .ok h x ∧ Good n l h x := by
  rcases iSolve_cases hn hl hv with h | h
  · exact h
  · exfalso
    have hok : ∀ c ∈ l, ConOk n c := fun c hc => ConOk_of_valid (hv c hc)
    rw [iSolve_out hn hl hv] at h
    rcases sim_all hok with ⟨x, st, a1, a2, a3⟩ | ⟨a1, a2⟩
    · rw [a2] at h
      simp at h
    · exact hf ((rLeast_lst hok).2 a1)

theorem held0_get {l : List Con} {i : Nat} (h : (held0 l)[i]?.getD false = true) : ∃ c, l[i]? = some c ∧ c.S = 0 := by
  unfold held0 at h
  rw [List.getElem?_map] at h
  cases hc : l[i]? with
  | none => rw [hc] at h; simp at h
  | some c => rw [hc] at h; exact ⟨c, rfl, by simpa using h⟩

theorem weak_feasible {n : Nat} {l : List Con} (h : ∀ c ∈ l, c.S ≠ 0) : ¬ Infeas (n + 1) (accB l (held0 l) l.length) := by
  intro hi
  refine (zeros_lst (n + 1)).infeas (hi.congr fun b => ?_)
  constructor
  · intro hb
    obtain ⟨i, c, h1, h2, h3, h4⟩ := mem_accB.1 hb
    obtain ⟨c', h5, h6⟩ := held0_get h3
    rw [h2] at h5
    injection h5 with h5
    subst h5
    exact absurd h6 (h _ (List.mem_of_getElem? h2))
  · intro hb; simp at hb

/-- Values that satisfy every accepted constraint are at least the solver's. -/
theorem good_least {n : Nat} {l : List Con} {h : List Bool} {x y : List Int} (hg : Good n l h x) (hok : ∀ c ∈ l, ConOk n c) (hy : y.length = n) (hr : ∀ z ∈ y, 0 ≤ z ∧ z ≤ 1048576)
    (hs : ∀ (i : Nat) (c : Con), l[i]? = some c → h[i]?.getD false = true → satC y c = true) : ∀ i, i < n → g x i ≤ g y i := by
  have hin : InR (n + 1) (0 :: y) := ⟨Int.le_refl _, fun i hi => by
    cases i with
    | zero => rw [g_cons_zero]; omega
    | succ i =>
      rw [g_cons_succ]
      have hiy : i < y.length := by omega
      have := hr _ (List.getElem_mem hiy)
      simpa [g, List.getElem?_eq_getElem hiy] using this⟩
  have := hg.ls.least (0 :: y) (by simp [hy]) hin fun b hb => by
    obtain ⟨i, c, h1, h2, h3, h4⟩ := mem_accB.1 hb
    exact (satC_iff (hok c (List.mem_of_getElem? h2))).1 (hs i c h2 h3) b h4
  intro i hi
  have := this (i + 1) (by omega)
  rwa [g_cons_succ, g_cons_succ] at this
end Go.Proofs.Ytkdgeahfmmfopaa
