/- The plain law of the constraint solver: what is held and what is not. No program in sight. -/
import Derived.Test.YtkdgeahfmmfopaaP3
namespace Go.Proofs.Ytkdgeahfmmfopaa
set_option linter.unusedVariables false
set_option linter.unusedSimpArgs false

/-- Constraint i is accepted, or it is not required and could not be. -/
def Rj (n : Nat) (l : List Con) (s : Int) (k : Nat) (st : St) : Prop :=
  ∀ (i : Nat) (c : Con), l[i]? = some c → (c.S < s ∨ (c.S = s ∧ i < k)) → st.held[i]?.getD false = true ∨ (c.S ≠ 0 ∧ Infeas (n + 1) (accB l (st.held.set i true) l.length))

theorem accB_mono {l : List Con} {a a' : List Bool} {k : Nat} (h : ∀ i : Nat, a[i]?.getD false = true → a'[i]?.getD false = true) : ∀ b, b ∈ accB l a k → b ∈ accB l a' k := by
  intro b hb
  obtain ⟨i, c, h1, h2, h3, h4⟩ := mem_accB.1 hb
  exact mem_accB.2 ⟨i, c, h1, h2, h i h3, h4⟩

theorem set_get_any {a : List Bool} {i j : Nat} (h : (a.set i true)[j]?.getD false = true) : (j = i ∧ i < a.length) ∨ a[j]?.getD false = true := by
  rw [List.getElem?_set] at h
  by_cases hij : i = j
  · subst hij
    rw [if_pos rfl] at h
    split at h
    · exact .inl ⟨rfl, by assumption⟩
    · simp at h
  · rw [if_neg hij] at h
    exact .inr h
theorem set_get_mono {a : List Bool} {i j : Nat} (h : a[j]?.getD false = true) : (a.set i true)[j]?.getD false = true := by
  rw [List.getElem?_set]
  by_cases hij : i = j
  · subst hij
    rw [if_pos rfl]
    split
    · rfl
    · rename_i hlt
      rw [List.getElem?_eq_none (by omega)] at h
      simp at h
  · rw [if_neg hij]
    exact h

theorem rj_step {n : Nat} {l : List Con} {s : Int} {k : Nat} {st st' : St} {c : Con} (h : ∀ c ∈ l, ConOk n c) (hc : l[k]? = some c) (hj : J n l st) (hr : Rj n l s k st) (he : iStep s k c st = some st') : J n l st' ∧ Rj n l s (k + 1) st' := by
  have hk : k < l.length := by
    rcases Nat.lt_or_ge k l.length with h | h
    · exact h
    · rw [List.getElem?_eq_none h] at hc; cases hc
  obtain ⟨h1, h2⟩ := hj.next h hc
  unfold iStep at he
  by_cases hS : c.S = s
  · rw [if_neg (show ¬ c.S ≠ s by simpa using hS)] at he
    cases hi : iRaise st.v (st.hb ++ boundsOf c) with
    | none =>
      rw [hi] at he
      simp only at he
      split at he
      · cases he
      · rename_i hs0
        injection he with he
        subst he
        refine ⟨hj, fun i c' hi' hp => ?_⟩
        by_cases hik : i = k
        · subst hik
          rw [hc] at hi'
          injection hi' with hi'
          subst hi'
          exact .inr ⟨by omega, h2 hi⟩
        · exact hr i c' hi' (by omega)
    | some v =>
      rw [hi] at he
      injection he with he
      subst he
      refine ⟨h1 v hi, fun i c' hi' hp => ?_⟩
      show (st.held.set k true)[i]?.getD false = true ∨ _
      by_cases hik : i = k
      · subst hik
        exact .inl ((set_get (by rw [hj.dl]; exact hk)).2 (.inl rfl))
      · rcases hr i c' hi' (by omega) with h | ⟨h, h'⟩
        · exact .inl (set_get_mono h)
        · refine .inr ⟨h, h'.more (accB_mono fun j hj' => ?_)⟩
          rcases set_get_any hj' with ⟨rfl, hlt⟩ | hj'
          · show ((st.held.set k true).set j true)[j]?.getD false = true
            exact (set_get (by simpa using hlt)).2 (.inl rfl)
          · exact set_get_mono (set_get_mono hj')
  · rw [if_pos hS] at he
    injection he with he
    subst he
    exact ⟨hj, fun i c' hi' hp => hr i c' hi' (by
      by_cases hik : i = k
      · subst hik
        rw [hc] at hi'
        injection hi' with hi'
        subst hi'
        omega
      · omega)⟩

theorem rj_in {n : Nat} {l : List Con} {s : Int} {st : St} (h : ∀ c ∈ l, ConOk n c) (hj : J n l st) (hr : Rj n l s 0 st) : ∀ k st', k ≤ l.length → iIn s l st k = some st' → J n l st' ∧ Rj n l s k st' := by
  intro k
  induction k with
  | zero => intro st' _ he; injection he with he; subst he; exact ⟨hj, hr⟩
  | succ k ih =>
    intro st' hk he
    have hlk : l[k]? = some l[k] := List.getElem?_eq_getElem (by omega)
    simp only [iIn] at he
    cases h1 : iIn s l st k with
    | none => rw [h1] at he; simp at he
    | some st1 =>
      rw [h1] at he
      simp only [hlk] at he
      obtain ⟨a, b⟩ := ih st1 (by omega) h1
      exact rj_step h hlk a b he

theorem st0_J (n : Nat) (l : List Con) : J n l (st0 n l.length) := by
  refine ⟨by simp [st0], fun b => ?_, zeros_lst (n + 1)⟩
  constructor
  · intro hb; simp [st0] at hb
  · intro hb
    obtain ⟨i, c, h1, h2, h3, h4⟩ := mem_accB.1 hb
    simp only [st0, List.getElem?_replicate] at h3
    split at h3 <;> simp at h3

theorem rj_out {n : Nat} {l : List Con} (h : ∀ c ∈ l, ConOk n c) (h0 : ∀ c ∈ l, 0 ≤ c.S) : ∀ s st', iOut l (st0 n l.length) s = some st' → J n l st' ∧ Rj n l (s : Int) 0 st' := by
  intro s
  induction s with
  | zero =>
    intro st' he
    injection he with he
    subst he
    exact ⟨st0_J n l, fun i c hi hp => by have := h0 c (List.mem_of_getElem? hi); omega⟩
  | succ s ih =>
    intro st' he
    simp only [iOut] at he
    cases h1 : iOut l (st0 n l.length) s with
    | none => rw [h1] at he; simp at he
    | some st1 =>
      rw [h1] at he
      obtain ⟨a, b⟩ := ih st1 h1
      obtain ⟨c1, c2⟩ := rj_in h a b l.length st' (Nat.le_refl _) he
      refine ⟨c1, fun i c hi hp => c2 i c hi ?_⟩
      have hil : i < l.length := by
        rcases Nat.lt_or_ge i l.length with h | h
        · exact h
        · rw [List.getElem?_eq_none h] at hi; cases hi
      omega

/-- What the solver's answer says. -/
structure Good (n : Nat) (l : List Con) (h : List Bool) (x : List Int) : Prop where
  hl : h.length = l.length
  xl : x.length = n
  ls : Lst (n + 1) (accB l h l.length) (0 :: x)
  rj : ∀ (i : Nat) (c : Con), l[i]? = some c → h[i]?.getD false = true ∨ (c.S ≠ 0 ∧ Infeas (n + 1) (accB l (h.set i true) l.length))

theorem iSolve_cases {n : Nat} {l : List Con} (hn : n ≤ 64) (hl : l.length ≤ 200) (hv : ∀ c ∈ l, validB n c = true) :
    (∃ h x, iSolve n l = .ok h x ∧ Good n l h x) ∨ iSolve n l = .err 13 := by
  have hok : ∀ c ∈ l, ConOk n c := fun c hc => ConOk_of_valid (hv c hc)
  have h0 : ∀ c ∈ l, 0 ≤ c.S ∧ c.S ≤ 3 := fun c hc => by
    have := hv c hc
    simp only [validB, decide_eq_true_eq] at this
    omega
  have e : iSolve n l = match iOut l (st0 n l.length) 4 with | none => .err 13 | some st => .ok st.held (st.v.drop 1) := by
    unfold iSolve
    rw [if_neg (by omega), if_neg (by omega), if_neg (by simpa using hv), Int.toNat_natCast]
    cases iOut l (st0 n l.length) 4 <;> rfl
  rw [e]
  rcases sim_all hok with ⟨x, st, a1, a2, a3⟩ | ⟨a1, a2⟩
  · left
    rw [a2]
    obtain ⟨b1, b2⟩ := rj_out hok (fun c hc => (h0 c hc).1) 4 st a2
    refine ⟨_, _, rfl, b1.dl, ?_, ?_, fun i c hi => ?_⟩
    · have := b1.ls.len
      simp [this]
    · have hv0 : st.v = 0 :: st.v.drop 1 := by rw [a3.vv]; rfl
      rw [← hv0]
      exact b1.ls.congr b1.hb
    · exact b2 i c hi (.inl (by have := (h0 c (List.mem_of_getElem? hi)).2; omega))
  · right
    rw [a2]

/-- Satisfied of the reference. -/
def satC (x : List Int) (c : Con) : Bool :=
  if c.R = 0 then decide (val x c.B + c.C ≤ val x c.A) else if c.R = 1 then decide (val x c.A ≤ val x c.B + c.C) else decide (val x c.A = val x c.B + c.C)

theorem satC_iff {n : Nat} {x : List Int} {c : Con} (hc : ConOk n c) : satC x c = true ↔ SatB (boundsOf c) (0 :: x) := by
  obtain ⟨h1, h2, h3, h4, h5, h6, h7, h8⟩ := hc
  have eA := g_ext x c.A h1
  have eB := g_ext x c.B h3
  unfold satC boundsOf SatB
  by_cases r0 : c.R = 0
  · rw [if_pos r0, if_pos r0]
    simp only [List.mem_singleton, forall_eq, decide_eq_true_eq]
    rw [eA, eB]
  · rw [if_neg r0, if_neg r0]
    by_cases r1 : c.R = 1
    · rw [if_pos r1, if_pos r1]
      simp only [List.mem_singleton, forall_eq, decide_eq_true_eq]
      rw [eA, eB]
      omega
    · rw [if_neg r1, if_neg r1]
      simp only [List.mem_cons, List.not_mem_nil, or_false, forall_eq_or_imp, forall_eq, decide_eq_true_eq]
      rw [eA, eB]
      omega

theorem good_sat {n : Nat} {l : List Con} {h : List Bool} {x : List Int} (hg : Good n l h x) (hok : ∀ c ∈ l, ConOk n c) {i : Nat} {c : Con} (hi : l[i]? = some c) : satC x c = h[i]?.getD false := by
  have hil : i < l.length := by
    rcases Nat.lt_or_ge i l.length with h | h
    · exact h
    · rw [List.getElem?_eq_none h] at hi; cases hi
  have hck := hok c (List.mem_of_getElem? hi)
  cases hh : h[i]?.getD false with
  | true => exact (satC_iff hck).2 fun b hb => hg.ls.sat b (mem_accB.2 ⟨i, c, hil, hi, hh, hb⟩)
  | false =>
    rcases hg.rj i c hi with h1 | ⟨_, h2⟩
    · rw [hh] at h1; cases h1
    · cases hs : satC x c with
      | false => rfl
      | true =>
        exfalso
        refine h2 (0 :: x) hg.ls.len hg.ls.inr fun b hb => ?_
        rcases (mem_accB_set hi hg.hl b).1 hb with hb | hb
        · exact hg.ls.sat b hb
        · exact (satC_iff hck).1 hs b hb
theorem good_req {n : Nat} {l : List Con} {h : List Bool} {x : List Int} (hg : Good n l h x) {i : Nat} {c : Con} (hi : l[i]? = some c) (h0 : c.S = 0) : h[i]?.getD false = true := by
  rcases hg.rj i c hi with h1 | ⟨h1, _⟩
  · exact h1
  · exact absurd h0 h1
theorem good_range {n : Nat} {l : List Con} {h : List Bool} {x : List Int} (hg : Good n l h x) : ∀ z ∈ x, 0 ≤ z ∧ z ≤ 1048576 := by
  intro z hz
  obtain ⟨j, hj, rfl⟩ := List.getElem_of_mem hz
  have := hg.ls.inr.2 (j + 1) (by have := hg.xl; omega)
  rw [g_cons_succ] at this
  simpa [g, List.getElem?_eq_getElem hj] using this
end Go.Proofs.Ytkdgeahfmmfopaa
