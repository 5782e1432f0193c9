/- The plain law of the constraint solver: lesser strengths do not turn what is held of the stronger. No program in sight. -/
import Derived.Test.YtkdgeahfmmfopaaP5
namespace Go.Proofs.Ytkdgeahfmmfopaa
set_option linter.unusedVariables false
set_option linter.unusedSimpArgs false

/-- The constraints among the first i whose strength is at most k, and their marks. -/
def subT (k : Int) (l : List Con) : Nat → List Con
  | 0 => []
  | i + 1 => subT k l i ++ (match l[i]? with | none => [] | some c => if c.S ≤ k then [c] else [])
def pickT (k : Int) (l : List Con) (h : List Bool) : Nat → List Bool
  | 0 => []
  | i + 1 => pickT k l h i ++ (match l[i]? with | none => [] | some c => if c.S ≤ k then [h[i]?.getD false] else [])

theorem subT_none {k : Int} {l : List Con} {i : Nat} (h : l[i]? = none) : subT k l (i + 1) = subT k l i := by simp [subT, h]
theorem subT_le {k : Int} {l : List Con} {i : Nat} {c : Con} (h : l[i]? = some c) (hc : c.S ≤ k) : subT k l (i + 1) = subT k l i ++ [c] := by simp [subT, h, hc]
theorem subT_gt {k : Int} {l : List Con} {i : Nat} {c : Con} (h : l[i]? = some c) (hc : ¬ c.S ≤ k) : subT k l (i + 1) = subT k l i := by simp [subT, h, hc]
theorem pickT_none {k : Int} {l : List Con} {m : List Bool} {i : Nat} (h : l[i]? = none) : pickT k l m (i + 1) = pickT k l m i := by simp [pickT, h]
theorem pickT_le {k : Int} {l : List Con} {m : List Bool} {i : Nat} {c : Con} (h : l[i]? = some c) (hc : c.S ≤ k) : pickT k l m (i + 1) = pickT k l m i ++ [m[i]?.getD false] := by simp [pickT, h, hc]
theorem pickT_gt {k : Int} {l : List Con} {m : List Bool} {i : Nat} {c : Con} (h : l[i]? = some c) (hc : ¬ c.S ≤ k) : pickT k l m (i + 1) = pickT k l m i := by simp [pickT, h, hc]

theorem pickT_len (k : Int) (l : List Con) (m : List Bool) (i : Nat) : (pickT k l m i).length = (subT k l i).length := by
  induction i with
  | zero => rfl
  | succ i ih =>
    cases h : l[i]? with
    | none => rw [subT_none h, pickT_none h, ih]
    | some c =>
      by_cases hc : c.S ≤ k
      · rw [subT_le h hc, pickT_le h hc, List.length_append, List.length_append, ih]; rfl
      · rw [subT_gt h hc, pickT_gt h hc, ih]
theorem subT_step (k : Int) (l : List Con) (i : Nat) : ∃ t, subT k l (i + 1) = subT k l i ++ t := ⟨_, rfl⟩
theorem subT_more (k : Int) (l : List Con) (i d : Nat) : ∃ t, subT k l (i + d) = subT k l i ++ t := by
  induction d with
  | zero => exact ⟨[], by simp⟩
  | succ d ih =>
    obtain ⟨t, ht⟩ := ih
    obtain ⟨u, hu⟩ := subT_step k l (i + d)
    exact ⟨t ++ u, by rw [← Nat.add_assoc, hu, ht, List.append_assoc]⟩
theorem subT_cnt_mono (k : Int) (l : List Con) {i j : Nat} (h : i ≤ j) : (subT k l i).length ≤ (subT k l j).length := by
  obtain ⟨t, ht⟩ := subT_more k l i (j - i)
  rw [show i + (j - i) = j by omega] at ht
  rw [ht, List.length_append]
  omega
theorem subT_at {k : Int} {l : List Con} {i m : Nat} {c : Con} (h : l[i]? = some c) (hc : c.S ≤ k) (hi : i < m) : (subT k l m)[(subT k l i).length]? = some c := by
  obtain ⟨t, ht⟩ := subT_more k l (i + 1) (m - (i + 1))
  rw [show i + 1 + (m - (i + 1)) = m by omega, subT_le h hc] at ht
  rw [ht, List.append_assoc, List.getElem?_append_right (Nat.le_refl _)]
  simp
theorem subT_mem {k : Int} {l : List Con} {i : Nat} {c : Con} (h : c ∈ subT k l i) : c ∈ l ∧ c.S ≤ k := by
  induction i with
  | zero => simp [subT] at h
  | succ i ih =>
    cases hl : l[i]? with
    | none => rw [subT_none hl] at h; exact ih h
    | some d =>
      by_cases hc : d.S ≤ k
      · rw [subT_le hl hc] at h
        rcases List.mem_append.1 h with h | h
        · exact ih h
        · simp at h; subst h; exact ⟨List.mem_of_getElem? hl, hc⟩
      · rw [subT_gt hl hc] at h; exact ih h
theorem subT_len_le (k : Int) (l : List Con) (i : Nat) : (subT k l i).length ≤ i := by
  induction i with
  | zero => simp [subT]
  | succ i ih =>
    cases hl : l[i]? with
    | none => rw [subT_none hl]; omega
    | some d =>
      by_cases hc : d.S ≤ k
      · rw [subT_le hl hc, List.length_append]; simp; omega
      · rw [subT_gt hl hc]; omega

theorem pickT_set_gt {k : Int} {l : List Con} {h : List Bool} {i : Nat} {c : Con} (hc : l[i]? = some c) (hk : ¬ c.S ≤ k) (m : Nat) : pickT k l (h.set i true) m = pickT k l h m := by
  induction m with
  | zero => rfl
  | succ m ih =>
    cases hl : l[m]? with
    | none => rw [pickT_none hl, pickT_none hl, ih]
    | some d =>
      by_cases hd : d.S ≤ k
      · have hne : i ≠ m := by rintro rfl; rw [hc] at hl; injection hl with hl; subst hl; exact hk hd
        rw [pickT_le hl hd, pickT_le hl hd, ih, List.getElem?_set_ne hne]
      · rw [pickT_gt hl hd, pickT_gt hl hd, ih]
theorem pickT_set_le {k : Int} {l : List Con} {h : List Bool} {i : Nat} {c : Con} (hc : l[i]? = some c) (hk : c.S ≤ k) (hi : i < h.length) (m : Nat) :
    pickT k l (h.set i true) m = if i < m then (pickT k l h m).set (subT k l i).length true else pickT k l h m := by
  induction m with
  | zero => rfl
  | succ m ih =>
    cases hl : l[m]? with
    | none =>
      have hne : i ≠ m := by rintro rfl; rw [hc] at hl; cases hl
      rw [pickT_none hl, pickT_none hl, ih]
      by_cases him : i < m
      · rw [if_pos him, if_pos (by omega)]
      · rw [if_neg him, if_neg (by omega)]
    | some d =>
      by_cases hd : d.S ≤ k
      · rw [pickT_le hl hd, pickT_le hl hd, ih]
        by_cases hne : i = m
        · subst hne
          rw [if_neg (by omega), if_pos (by omega), List.set_append_right _ _ (by rw [pickT_len]; exact Nat.le_refl _), pickT_len]
          simp [hi]
        · rw [List.getElem?_set_ne hne]
          by_cases him : i < m
          · rw [if_pos him, if_pos (by omega), List.set_append_left]
            rw [pickT_len]
            have := subT_cnt_mono k l (show i + 1 ≤ m by omega)
            rw [subT_le hc hk, List.length_append] at this
            simp at this
            omega
          · rw [if_neg him, if_neg (by omega)]
      · have hne : i ≠ m := by rintro rfl; rw [hc] at hl; injection hl with hl; subst hl; exact hd hk
        rw [pickT_gt hl hd, pickT_gt hl hd, ih]
        by_cases him : i < m
        · rw [if_pos him, if_pos (by omega)]
        · rw [if_neg him, if_neg (by omega)]

/-- The solver's state over all constraints beside its state over the strong ones. -/
structure LS (k : Int) (l : List Con) (st st' : St) : Prop where
  v : st'.v = st.v
  hb : st'.hb = st.hb
  hd : st'.held = pickT k l st.held l.length
  dl : st.held.length = l.length

theorem ls_step {k s : Int} {l : List Con} {st st' : St} {i : Nat} {c : Con} (hs : s ≤ k) (hc : l[i]? = some c) (hk : c.S ≤ k) (h : LS k l st st') :
    (∃ t t', iStep s i c st = some t ∧ iStep s (subT k l i).length c st' = some t' ∧ LS k l t t') ∨ (iStep s i c st = none ∧ iStep s (subT k l i).length c st' = none) := by
  have hil : i < l.length := by
    rcases Nat.lt_or_ge i l.length with h | h
    · exact h
    · rw [List.getElem?_eq_none h] at hc; cases hc
  unfold iStep
  by_cases hS : c.S = s
  · rw [if_neg (show ¬ c.S ≠ s by simpa using hS), if_neg (show ¬ c.S ≠ s by simpa using hS), h.v, h.hb]
    cases hi : iRaise st.v (st.hb ++ boundsOf c) with
    | none =>
      simp only
      by_cases h0 : s = 0
      · rw [if_pos h0, if_pos h0]; exact .inr ⟨rfl, rfl⟩
      · rw [if_neg h0, if_neg h0]; exact .inl ⟨_, _, rfl, rfl, h⟩
    | some v =>
      refine .inl ⟨_, _, rfl, rfl, rfl, rfl, ?_, by simpa using h.dl⟩
      show st'.held.set _ true = pickT k l (st.held.set i true) l.length
      rw [pickT_set_le hc hk (by rw [h.dl]; exact hil), if_pos hil, h.hd]
  · rw [if_pos hS, if_pos hS]
    exact .inl ⟨_, _, rfl, rfl, h⟩

theorem ls_in {k s : Int} {l : List Con} {st st' : St} (hs : s ≤ k) (h : LS k l st st') : ∀ i, i ≤ l.length →
    (∃ t t', iIn s l st i = some t ∧ iIn s (subT k l l.length) st' (subT k l i).length = some t' ∧ LS k l t t') ∨ (iIn s l st i = none ∧ iIn s (subT k l l.length) st' (subT k l i).length = none) := by
  intro i
  induction i with
  | zero => intro _; exact .inl ⟨_, _, rfl, rfl, h⟩
  | succ i ih =>
    intro hi
    have hli : l[i]? = some l[i] := List.getElem?_eq_getElem (by omega)
    rcases ih (by omega) with ⟨t, t', a1, a2, a3⟩ | ⟨a1, a2⟩
    · by_cases hc : l[i].S ≤ k
      · rw [subT_le hli hc, List.length_append]
        simp only [iIn, a1, hli, List.length_singleton, a2, subT_at hli hc (show i < l.length by omega)]
        exact ls_step hs hli hc a3
      · rw [subT_gt hli hc]
        simp only [iIn, a1, hli]
        left
        refine ⟨t, t', ?_, a2, a3⟩
        unfold iStep
        rw [if_pos (by omega)]
    · right
      by_cases hc : l[i].S ≤ k
      · rw [subT_le hli hc, List.length_append]
        simp only [iIn, a1, List.length_singleton, a2]
        exact ⟨trivial, trivial⟩
      · rw [subT_gt hli hc]
        simp only [iIn, a1]
        exact ⟨trivial, a2⟩

theorem iIn_skip {s : Int} {l : List Con} {st : St} (h : ∀ c ∈ l, c.S ≠ s) : ∀ i, iIn s l st i = some st := by
  intro i
  induction i with
  | zero => rfl
  | succ i ih =>
    simp only [iIn, ih]
    cases hl : l[i]? with
    | none => rfl
    | some c =>
      simp only
      unfold iStep
      rw [if_pos (h c (List.mem_of_getElem? hl))]

theorem ls_above {k s : Int} {l : List Con} {st st' : St} (hs : k < s) (h0 : s ≠ 0) (h : LS k l st st') : ∀ i, i ≤ l.length → ∃ t, iIn s l st i = some t ∧ t.held.length = l.length ∧ pickT k l t.held l.length = pickT k l st.held l.length := by
  intro i
  induction i with
  | zero => intro _; exact ⟨st, rfl, h.dl, rfl⟩
  | succ i ih =>
    intro hi
    obtain ⟨t, a1, a2, a3⟩ := ih (by omega)
    have hli : l[i]? = some l[i] := List.getElem?_eq_getElem (by omega)
    simp only [iIn, a1, hli]
    unfold iStep
    by_cases hS : l[i].S = s
    · rw [if_neg (show ¬ l[i].S ≠ s by simpa using hS)]
      cases iRaise t.v (t.hb ++ boundsOf l[i]) with
      | none => simp only; rw [if_neg h0]; exact ⟨t, rfl, a2, a3⟩
      | some v =>
        refine ⟨_, rfl, by simpa using a2, ?_⟩
        show pickT k l (t.held.set i true) l.length = _
        rw [pickT_set_gt hli (by omega), a3]
    · rw [if_pos hS]; exact ⟨t, rfl, a2, a3⟩

/-- Beside each other, after all strengths below s. -/
theorem ls_out {k : Nat} {l : List Con} {st st' : St} (h : LS k l st st') : ∀ s : Nat,
    (∃ t t', iOut l st s = some t ∧ iOut (subT k l l.length) st' s = some t' ∧ t.held.length = l.length ∧ t'.held = pickT k l t.held l.length ∧ (s ≤ k + 1 → LS k l t t')) ∨ (iOut l st s = none ∧ iOut (subT k l l.length) st' s = none) := by
  intro s
  induction s with
  | zero => exact .inl ⟨st, st', rfl, rfl, h.dl, h.hd, fun _ => h⟩
  | succ s ih =>
    rcases ih with ⟨t, t', a1, a2, a3, a4, a5⟩ | ⟨a1, a2⟩
    · simp only [iOut, a1, a2]
      by_cases hs : s ≤ k
      · rcases ls_in (s := (s : Int)) (by omega) (a5 (by omega)) l.length (Nat.le_refl _) with ⟨u, u', b1, b2, b3⟩ | ⟨b1, b2⟩
        · exact .inl ⟨u, u', b1, b2, b3.dl, b3.hd, fun _ => b3⟩
        · exact .inr ⟨b1, b2⟩
      · left
        rw [iIn_skip (l := subT (k : Int) l l.length) (st := t') (fun c hc => by have := (subT_mem hc).2; omega)]
        have hls : ∀ t0 : St, t0.held.length = l.length → LS k l t0 ⟨t0.v, t0.hb, pickT k l t0.held l.length⟩ := fun t0 h0 => ⟨rfl, rfl, rfl, h0⟩
        obtain ⟨u, b1, b2, b3⟩ := ls_above (s := (s : Int)) (by omega) (by omega) (hls t a3) l.length (Nat.le_refl _)
        exact ⟨u, t', b1, rfl, b2, by rw [a4, b3], fun h => by omega⟩
    · right
      simp only [iOut, a1, a2]
      exact ⟨trivial, trivial⟩

theorem pickT_zeros (k : Int) (l : List Con) (m i : Nat) : pickT k l (List.replicate m false) i = List.replicate (subT k l i).length false := by
  induction i with
  | zero => rfl
  | succ i ih =>
    cases hl : l[i]? with
    | none => rw [pickT_none hl, subT_none hl, ih]
    | some d =>
      by_cases hd : d.S ≤ k
      · have e : (List.replicate m false)[i]?.getD false = false := by
          rw [List.getElem?_replicate]; split <;> rfl
        rw [pickT_le hl hd, subT_le hl hd, ih, e, List.length_append, List.length_singleton, List.replicate_succ']
      · rw [pickT_gt hl hd, subT_gt hl hd, ih]

/-- The strong constraints alone are solved with the same marks; or both are refused. -/
theorem strong_solved {n : Nat} {l : List Con} (k : Nat) (hn : n ≤ 64) (hl : l.length ≤ 200) (hv : ∀ c ∈ l, validB n c = true) :
    (∃ h x x', iSolve n l = .ok h x ∧ iSolve n (subT k l l.length) = .ok (pickT k l h l.length) x' ∧ h.length = l.length) ∨ (iSolve n l = .err 13 ∧ iSolve n (subT k l l.length) = .err 13) := by
  rw [iSolve_out hn hl hv, iSolve_out hn (Nat.le_trans (subT_len_le _ _ _) hl) (fun c hc => hv c (subT_mem hc).1)]
  have h0 : LS k l (st0 n l.length) (st0 n (subT k l l.length).length) := ⟨rfl, rfl, by simp only [st0, pickT_zeros], by simp [st0]⟩
  rcases ls_out h0 4 with ⟨t, t', a1, a2, a3, a4, _⟩ | ⟨a1, a2⟩
  · left
    rw [a1, a2]
    exact ⟨_, _, t'.v.drop 1, rfl, by rw [← a4], a3⟩
  · right
    rw [a1, a2]
    exact ⟨rfl, rfl⟩
end Go.Proofs.Ytkdgeahfmmfopaa
