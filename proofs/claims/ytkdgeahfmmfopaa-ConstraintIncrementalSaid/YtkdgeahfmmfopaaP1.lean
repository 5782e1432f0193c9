/- The plain law of the constraint solver: sweeps over bounds reach the least solution, or there is none. No program in sight. -/
import Derived.Test.YtkdgeahfmmfopaaB2
namespace Go.Proofs.Ytkdgeahfmmfopaa
set_option linter.unusedVariables false
set_option linter.unusedSimpArgs false

/-- Cell i of a list of numbers. -/
def g (p : List Int) (i : Nat) : Int := p[i]?.getD 0

def SatB (L : List Bd) (y : List Int) : Prop := ∀ b ∈ L, g y b.f.toNat + b.c ≤ g y b.t.toNat
def Le (n : Nat) (p q : List Int) : Prop := ∀ i, i < n → g p i ≤ g q i
def InR (n : Nat) (y : List Int) : Prop := g y 0 ≤ 0 ∧ ∀ i, i < n → 0 ≤ g y i ∧ g y i ≤ 1048576
def BdIn (n : Nat) (L : List Bd) : Prop := ∀ b ∈ L, b.f.toNat < n ∧ b.t.toNat < n

theorem g_set (p : List Int) (i j : Nat) (x : Int) (hi : i < p.length) : g (p.set i x) j = if j = i then x else g p j := by
  unfold g
  rw [List.getElem?_set]
  by_cases h : i = j
  · subst h; simp [hi]
  · rw [if_neg h, if_neg (Ne.symm h)]

theorem stepSw_spec {n : Nat} {p : List Int} {ch : Bool} {b : Bd} (hl : p.length = n) (hf : b.f.toNat < n) (ht : b.t.toNat < n) :
    (stepSw (p, ch) b).1.length = n ∧ Le n p (stepSw (p, ch) b).1 ∧ g p b.f.toNat + b.c ≤ g (stepSw (p, ch) b).1 b.t.toNat ∧ (∀ y, Le n p y → g y b.f.toNat + b.c ≤ g y b.t.toNat → Le n (stepSw (p, ch) b).1 y) ∧
      ((stepSw (p, ch) b).2 = false → ch = false ∧ (stepSw (p, ch) b).1 = p ∧ g p b.f.toNat + b.c ≤ g p b.t.toNat) ∧ ((stepSw (p, ch) b).2 = true → ch = true ∨ g p b.t.toNat < g p b.f.toNat + b.c) := by
  unfold stepSw
  dsimp only
  split
  · rename_i hlt
    change g p b.t.toNat < g p b.f.toNat + b.c at hlt
    refine ⟨by simpa using hl, ?_, ?_, ?_, by simp, fun _ => .inr hlt⟩
    · intro i hi
      rw [g_set _ _ _ _ (by omega)]
      split
      · rename_i h; subst h; exact Int.le_of_lt hlt
      · exact Int.le_refl _
    · rw [g_set _ _ _ _ (by omega), if_pos rfl]; exact Int.le_refl _
    · intro y hy hb i hi
      rw [g_set _ _ _ _ (by omega)]
      split
      · rename_i h; subst h
        have := hy _ hf
        change g p b.f.toNat + b.c ≤ _
        omega
      · exact hy i hi
  · rename_i hlt
    change ¬ g p b.t.toNat < g p b.f.toNat + b.c at hlt
    have hge : g p b.f.toNat + b.c ≤ g p b.t.toNat := by omega
    exact ⟨hl, fun i _ => Int.le_refl _, hge, fun y hy _ => hy, fun h => ⟨h, rfl, hge⟩, fun h => .inl h⟩

theorem Le.trans {n : Nat} {p q r : List Int} (h : Le n p q) (k : Le n q r) : Le n p r := fun i hi => Int.le_trans (h i hi) (k i hi)

theorem sw_spec {n : Nat} {vs : List Int} {L : List Bd} (hl : vs.length = n) (hL : BdIn n L) : ∀ k, k ≤ L.length →
    (sw vs L k).1.length = n ∧ Le n vs (sw vs L k).1 ∧ (∀ y, Le n vs y → SatB L y → Le n (sw vs L k).1 y) ∧
      ((sw vs L k).2 = false → (sw vs L k).1 = vs ∧ ∀ j, j < k → ∀ b, L[j]? = some b → g vs b.f.toNat + b.c ≤ g vs b.t.toNat) ∧
      (∀ j, j < k → ∀ b, L[j]? = some b → ∀ y, Le n vs y → SatB L y → g vs b.f.toNat = g y b.f.toNat → g y b.f.toNat + b.c ≤ g (sw vs L k).1 b.t.toNat) := by
  intro k
  induction k with
  | zero => intro _; exact ⟨hl, fun i _ => Int.le_refl _, fun y hy _ => hy, fun _ => ⟨rfl, fun j hj => by omega⟩, fun j hj => by omega⟩
  | succ k ih =>
    intro hk
    obtain ⟨h1, h2, h3, h4, h5⟩ := ih (by omega)
    have hLk : L[k]? = some L[k] := List.getElem?_eq_getElem (by omega)
    have hb := hL _ (List.mem_of_getElem? hLk)
    have e : sw vs L (k + 1) = stepSw ((sw vs L k).1, (sw vs L k).2) L[k] := by simp only [sw, hLk]
    obtain ⟨s1, s2, s3, s4, s5, s6⟩ := stepSw_spec (ch := (sw vs L k).2) h1 hb.1 hb.2
    rw [← e] at s1 s2 s3 s4 s5 s6
    refine ⟨s1, h2.trans s2, fun y hy hs => s4 y (h3 y hy hs) (hs _ (List.mem_of_getElem? hLk)), ?_, ?_⟩
    · intro hf
      obtain ⟨t1, t2, t3⟩ := s5 hf
      obtain ⟨u1, u2⟩ := h4 t1
      rw [t2, u1]
      refine ⟨rfl, fun j hj b hjb => ?_⟩
      by_cases hjk : j = k
      · subst hjk
        rw [hLk] at hjb
        injection hjb with hjb
        subst hjb
        rwa [u1] at t3
      · exact u2 j (by omega) b hjb
    · intro j hj b hjb y hy hs hfin
      by_cases hjk : j = k
      · subst hjk
        rw [hLk] at hjb
        injection hjb with hjb
        subst hjb
        have a1 := h2 _ hb.1
        have a2 := h3 y hy hs _ hb.1
        omega
      · have := h5 j (by omega) b hjb y hy hs hfin
        have b2 := hL b (List.mem_of_getElem? hjb)
        have := s2 _ b2.2
        omega

/-- How many of the first n cells agree. -/
def agree (p y : List Int) : Nat → Nat
  | 0 => 0
  | n + 1 => agree p y n + if g p n = g y n then 1 else 0
theorem agree_le (p y : List Int) (n : Nat) : agree p y n ≤ n := by
  induction n with
  | zero => exact Nat.le_refl _
  | succ n ih => simp only [agree]; split <;> omega
theorem agree_full {p y : List Int} {n : Nat} (h : agree p y n = n) : ∀ i, i < n → g p i = g y i := by
  induction n with
  | zero => intro i hi; omega
  | succ n ih =>
    have hle := agree_le p y n
    simp only [agree] at h
    split at h
    · rename_i e
      intro i hi
      by_cases hin : i = n
      · subst hin; exact e
      · exact ih (by omega) i (by omega)
    · omega
theorem agree_mono {p q y : List Int} {n : Nat} (h : ∀ i, i < n → g p i = g y i → g q i = g y i) : agree p y n ≤ agree q y n := by
  induction n with
  | zero => exact Nat.le_refl _
  | succ n ih =>
    have := ih fun i hi => h i (by omega)
    simp only [agree]
    by_cases e : g p n = g y n
    · rw [if_pos e, if_pos (h n (by omega) e)]; omega
    · rw [if_neg e]; split <;> omega
theorem agree_lt {p q y : List Int} {n t : Nat} (ht : t < n) (h : ∀ i, i < n → g p i = g y i → g q i = g y i) (h1 : g p t ≠ g y t) (h2 : g q t = g y t) : agree p y n < agree q y n := by
  induction n with
  | zero => omega
  | succ n ih =>
    simp only [agree]
    by_cases e : t = n
    · subst e
      have := agree_mono (p := p) (q := q) (y := y) (n := t) fun i hi => h i (by omega)
      rw [if_neg h1, if_pos h2]; omega
    · have := ih (by omega) fun i hi => h i (by omega)
      by_cases e2 : g p n = g y n
      · rw [if_pos e2, if_pos (h n (by omega) e2)]; omega
      · rw [if_neg e2]; split <;> omega

/-- The sum of the first n cells. -/
def total (y : List Int) : Nat → Int
  | 0 => 0
  | n + 1 => total y n + g y n
theorem total_le {p q : List Int} {n : Nat} (h : Le n p q) : total p n ≤ total q n := by
  induction n with
  | zero => exact Int.le_refl _
  | succ n ih =>
    have := ih fun i hi => h i (by omega)
    have := h n (by omega)
    simp only [total]; omega

/-- A list of n cells by its function. -/
def mk (n : Nat) (f : Nat → Int) : List Int := (List.range n).map f
theorem mk_length (n : Nat) (f : Nat → Int) : (mk n f).length = n := by simp [mk]
theorem g_mk (n : Nat) (f : Nat → Int) (i : Nat) (hi : i < n) : g (mk n f) i = f i := by simp [g, mk, hi]

theorem total_lt {p q : List Int} {n t : Nat} (h : Le n p q) (ht : t < n) (hlt : g p t < g q t) : total p n < total q n := by
  induction n with
  | zero => omega
  | succ n ih =>
    simp only [total]
    by_cases e : t = n
    · subst e
      have := total_le (p := p) (q := q) (n := t) fun i hi => h i (by omega)
      omega
    · have := ih (fun i hi => h i (by omega)) (by omega)
      have := h n (by omega)
      omega

/-- A solution between vs and y0 of least sum. -/
theorem least_sum {n : Nat} {vs : List Int} {L : List Bd} : ∀ (m : Nat) (y : List Int), (total y n - total vs n).toNat ≤ m → y.length = n → Le n vs y → SatB L y →
    ∃ z, z.length = n ∧ Le n vs z ∧ Le n z y ∧ SatB L z ∧ ∀ z', z'.length = n → Le n vs z' → Le n z' z → SatB L z' → ∀ i, i < n → g z i ≤ g z' i := by
  intro m
  induction m with
  | zero =>
    intro y hm hl hv hs
    refine ⟨y, hl, hv, fun i _ => Int.le_refl _, hs, fun z' hl' hv' hz' hs' i hi => ?_⟩
    rcases Int.lt_or_le (g z' i) (g y i) with hlt | hge
    · have := total_lt hz' hi hlt
      have := total_le hv'
      omega
    · exact hge
  | succ m ih =>
    intro y hm hl hv hs
    by_cases hex : ∃ z', z'.length = n ∧ Le n vs z' ∧ Le n z' y ∧ SatB L z' ∧ ∃ i, i < n ∧ g z' i < g y i
    · obtain ⟨z', a1, a2, a3, a4, i, hi, hlt⟩ := hex
      have h1 := total_lt a3 hi hlt
      have h2 := total_le a2
      obtain ⟨z, b1, b2, b3, b4, b5⟩ := ih z' (by omega) a1 a2 a4
      exact ⟨z, b1, b2, b3.trans a3, b4, b5⟩
    · refine ⟨y, hl, hv, fun i _ => Int.le_refl _, hs, fun z' hl' hv' hz' hs' i hi => ?_⟩
      rcases Int.lt_or_le (g z' i) (g y i) with hlt | hge
      · exact absurd ⟨z', hl', hv', hz', hs', i, hi, hlt⟩ hex
      · exact hge

/-- Where the values are not yet the least solution, a tight bound leads from a final cell to one that is not. -/
theorem tight {n : Nat} {vs p y : List Int} {L : List Bd} (hL : BdIn n L) (hvp : Le n vs p) (hpy : Le n p y) (hs : SatB L y)
    (hmin : ∀ z', z'.length = n → Le n vs z' → Le n z' y → SatB L z' → ∀ i, i < n → g y i ≤ g z' i) (hne : ∃ i, i < n ∧ g p i ≠ g y i) :
    ∃ b ∈ L, g p b.f.toNat = g y b.f.toNat ∧ g p b.t.toNat ≠ g y b.t.toNat ∧ g y b.t.toNat ≤ g y b.f.toNat + b.c := by
  by_cases hex : ∃ b ∈ L, g p b.f.toNat = g y b.f.toNat ∧ g p b.t.toNat ≠ g y b.t.toNat ∧ g y b.t.toNat ≤ g y b.f.toNat + b.c
  · exact hex
  · exfalso
    obtain ⟨i, hi, hne⟩ := hne
    let z := mk n fun i => if g p i = g y i then g y i else g y i - 1
    have hz : ∀ i, i < n → g z i = if g p i = g y i then g y i else g y i - 1 := fun i hi => g_mk _ _ _ hi
    have := hmin z (mk_length _ _) (fun i hi => by
        rw [hz i hi]
        have a := hvp i hi
        have b := hpy i hi
        split <;> omega) (fun i hi => by rw [hz i hi]; split <;> omega) (fun b hb => by
        obtain ⟨h1, h2⟩ := hL b hb
        rw [hz _ h1, hz _ h2]
        have hsb := hs b hb
        have hnb : ¬ (g p b.f.toNat = g y b.f.toNat ∧ g p b.t.toNat ≠ g y b.t.toNat ∧ g y b.t.toNat ≤ g y b.f.toNat + b.c) := fun h => hex ⟨b, hb, h⟩
        split
        · split
          · exact hsb
          · rename_i e1 e2
            have : ¬ g y b.t.toNat ≤ g y b.f.toNat + b.c := fun h => hnb ⟨e1, e2, h⟩
            omega
        · split <;> omega) i hi
    rw [hz i hi, if_neg hne] at this
    omega

/-- The rounds without a bound on their number but the fuel. -/
def bf (L : List Bd) : Nat → List Int → Option (List Int)
  | 0, _ => none
  | f + 1, p =>
    if badB (sw p L L.length).1 then none
    else if (sw p L L.length).2 = false then some (sw p L L.length).1
    else bf L f (sw p L L.length).1

theorem iGo_bf {n : Nat} {L : List Bd} : ∀ (f r : Nat) (p : List Int), f = n + 2 - r → iGo n L f r p = bf L f p := by
  intro f
  induction f with
  | zero => intro r p _; rfl
  | succ f ih =>
    intro r p h
    simp only [iGo, bf]
    split
    · rfl
    · split
      · rfl
      · split
        · have : f = 0 := by omega
          subst this
          rfl
        · exact ih (r + 1) _ (by omega)

theorem badB_false {n : Nat} {p : List Int} (hl : p.length = n) (h0 : g p 0 ≤ 0) (h : ∀ i, i < n → g p i ≤ 1048576) : badB p = false := by
  have hmax : ∀ k, k ≤ p.length → maxUpTo p k ≤ 1048576 := by
    intro k
    induction k with
    | zero =>
      intro _
      simp only [maxUpTo]
      change g p 0 ≤ _
      omega
    | succ k ih =>
      intro hk
      simp only [maxUpTo]
      split
      · exact h k (by omega)
      · exact ih (by omega)
  have h1 := hmax p.length (Nat.le_refl _)
  simp only [badB, Bool.or_eq_false_iff, decide_eq_false_iff_not]
  exact ⟨Int.not_lt.2 h0, Int.not_lt.2 h1⟩
theorem badB_true {n : Nat} {p : List Int} (hl : p.length = n) (h : badB p = false) : g p 0 ≤ 0 ∧ ∀ i, i < n → g p i ≤ 1048576 := by
  simp only [badB, Bool.or_eq_false_iff, decide_eq_false_iff_not] at h
  exact ⟨Int.not_lt.1 h.1, fun i hi => maxUpTo_le (Int.not_lt.1 h.2) i (by omega)⟩

theorem bf_some {n : Nat} {L : List Bd} (hL : BdIn n L) : ∀ (f : Nat) (p q : List Int), p.length = n → bf L f p = some q →
    q.length = n ∧ Le n p q ∧ SatB L q ∧ g q 0 ≤ 0 ∧ (∀ i, i < n → g q i ≤ 1048576) ∧ ∀ y, Le n p y → SatB L y → Le n q y := by
  intro f
  induction f with
  | zero => intro p q _ h; simp [bf] at h
  | succ f ih =>
    intro p q hl h
    obtain ⟨h1, h2, h3, h4, h5⟩ := sw_spec hl hL L.length (Nat.le_refl _)
    simp only [bf] at h
    split at h
    · cases h
    · rename_i hbad
      have hbad' : badB (sw p L L.length).1 = false := by simpa using hbad
      split at h
      · rename_i hch
        injection h with h
        obtain ⟨e1, e2⟩ := h4 hch
        obtain ⟨b1, b2⟩ := badB_true h1 hbad'
        rw [h] at h1 h2 h3 b1 b2 e1
        subst e1
        refine ⟨h1, h2, fun b hb => ?_, b1, b2, fun y hy _ => hy⟩
        obtain ⟨j, hj, rfl⟩ := List.getElem_of_mem hb
        exact e2 j hj _ (List.getElem?_eq_getElem hj)
      · obtain ⟨c1, c2, c3, c4, c5, c6⟩ := ih _ _ h1 h
        exact ⟨c1, h2.trans c2, c3, c4, c5, fun y hy hs => c6 y (h3 y hy hs) hs⟩

theorem bf_reach {n : Nat} {L : List Bd} {vs y : List Int} (hL : BdIn n L) (hs : SatB L y) (hy0 : g y 0 ≤ 0) (hyM : ∀ i, i < n → g y i ≤ 1048576)
    (hmin : ∀ z', z'.length = n → Le n vs z' → Le n z' y → SatB L z' → ∀ i, i < n → g y i ≤ g z' i) :
    ∀ (f r : Nat) (p : List Int), p.length = n → Le n vs p → Le n p y → r ≤ agree p y n → r ≤ n → n + 1 - r ≤ f → 0 < n → bf L f p ≠ none := by
  intro f
  induction f with
  | zero => intro r p _ _ _ _ _ hf; omega
  | succ f ih =>
    intro r p hl hvp hpy hr hrn hf hn
    obtain ⟨h1, h2, h3, h4, h5⟩ := sw_spec hl hL L.length (Nat.le_refl _)
    have hqy := h3 y hpy hs
    have hgood : badB (sw p L L.length).1 = false := badB_false h1 (Int.le_trans (hqy 0 hn) hy0) fun i hi => Int.le_trans (hqy i hi) (hyM i hi)
    simp only [bf, hgood]
    split
    · contradiction
    · split
      · simp
      · rename_i hch
        -- something was raised: p is not y
        have hne : ∃ i, i < n ∧ g p i ≠ g y i := by
          by_cases hex : ∃ i, i < n ∧ g p i ≠ g y i
          · exact hex
          · exfalso
            have heq : ∀ i, i < n → g p i = g y i := fun i hi => by
              by_cases e : g p i = g y i
              · exact e
              · exact absurd ⟨i, hi, e⟩ hex
            -- then no bound raises
            have hnone : ∀ k, k ≤ L.length → sw p L k = (p, false) := by
              intro k
              induction k with
              | zero => intro _; rfl
              | succ k ihk =>
                intro hk
                have hLk : L[k]? = some L[k] := List.getElem?_eq_getElem (by omega)
                have hb := hL _ (List.mem_of_getElem? hLk)
                simp only [sw, hLk, ihk (by omega)]
                unfold stepSw
                rw [if_neg]
                have := hs _ (List.mem_of_getElem? hLk)
                rw [← heq _ hb.1, ← heq _ hb.2] at this
                change ¬ g p _ < g p _ + _
                omega
            exact hch (by rw [hnone _ (Nat.le_refl _)])
        obtain ⟨b, hb, t1, t2, t3⟩ := tight hL hvp hpy hs hmin hne
        obtain ⟨j, hj, rfl⟩ := List.getElem_of_mem hb
        have hbi := hL _ hb
        have hfin := h5 j hj _ (List.getElem?_eq_getElem hj) y hpy hs t1
        have hlt := agree_lt (p := p) (q := (sw p L L.length).1) (y := y) (n := n) hbi.2 (fun i hi e => by
            have a := h2 i hi
            have c := hqy i hi
            omega) t2 (by have c := hqy _ hbi.2; omega)
        have hle := agree_le (sw p L L.length).1 y n
        exact ih (r + 1) _ h1 (hvp.trans h2) hqy (by omega) (by omega) (by omega) hn

/-- If the rounds end without an answer there is no solution. -/
theorem bf_none {n : Nat} {L : List Bd} {vs : List Int} (hL : BdIn n L) (hn : 0 < n) (hl : vs.length = n) (f : Nat) (hf : n + 1 ≤ f) (h : bf L f vs = none) :
    ∀ y, y.length = n → Le n vs y → SatB L y → g y 0 ≤ 0 → (∀ i, i < n → g y i ≤ 1048576) → False := by
  intro y hyl hv hs h0 hM
  obtain ⟨z, a1, a2, a3, a4, a5⟩ := least_sum (n := n) (vs := vs) (L := L) _ y (Nat.le_refl _) hyl hv hs
  exact bf_reach hL a4 (Int.le_trans (a3 0 hn) h0) (fun i hi => Int.le_trans (a3 i hi) (hM i hi)) a5 f 0 vs hl (fun i _ => Int.le_refl _) a2 (by omega) (by omega) (by omega) hn h
end Go.Proofs.Ytkdgeahfmmfopaa
