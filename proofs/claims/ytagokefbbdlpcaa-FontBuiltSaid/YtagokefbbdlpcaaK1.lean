/- Plain: what a binary search in a strictly ordered list of pairs finds. -/
import Derived.Test.YtagokefbbdlpcaaF3
namespace Go.Proofs.Ytagokefbbdlpcaa
set_option linter.unusedVariables false
set_option linter.unusedSimpArgs false
open Go.RowKit

section
variable {α : Type} (ka kb : α → Int)
def klt (x y : α) : Bool := ltB (ka x) (kb x) (ka y) (kb y)

theorem ltB_trans {a b c d e f : Int} (h : ltB a b c d = true) (k : ltB c d e f = true) : ltB a b e f = true := by
  simp only [ltB, decide_eq_true_eq] at *
  omega
theorem ltB_irr {a b c d : Int} (h : ltB a b c d = true) : ¬ (a = c ∧ b = d) := by
  simp only [ltB, decide_eq_true_eq] at *
  omega

theorem pw_head {x : α} {t : List α} (h : pw (klt ka kb) (x :: t) = true) : pw (klt ka kb) t = true ∧ ∀ y ∈ t, klt ka kb x y = true := by
  induction t generalizing x with
  | nil => exact ⟨rfl, fun y hy => by simp at hy⟩
  | cons z t ih =>
    simp only [pw, Bool.and_eq_true] at h
    obtain ⟨_, h2⟩ := ih h.2
    refine ⟨h.2, fun y hy => ?_⟩
    rcases List.mem_cons.1 hy with rfl | hy
    · exact h.1
    · exact ltB_trans h.1 (h2 y hy)

/-- The first entry of a key. -/
def firstK (a b : Int) : List α → Option α
  | [] => none
  | x :: t => if ka x = a ∧ kb x = b then some x else firstK a b t

theorem firstK_at {a b : Int} {l : List α} (h : pw (klt ka kb) l = true) {i : Nat} {x : α} (hx : l[i]? = some x) (ha : ka x = a) (hb : kb x = b) : firstK ka kb a b l = some x := by
  induction l generalizing i with
  | nil => simp at hx
  | cons y t ih =>
    obtain ⟨h1, h2⟩ := pw_head ka kb h
    match i, hx with
    | 0, hx =>
      simp at hx
      subst hx
      rw [firstK, if_pos ⟨ha, hb⟩]
    | i + 1, hx =>
      have hx' : t[i]? = some x := by simpa using hx
      have hlt := h2 x (List.mem_of_getElem? hx')
      rw [firstK, if_neg ?_]
      · exact ih h1 hx'
      · have := ltB_irr hlt
        rw [ha, hb] at this
        exact this
theorem firstK_none {a b : Int} {l : List α} (h : ∀ (k : Nat) (y : α), l[k]? = some y → ¬ (ka y = a ∧ kb y = b)) : firstK ka kb a b l = none := by
  induction l with
  | nil => rfl
  | cons y t ih =>
    rw [firstK, if_neg (h 0 y rfl)]
    exact ih fun k z hz => h (k + 1) z (by simpa using hz)
theorem firstK_drop {a b : Int} (l : List α) (k : Nat) (x : α) (h : l[k]? = some x) : firstK ka kb a b (l.drop k) = if ka x = a ∧ kb x = b then some x else firstK ka kb a b (l.drop (k + 1)) := by
  obtain ⟨hk, hp⟩ := List.getElem?_eq_some_iff.1 h
  rw [List.drop_eq_getElem_cons hk, hp, firstK]

theorem pw_two {l : List α} (h : pw (klt ka kb) l = true) : ∀ {i j : Nat} {x y : α}, i < j → l[i]? = some x → l[j]? = some y → klt ka kb x y = true := by
  induction l with
  | nil => intro i j x y _ hx; simp at hx
  | cons z t ih =>
    obtain ⟨h1, h2⟩ := pw_head ka kb h
    intro i j x y hij hx hy
    match i, j, hij, hx, hy with
    | 0, j + 1, _, hx, hy =>
      simp at hx
      subst hx
      exact h2 y (List.mem_of_getElem? (by simpa using hy))
    | i + 1, j + 1, hij, hx, hy => exact ih h1 (i := i) (j := j) (by omega) (by simpa using hx) (by simpa using hy)

/-- All below i are less than the key; all from j on are not. -/
def Lo (a b : Int) (l : List α) (i : Nat) : Prop := ∀ (k : Nat) (y : α), k < i → l[k]? = some y → ltB (ka y) (kb y) a b = true
def Hi (a b : Int) (l : List α) (j : Nat) : Prop := ∀ (k : Nat) (y : α), j ≤ k → l[k]? = some y → ltB (ka y) (kb y) a b = false

theorem lo_step {a b : Int} {l : List α} (h : pw (klt ka kb) l = true) {m : Nat} {x : α} (hx : l[m]? = some x) (hc : ltB (ka x) (kb x) a b = true) : Lo ka kb a b l (m + 1) := by
  intro k y hk hy
  rcases Nat.lt_or_ge k m with hlt | hge
  · exact ltB_trans (pw_two ka kb h hlt hy hx) hc
  · obtain rfl : k = m := by omega
    rw [hx] at hy
    injection hy with hy
    subst hy
    exact hc
theorem hi_step {a b : Int} {l : List α} (h : pw (klt ka kb) l = true) {m : Nat} {x : α} (hx : l[m]? = some x) (hc : ltB (ka x) (kb x) a b = false) : Hi ka kb a b l m := by
  intro k y hk hy
  rcases Nat.lt_or_ge m k with hlt | hge
  · cases hz : ltB (ka y) (kb y) a b with
    | false => rfl
    | true =>
      have := ltB_trans (pw_two ka kb h hlt hx hy) hz
      rw [hc] at this
      cases this
  · obtain rfl : k = m := by omega
    rw [hx] at hy
    injection hy with hy
    subst hy
    exact hc
theorem bs_none {a b : Int} {l : List α} (h : pw (klt ka kb) l = true) {i : Nat} (hl : Lo ka kb a b l i) (hh : Hi ka kb a b l i) (hi : ∀ x, l[i]? = some x → ¬ (ka x = a ∧ kb x = b)) : firstK ka kb a b l = none := by
  refine firstK_none ka kb fun k y hy he => ?_
  rcases Nat.lt_trichotomy k i with hlt | rfl | hgt
  · exact ltB_irr (hl k y hlt hy) he
  · exact hi y hy he
  · have hil : i < l.length := by have := (List.getElem?_eq_some_iff.1 hy).1; omega
    have := pw_two ka kb h hgt (List.getElem?_eq_getElem hil) hy
    have h2 := hh i _ (Nat.le_refl _) (List.getElem?_eq_getElem hil)
    simp only [klt, he.1, he.2] at this
    rw [h2] at this
    cases this
end
end Go.Proofs.Ytagokefbbdlpcaa
