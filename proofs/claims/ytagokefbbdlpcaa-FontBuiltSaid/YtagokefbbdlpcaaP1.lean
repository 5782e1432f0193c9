/- The plain law of the tables: the implementation's search and the reference's switch give the same classes. -/
import Derived.Test.YtagokefbbdlpcaaA6
namespace Go.Proofs.Ytagokefbbdlpcaa
set_option linter.unusedVariables false
set_option linter.unusedSimpArgs false
open Go.RowKit

def evalS : List (Int × Row) → Int → Row
  | [], _ => Row.zero
  | (c, v) :: t, r => if r ≤ c then v else evalS t r
def TRow.classes (x : TRow) : Row := ⟨x.b, x.w, x.n, x.d, x.j⟩
def stepOf (k : Case) : Int × Row := (if k.strict then k.c - 1 else k.c, k.v.getD Row.zero)
def flat (T : List TRow) : List (Int × Row) := T.flatMap fun t => [(t.f - 1, Row.zero), (t.l, t.classes)]
def norm : Int → List (Int × Row) → List (Int × Row)
  | _, [] => []
  | p, (c, v) :: t => if c ≤ p then norm p t else (c, v) :: norm c t

theorem evalS_pick (l : List Case) (r : Int) : (pick l r).getD Row.zero = evalS (l.map stepOf) r := by
  induction l with
  | nil => rfl
  | cons k t ih =>
    obtain ⟨st, c, v, p1, p2⟩ := k
    cases st
    · by_cases h : r ≤ c
      · simp [pick, evalS, stepOf, Case.hit, h]
      · simp [pick, evalS, stepOf, Case.hit, h, ih]
    · by_cases h : r < c
      · simp [pick, evalS, stepOf, Case.hit, h, show r ≤ c - 1 by omega]
      · simp [pick, evalS, stepOf, Case.hit, h, ih, show ¬ r ≤ c - 1 by omega]

theorem evalS_look (T : List TRow) (r : Int) (h : ∀ t ∈ T, t.f ≤ t.l + 1) : (look T r).classes = evalS (flat T) r := by
  induction T with
  | nil => rfl
  | cons t T ih =>
    have h0 := h t (by simp)
    have ih := ih (fun x hx => h x (by simp [hx]))
    show (look (t :: T) r).classes = evalS ((t.f - 1, Row.zero) :: (t.l, t.classes) :: flat T) r
    simp only [look, evalS]
    by_cases h1 : r ≤ t.f - 1
    · rw [if_pos h1, if_pos (by omega), if_neg (by omega)]; rfl
    · rw [if_neg h1]
      by_cases h2 : r ≤ t.l
      · rw [if_pos h2, if_pos h2, if_pos (by omega)]
      · rw [if_neg h2, if_neg h2]; exact ih

theorem evalS_norm (l : List (Int × Row)) : ∀ (p r : Int), p < r → evalS l r = evalS (norm p l) r := by
  induction l with
  | nil => intro p r _; rfl
  | cons x t ih =>
    obtain ⟨c, v⟩ := x
    intro p r hp
    simp only [norm]
    split
    · rename_i h
      rw [evalS, if_neg (by omega)]
      exact ih p r hp
    · simp only [evalS]
      by_cases h : r ≤ c
      · rw [if_pos h, if_pos h]
      · rw [if_neg h, if_neg h]; exact ih c r (by omega)

theorem look_skip (A B : List TRow) (r : Int) (h : ∀ x ∈ A, x.l < r) : look (A ++ B) r = look B r := by
  induction A with
  | nil => rfl
  | cons a A ih =>
    have := h a (by simp)
    rw [List.cons_append, look, if_neg (by omega)]
    exact ih fun x hx => h x (by simp [hx])
theorem look_stay (A B : List TRow) (r : Int) (h : ∃ x ∈ A, r ≤ x.l) : look (A ++ B) r = look A r := by
  induction A with
  | nil => obtain ⟨x, hx, _⟩ := h; simp at hx
  | cons a A ih =>
    rw [List.cons_append, look, look]
    split
    · rfl
    · rename_i hn
      refine ih ?_
      obtain ⟨x, hx, h2⟩ := h
      rcases List.mem_cons.1 hx with rfl | hx
      · exact absurd h2 hn
      · exact ⟨x, hx, h2⟩

def leB (T : List TRow) (m : Int) : Bool := T.all fun x => decide (x.l ≤ m)
def geB (T : List TRow) (m : Int) : Bool := T.any fun x => decide (m ≤ x.l)
theorem lt_of_leB {T : List TRow} {m r : Int} (h : leB T m = true) (hr : m < r) : ∀ x ∈ T, x.l < r := by
  intro x hx
  have := List.all_eq_true.1 h x hx
  simp at this
  omega
theorem ex_of_geB {T : List TRow} {m r : Int} (h : geB T m = true) (hr : r ≤ m) : ∃ x ∈ T, r ≤ x.l := by
  obtain ⟨x, hx, hm⟩ := List.any_eq_true.1 h
  simp at hm
  exact ⟨x, hx, by omega⟩

/-- The implementation's table as a function. -/
def ifind (r : Int) : TRow :=
  if 44032 ≤ r ∧ r ≤ 55203 then (if (r - 44032) % 28 = 0 then ⟨0, 0, 12, 3, 18, 0, 0⟩ else ⟨0, 0, 13, 3, 18, 0, 0⟩)
  else if r ≤ 161 then look T1 r else if r ≤ 1642 then look T2 r else if r ≤ 8237 then look T3 r else look T4 r

theorem four (r : Int) : (if r ≤ 161 then look T1 r else if r ≤ 1642 then look T2 r else if r ≤ 8237 then look T3 r else look T4 r) = look (T1 ++ (T2 ++ (T3 ++ T4))) r := by
  have a1 : leB T1 161 = true := by kernel_rfl
  have a2 : leB T2 1642 = true := by kernel_rfl
  have a3 : leB T3 8237 = true := by kernel_rfl
  have b1 : geB T1 161 = true := by kernel_rfl
  have b2 : geB T2 1642 = true := by kernel_rfl
  have b3 : geB T3 8237 = true := by kernel_rfl
  by_cases h1 : r ≤ 161
  · rw [if_pos h1, look_stay _ _ _ (ex_of_geB b1 h1)]
  · rw [if_neg h1, look_skip _ _ _ (lt_of_leB a1 (by omega))]
    by_cases h2 : r ≤ 1642
    · rw [if_pos h2, look_stay _ _ _ (ex_of_geB b2 h2)]
    · rw [if_neg h2, look_skip _ _ _ (lt_of_leB a2 (by omega))]
      by_cases h3 : r ≤ 8237
      · rw [if_pos h3, look_stay _ _ _ (ex_of_geB b3 h3)]
      · rw [if_neg h3, look_skip _ _ _ (lt_of_leB a3 (by omega))]

theorem okB : (T1 ++ (T2 ++ (T3 ++ T4))).all (fun t => decide (t.f ≤ t.l + 1)) = true := by kernel_rfl
theorem norm_eq : norm (-3000000000) (cases.map stepOf) = norm (-3000000000) (flat (T1 ++ (T2 ++ (T3 ++ T4)))) := by kernel_rfl

theorem find_eq (r : Int) (h : -3000000000 < r) : (ifind r).classes = rfind r := by
  unfold ifind rfind
  split
  · split <;> rfl
  · rw [four, evalS_look _ _ (fun t ht => by simpa using List.all_eq_true.1 okB t ht), evalS_pick, evalS_norm _ _ _ h, evalS_norm (cases.map stepOf) _ _ h, norm_eq]
end Go.Proofs.Ytagokefbbdlpcaa
