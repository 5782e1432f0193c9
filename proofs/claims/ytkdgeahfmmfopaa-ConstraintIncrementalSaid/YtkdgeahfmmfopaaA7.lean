/- least of the reference walked. -/
import Derived.Test.YtkdgeahfmmfopaaA6
import Derived.Deep.RegionHeld3
namespace Go.Proofs.Ytkdgeahfmmfopaa
set_option linter.unusedVariables false
set_option linter.unusedSimpArgs false
open Go.RowKit

/-- The value of a variable; the variable -1 is 0. -/
def val (x : List Int) (i : Int) : Int := if i < 0 then 0 else x[i.toNat]?.getD 0

/-- raise of the reference: the values, changed, possible. -/
def RR (x : List Int) (i m : Int) : List Int × Bool × Bool :=
  if i < 0 then (x, false, decide (m ≤ 0))
  else if m ≤ x[i.toNat]?.getD 0 then (x, false, true)
  else (x.set i.toNat m, true, decide (m ≤ 1048576))

theorem value_own {w : World} {base g n cap : Nat} {x : List Int} (h : w.ownsRow base 3 1 (.slice (some ⟨g, 0, none⟩) n cap) n (ints x)) (hl : x.length = n) (hn : n ≤ 65536) (i : Int) (hi : i < n) :
    Calls Try.prog 31 #[.slice (some ⟨g, 0, none⟩) n cap, .int .i64 i] w fun e w' => e = .returned (.int .i64 (val x i)) ∧ w' = w := by
  by_cases h0 : i < 0
  · refine (value_neg _ i w h0).mono ?_
    rintro e w' ⟨rfl, rfl⟩
    exact ⟨by simp [val, h0], rfl⟩
  · have hc := own_int_at h hl i.toNat (by omega)
    refine (value_pos g 0 n cap i _ w (by omega) hi hn (by simpa using hc)).mono ?_
    rintro e w' ⟨rfl, rfl⟩
    exact ⟨by simp [val, h0], rfl⟩

def Raised2 (base g n cap : Nat) (x : List Int) (i m : Int) (w : World) (e : Ending) (w' : World) : Prop :=
  e = .returned (.tuple #[.bool (RR x i m).2.1, .bool (RR x i m).2.2]) ∧ w'.ownsRow base 3 1 (.slice (some ⟨g, 0, none⟩) n cap) n (ints (RR x i m).1) ∧ w.grownBy w' (some g) ∧ w'.heap.size = w.heap.size

theorem rraise_any {w : World} {base g n cap : Nat} {x : List Int} (h : w.ownsRow base 3 1 (.slice (some ⟨g, 0, none⟩) n cap) n (ints x)) (hl : x.length = n) (hn : n ≤ 65536) (i m : Int) (hi : i < n) :
    Calls Try.prog 35 #[.slice (some ⟨g, 0, none⟩) n cap, .int .i64 i, .int .i64 m] w (Raised2 base g n cap x i m w) := by
  by_cases h0 : i < 0
  · refine (rraise_neg _ i m w h0).mono ?_
    rintro e w' ⟨rfl, rfl⟩
    exact ⟨by simp [RR, h0], by simpa [RR, h0] using h, World.grownBy.refl _ _, rfl⟩
  · have hc := own_int_at h hl i.toNat (by omega)
    by_cases h1 : m ≤ x[i.toNat]?.getD 0
    · refine (rraise_keep g 0 n cap i _ m w (by omega) hi hn (by simpa using hc) h1).mono ?_
      rintro e w' ⟨rfl, rfl⟩
      exact ⟨by simp [RR, h0, h1], by simpa [RR, h0, h1] using h, World.grownBy.refl _ _, rfl⟩
    · refine (rraise_set g 0 n cap i _ m w (by omega) hi hn (by simpa using hc) (by simpa using h.frozenAt i.toNat) (by omega)).mono ?_
      rintro e w' ⟨rfl, rfl⟩
      refine ⟨by simp [RR, h0, h1], ?_, ?_, by simp [World.setCell]⟩
      · have := own_int_set h i.toNat m
        simpa [RR, h0, h1] using this
      · exact only_setCell (World.grownBy.refl _ _) (.inl rfl) _

def firstC (x : List Int) (any : Bool) (c : Con) : Option (List Int × Bool) :=
  if c.R = 1 then some (x, any)
  else if (RR x c.A (val x c.B + c.C)).2.2 = false then none
  else some ((RR x c.A (val x c.B + c.C)).1, any || (RR x c.A (val x c.B + c.C)).2.1)
def secondC (x : List Int) (any : Bool) (c : Con) : Option (List Int × Bool) :=
  if c.R = 0 then some (x, any)
  else if (RR x c.B (val x c.A - c.C)).2.2 = false then none
  else some ((RR x c.B (val x c.A - c.C)).1, any || (RR x c.B (val x c.A - c.C)).2.1)
def oneC (x : List Int) (any : Bool) (c : Con) (acc : Bool) : Option (List Int × Bool) :=
  if acc = false then some (x, any)
  else match firstC x any c with
    | none => none
    | some s => secondC s.1 s.2 c
def rSw (x : List Int) (l : List Con) (acc : List Bool) : Nat → Option (List Int × Bool)
  | 0 => some (x, false)
  | k + 1 =>
    match rSw x l acc k with
    | none => none
    | some s =>
      match l[k]? with
      | none => some s
      | some c => oneC s.1 s.2 c (acc[k]?.getD false)
def rGo (l : List Con) (acc : List Bool) : Nat → List Int → Option (List Int)
  | 0, _ => none
  | f + 1, x =>
    match rSw x l acc l.length with
    | none => none
    | some s => if s.2 = false then some s.1 else rGo l acc f s.1
def rLeast (vars : Nat) (l : List Con) (acc : List Bool) : Option (List Int) := rGo l acc (vars + 2) (List.replicate vars 0)

def ConOk (vars : Nat) (c : Con) : Prop := -1 ≤ c.A ∧ c.A < vars ∧ -1 ≤ c.B ∧ c.B < vars ∧ 0 ≤ c.R ∧ c.R ≤ 2 ∧ -1048576 ≤ c.C ∧ c.C ≤ 1048576

theorem RR_length (x : List Int) (i m : Int) : (RR x i m).1.length = x.length := by
  unfold RR
  split
  · rfl
  · split <;> simp

theorem RR_bound {x : List Int} {i m : Int} (hx : ∀ z ∈ x, 0 ≤ z ∧ z ≤ 1048576) (hi : i < x.length) (hok : (RR x i m).2.2 = true) : ∀ z ∈ (RR x i m).1, 0 ≤ z ∧ z ≤ 1048576 := by
  unfold RR at hok ⊢
  split
  · exact hx
  · rename_i h0
    rw [if_neg h0] at hok
    split
    · exact hx
    · rename_i h1
      rw [if_neg h1] at hok
      have hm : m ≤ 1048576 := by simpa using hok
      have := getD_mem_bound hx i.toNat (by omega)
      intro z hz
      rcases List.mem_or_eq_of_mem_set hz with hz | rfl
      · exact hx z hz
      · constructor <;> omega

theorem val_bound {x : List Int} (hx : ∀ z ∈ x, 0 ≤ z ∧ z ≤ 1048576) (i : Int) (hi : i < x.length) : 0 ≤ val x i ∧ val x i ≤ 1048576 := by
  unfold val
  split
  · omega
  · exact getD_mem_bound hx _ (by omega)

theorem con_cells_at (l : List Con) (k j : Nat) (c : Con) (hc : l[k]? = some c) (hj : j < 5) : (conCells l)[k * 5 + j]? = c.cells[j]? := by
  induction l generalizing k with
  | nil => simp at hc
  | cons x r ih =>
    cases k with
    | zero =>
      simp at hc
      subst hc
      simp only [conCells, List.flatMap_cons]
      rw [List.getElem?_append_left (by simp [Con.cells]; omega)]
      congr 1
      omega
    | succ k =>
      simp only [conCells, List.flatMap_cons]
      rw [List.getElem?_append_right (by simp [Con.cells]; omega)]
      have : (k + 1) * 5 + j - x.cells.length = k * 5 + j := by simp [Con.cells]; omega
      rw [this]
      exact ih k (by simpa using hc)

theorem con_length (l : List Con) : (conCells l).length = l.length * 5 := by
  induction l with
  | nil => rfl
  | cons x r ih => simp only [conCells, List.flatMap_cons, List.length_append] at ih ⊢; rw [ih]; simp [Con.cells]; omega

def bools (l : List Bool) : List Value := l.map Value.bool

theorem rSw_none {x : List Int} {l : List Con} {acc : List Bool} {k : Nat} (h : rSw x l acc k = none) : ∀ j, rSw x l acc (k + j) = none := by
  intro j
  induction j with
  | zero => exact h
  | succ j ih => rw [Nat.add_succ]; simp only [rSw, ih]

/-- What least returns: a new row of values and true, or nothing and false. -/
def Least2 (n : Nat) (r : Option (List Int)) (w : World) (e : Ending) (w' : World) : Prop :=
  match r with
  | some p => ∃ v : Value, e = .returned (.tuple #[v, .bool true]) ∧ w'.ownsRow w.heap.size 3 1 v n (ints p) ∧ p.length = n ∧ (∀ z ∈ p, 0 ≤ z ∧ z ≤ 1048576) ∧ Below w.heap.size w w'
  | none => e = .returned (.tuple #[.slice none 0 0, .bool false]) ∧ Below w.heap.size w w'
end Go.Proofs.Ytkdgeahfmmfopaa
