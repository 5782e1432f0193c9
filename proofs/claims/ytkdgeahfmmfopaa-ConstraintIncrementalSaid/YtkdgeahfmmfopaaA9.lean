/- Solve of the constraint solver: the mirror and the words for its memory. -/
import Derived.Test.YtkdgeahfmmfopaaA8
import Derived.BigGuardPart
namespace Go.Proofs.Ytkdgeahfmmfopaa
set_option linter.unusedVariables false
set_option linter.unusedSimpArgs false
open Go.RowKit

theorem own_below {w w' : World} {B base e size n : Nat} {v : Value} {xs : List Value} (h : w.ownsRow base e size v n xs) (hb : Below B w w') (hB : w.heap.size ≤ B) : w'.ownsRow base e size v n xs := by
  refine ⟨h.1, ?_⟩
  rcases h.2 with h2 | ⟨g, cap, cur, hv, hg, hh, r⟩
  · exact .inl h2
  · refine .inr ⟨g, cap, cur, hv, hg, ?_, r⟩
    rw [hb.block g (by have := (Array.getElem?_eq_some_iff.1 hh).1; omega)]
    exact hh

/-- A slice value that reads as these cells. -/
def SlR (w : World) (size n : Nat) (v : Value) (xs : List Value) : Prop :=
  ∃ (A : Option Addr) (c : Nat), v = .slice A n c ∧ n ≤ c ∧ c ≤ maxLen ∧ (A = none → n = 0 ∧ c = 0) ∧ Reads w w.heap.size size A n xs

theorem own_slr {w : World} {base e size n : Nat} {v : Value} {xs : List Value} (h : w.ownsRow base e size v n xs) : SlR w size n v xs := by
  rcases h.2 with ⟨rfl, rfl⟩ | ⟨g, cap, cur, rfl, hb, hg, hn, hm, hc, ht⟩
  · have : xs = [] := List.eq_nil_of_length_eq_zero (by simpa using h.1)
    subst this
    exact ⟨none, 0, rfl, Nat.le_refl _, by unfold maxLen; omega, fun _ => ⟨rfl, rfl⟩, Reads.none_⟩
  · refine ⟨_, cap, rfl, hn, hm, (fun h => by cases h), ?_⟩
    have := reads_blk (w := w) (g := g) (t := e) (size := size) (n := n) (cs := cur) hg (by rw [hc]; exact Nat.mul_le_mul_right _ hn)
    rwa [ht] at this

theorem SlR.below {w w' : World} {B size n : Nat} {v : Value} {xs : List Value} (h : SlR w size n v xs) (hb : Below B w w') (hB : w.heap.size ≤ B) : SlR w' size n v xs := by
  obtain ⟨A, c, rfl, h1, h2, h3, h4⟩ := h
  exact ⟨A, c, rfl, h1, h2, h3, (h4.below (hb.mono hB)).more hb.size⟩

theorem own_own_ne {w : World} {base base' e e' size size' n n' : Nat} {v v' : Value} {xs xs' : List Value} (h : w.ownsRow base e size v n xs) (h' : w.ownsRow base' e' size' v' n' xs') (hne : e ≠ e') : ∀ g, v'.ownBlock = some g → v.ownBlock ≠ some g := by
  intro g hg
  rcases h'.2 with ⟨rfl, _⟩ | ⟨g', cap, cur, rfl, _, hh, _⟩
  · simp [Value.ownBlock] at hg
  · have : g' = g := by simpa [Value.ownBlock] using hg
    subst this
    exact own_blk_ne h hh hne

theorem own_far {w : World} {base e size n g i : Nat} {v : Value} {xs : List Value} (h : w.ownsRow base e size v n xs) (hne : v.ownBlock ≠ some g) (u : Value) : (w.setCell ⟨g, i, none⟩ u).ownsRow base e size v n xs := by
  refine ⟨h.1, ?_⟩
  rcases h.2 with h2 | ⟨g', cap, cur, hv, hg, hh, r⟩
  · exact .inl h2
  · refine .inr ⟨g', cap, cur, hv, hg, ?_, r⟩
    rw [Below.heap_setCell _ _ _ _ (by rintro rfl; exact hne (by rw [hv]; rfl))]
    exact hh

structure St where
  v : List Int
  hb : List Bd
  held : List Bool

def iStep (s : Int) (i : Nat) (c : Con) (st : St) : Option St :=
  if c.S ≠ s then some st
  else match iRaise st.v (st.hb ++ boundsOf c) with
    | none => if s = 0 then none else some st
    | some v => some ⟨v, st.hb ++ boundsOf c, st.held.set i true⟩
def iIn (s : Int) (l : List Con) (st : St) : Nat → Option St
  | 0 => some st
  | k + 1 =>
    match iIn s l st k with
    | none => none
    | some st' =>
      match l[k]? with
      | none => some st'
      | some c => iStep s k c st'
def iOut (l : List Con) (st : St) : Nat → Option St
  | 0 => some st
  | s + 1 =>
    match iOut l st s with
    | none => none
    | some st' => iIn (s : Int) l st' l.length
def st0 (n m : Nat) : St := ⟨List.replicate (n + 1) 0, [], List.replicate m false⟩

/-- The result of a solver: an error, or what is held and the values. -/
inductive Sol where
  | err (k : Int)
  | ok (held : List Bool) (vals : List Int)

def iSolve (vars : Int) (l : List Con) : Sol :=
  if vars < 0 ∨ 64 < vars then .err 1
  else if 200 < l.length then .err 2
  else if l.all (validB vars) = false then .err 1
  else match iOut l (st0 vars.toNat l.length) 4 with
    | none => .err 13
    | some st => .ok st.held (st.v.drop 1)

def zeroSys : Value := .agg #[.int .i64 0, .slice none 0 0, .slice none 0 0, .slice none 0 0]

/-- A System in memory. -/
def SysR (w : World) (v : Value) (vars : Int) (l : List Con) (held : List Bool) (vals : List Int) : Prop :=
  ∃ v1 v2 v3 : Value, v = .agg #[.int .i64 vars, v1, v2, v3] ∧ SlR w 5 l.length v1 (conCells l) ∧ SlR w 1 held.length v2 (bools held) ∧ SlR w 1 vals.length v3 (ints vals)

def SolvedAs (vars : Int) (l : List Con) (r : Sol) (w : World) (e : Ending) (w' : World) : Prop :=
  match r with
  | .err k => e = .returned (.tuple #[zeroSys, .int .i64 k]) ∧ Below w.heap.size w w'
  | .ok held vals => ∃ v : Value, e = .returned (.tuple #[v, .int .i64 0]) ∧ SysR w' v vars l held vals ∧ Below w.heap.size w w'
end Go.Proofs.Ytkdgeahfmmfopaa
