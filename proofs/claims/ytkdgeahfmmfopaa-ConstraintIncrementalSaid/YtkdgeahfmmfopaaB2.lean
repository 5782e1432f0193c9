/- Solve of the constraint solver: the contract; Solve of the reference: mirror and words. -/
import Derived.Test.YtkdgeahfmmfopaaB1
namespace Go.Proofs.Ytkdgeahfmmfopaa
set_option linter.unusedVariables false
set_option linter.unusedSimpArgs false
open Go.RowKit

theorem solve_any (vars : Int) (A : Option Addr) (n c B : Nat) (l : List Con) (w : World) (hl : l.length = n) (hr : Reads w B 5 A n (conCells l)) (hB : B ≤ w.heap.size) (hA : A = none → n = 0 ∧ c = 0) :
    Calls Try.prog 10 #[.int .i64 vars, .slice A n c] w (SolvedAs vars l (iSolve vars l) w) := by
  by_cases h0 : vars < 0
  · exact solve_neg vars A n c l w h0
  · by_cases h1 : 64 < vars
    · exact solve_big vars A n c l w h1
    · by_cases h2 : 200 < n
      · exact solve_long vars A n c l w (by omega) (by omega) hl h2
      · obtain ⟨m, rfl⟩ := Int.eq_ofNat_of_zero_le (show 0 ≤ vars by omega)
        exact solve_loop1 m A n c B l w (by omega) hl (by omega) hr hB hA

def rStep (n : Nat) (l : List Con) (s : Int) (k : Nat) (c : Con) (st : List Bool × List Int) : List Bool × List Int :=
  if c.S ≠ s then st
  else match rLeast n l (st.1.set k true) with
    | some y => (st.1.set k true, y)
    | none => (st.1.set k false, st.2)
def rIn (n : Nat) (l : List Con) (s : Int) (st : List Bool × List Int) : Nat → List Bool × List Int
  | 0 => st
  | k + 1 =>
    match l[k]? with
    | none => rIn n l s st k
    | some c => rStep n l s k c (rIn n l s st k)
def rOut (n : Nat) (l : List Con) (st : List Bool × List Int) : Nat → List Bool × List Int
  | 0 => st
  | j + 1 => rIn n l ((j : Int) + 1) (rOut n l st j) l.length
def held0 (l : List Con) : List Bool := l.map fun c => c.S == 0
def rSolve (vars : Int) (l : List Con) : Sol :=
  if vars < 0 ∨ 64 < vars then .err 1
  else if 200 < l.length then .err 2
  else if l.all (validB vars) = false then .err 1
  else match rLeast vars.toNat l (held0 l) with
    | none => .err 13
    | some x => .ok (rOut vars.toNat l (held0 l, x) 3).1 (rOut vars.toNat l (held0 l, x) 3).2

def heldTo (l : List Con) (k : Nat) : List Bool := (held0 l).take k ++ List.replicate (l.length - k) false
theorem heldTo_zero (l : List Con) : heldTo l 0 = List.replicate l.length false := by simp [heldTo]
theorem heldTo_all (l : List Con) : heldTo l l.length = held0 l := by
  simp only [heldTo, held0, Nat.sub_self, List.replicate_zero, List.append_nil]
  exact List.take_of_length_le (by simp)
theorem heldTo_length (l : List Con) (k : Nat) (hk : k ≤ l.length) : (heldTo l k).length = l.length := by simp [heldTo, held0]; omega
theorem heldTo_succ (l : List Con) (k : Nat) (c : Con) (hc : l[k]? = some c) : heldTo l (k + 1) = (heldTo l k).set k (c.S == 0) := by
  have hk : k < l.length := by
    rcases Nat.lt_or_ge k l.length with h | h
    · exact h
    · rw [List.getElem?_eq_none h] at hc; cases hc
  have hlk : (held0 l)[k]? = some (c.S == 0) := by simp [held0, hc]
  apply List.ext_getElem?
  intro i
  rw [List.getElem?_set]
  unfold heldTo
  have hlen : ((held0 l).take k).length = k := by simp [held0]; omega
  have hlen1 : ((held0 l).take (k + 1)).length = k + 1 := by simp [held0]; omega
  by_cases hik : k = i
  · subst hik
    rw [if_pos rfl, if_pos (by simp [held0]; omega)]
    rw [List.getElem?_append_left (by omega), List.getElem?_take, if_pos (by omega), hlk]
  · rw [if_neg hik]
    by_cases hlt : i < k
    · rw [List.getElem?_append_left (by omega), List.getElem?_append_left (by omega), List.getElem?_take, List.getElem?_take, if_pos (by omega), if_pos hlt]
    · rw [List.getElem?_append_right (by omega), List.getElem?_append_right (by omega), hlen, hlen1, List.getElem?_replicate, List.getElem?_replicate]
      by_cases h2 : i - (k + 1) < l.length - (k + 1)
      · rw [if_pos h2, if_pos (by omega)]
      · rw [if_neg h2, if_neg (by omega)]

theorem rIn_length {n : Nat} {l : List Con} {s : Int} {st : List Bool × List Int} (k : Nat) : (rIn n l s st k).1.length = st.1.length := by
  induction k with
  | zero => rfl
  | succ k ih =>
    simp only [rIn]
    split
    · exact ih
    · unfold rStep
      split
      · exact ih
      · split <;> simpa using ih

structure Inv2 (n m B GH : Nat) (w0 wr : World) (st : List Bool × List Int) (v : Value) : Prop where
  od : wr.ownsRow B 4 1 (.slice (some ⟨GH, 0, none⟩) m m) m (bools st.1)
  ox : wr.ownsRow B 3 1 v n (ints st.2)
  be : Below B w0 wr
  bw : B ≤ wr.heap.size
  dl : st.1.length = m
  xl : st.2.length = n

theorem Inv2.next {n m B GH : Nat} {w0 wr w' : World} {st : List Bool × List Int} {v : Value} (h : Inv2 n m B GH w0 wr st v) (hb : Below wr.heap.size wr w') : Inv2 n m B GH w0 w' st v :=
  ⟨own_below h.od hb (Nat.le_refl _), own_below h.ox hb (Nat.le_refl _), h.be.trans (hb.mono h.bw), Nat.le_trans h.bw hb.size, h.dl, h.xl⟩

theorem Inv2.put {n m B GH : Nat} {w0 wr : World} {st : List Bool × List Int} {v : Value} (h : Inv2 n m B GH w0 wr st v) (i : Nat) (b : Bool) : Inv2 n m B GH w0 (wr.setCell ⟨GH, i, none⟩ (.bool b)) (st.1.set i b, st.2) v := by
  have hn1 := own_own_ne h.ox h.od (by decide) GH rfl
  have hG : B ≤ GH := (h.od.lt GH rfl).1
  refine ⟨?_, own_far h.ox hn1 _, h.be.setCell (p := ⟨GH, i, none⟩) hG _, by simpa [World.setCell] using h.bw, by simpa using h.dl, h.xl⟩
  have := (h.od.stored i (.bool b)).1
  rwa [show (bools st.1).set i (.bool b) = bools (st.1.set i b) by simp [bools, List.map_set]] at this

theorem bools_get {l : List Bool} {i : Nat} (h : i < l.length) : (bools l)[i]? = some (.bool (l[i]'h)) := by simp [bools, List.getElem?_eq_getElem h]
end Go.Proofs.Ytkdgeahfmmfopaa
