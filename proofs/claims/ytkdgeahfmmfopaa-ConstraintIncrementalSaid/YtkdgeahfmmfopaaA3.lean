/- Structs and slices of the constraint layer walked: valid (both), bounds, Satisfied, Max. -/
import Derived.Test.YtkdgeahfmmfopaaA2
namespace Go.Proofs.Ytkdgeahfmmfopaa
set_option linter.unusedVariables false
set_option linter.unusedSimpArgs false
open Go.RowKit

structure Con where
  A : Int
  B : Int
  R : Int
  C : Int
  S : Int

def Con.cells (c : Con) : List Value := [.int .i64 c.A, .int .i64 c.B, .int .i64 c.R, .int .i64 c.C, .int .i64 c.S]
def Con.val (c : Con) : Value := .agg #[.int .i64 c.A, .int .i64 c.B, .int .i64 c.R, .int .i64 c.C, .int .i64 c.S]

def validB (vars : Int) (c : Con) : Bool :=
  decide (-1 ≤ c.A ∧ c.A < vars ∧ -1 ≤ c.B ∧ c.B < vars ∧ 0 ≤ c.R ∧ c.R ≤ 2 ∧ -1048576 ≤ c.C ∧ c.C ≤ 1048576 ∧ 0 ≤ c.S ∧ c.S ≤ 3)

theorem ret_bool {a b : Bool} (h : a = b) : Ending.returned (.bool a) = .returned (.bool b) := by rw [h]

theorem valid_any (vars : Int) (c : Con) (w : World) :
    Calls Try.prog 23 #[.int .i64 vars, c.val] w fun e w' => e = .returned (.bool (validB vars c)) ∧ Below w.heap.size w w' := by
  obtain ⟨A, B, R, C, S⟩ := c
  unfold Con.val
  dsimp only
  go_enter Try.func23, Try.ntmps23
  go_wp2
  all_goals
    go_ret
    refine ⟨ret_bool ?_, (Below.refl _ _).alloc (Nat.le_refl _) _⟩
    simp only [validB]
    rw [Bool.eq_iff_iff]
    simp
    omega

theorem rvalid_any (vars : Int) (c : Con) (w : World) :
    Calls Try.prog 29 #[.int .i64 vars, c.val] w fun e w' => e = .returned (.bool (validB vars c)) ∧ Below w.heap.size w w' := by
  obtain ⟨A, B, R, C, S⟩ := c
  unfold Con.val
  dsimp only
  go_enter Try.func29, Try.ntmps29
  go_wp2
  all_goals
    go_ret
    refine ⟨ret_bool ?_, (Below.refl _ _).alloc (Nat.le_refl _) _⟩
    simp only [validB]
    rw [Bool.eq_iff_iff]
    simp
    omega

structure Bd where
  f : Int
  t : Int
  c : Int

def Bd.cells (b : Bd) : List Value := [.int .i64 b.f, .int .i64 b.t, .int .i64 b.c]
def boundsOf (x : Con) : List Bd :=
  if x.R = 0 then [⟨x.B + 1, x.A + 1, x.C⟩] else if x.R = 1 then [⟨x.A + 1, x.B + 1, -x.C⟩] else [⟨x.B + 1, x.A + 1, x.C⟩, ⟨x.A + 1, x.B + 1, -x.C⟩]
def bdCells (l : List Bd) : List Value := l.flatMap Bd.cells
def conCells (l : List Con) : List Value := l.flatMap Con.cells

/-- A new slice that reads as these cells. -/
def NewSlice (size : Nat) (xs : List Value) (w : World) (e : Ending) (w' : World) : Prop :=
  ∃ (A : Option Addr) (n c : Nat), e = .returned (.slice A n c) ∧ n ≤ c ∧ c ≤ 65536 ∧ Reads w' w'.heap.size size A n xs ∧ Below w.heap.size w w'

theorem addr_add0 (b j : Nat) : (⟨b, 0, none⟩ : Addr).add j = ⟨b, j, none⟩ := by
  unfold Addr.add; split <;> simp_all

theorem reads_new (W : World) (cs : Array Value) (t size n : Nat) (hs : cs.size = n * size) : Reads (W.alloc (.cells cs t)) (W.alloc (.cells cs t)).heap.size size (some ⟨W.heap.size, 0, none⟩) n cs.toList := by
  refine ⟨by simpa using hs, fun _ => ⟨_, rfl, by simp, fun j u hu => ?_⟩⟩
  rw [addr_add0, (Blk.new W t cs).cell]
  simpa using hu

theorem reads_blk {w : World} {g t size n : Nat} {cs : Array Value} (h : Blk w g t cs) (hs : n * size ≤ cs.size) : Reads w w.heap.size size (some ⟨g, 0, none⟩) n (cs.toList.take (n * size)) := by
  refine ⟨by simp; omega, fun _ => ⟨_, rfl, h.lt, fun j u hu => ?_⟩⟩
  rw [addr_add0, h.cell]
  rw [List.getElem?_take] at hu
  split at hu
  · simpa using hu
  · cases hu

theorem bounds_any (x : Con) (w : World) (h1 : -1 ≤ x.A ∧ x.A ≤ 1000) (h2 : -1 ≤ x.B ∧ x.B ≤ 1000) (h3 : -1048576 ≤ x.C ∧ x.C ≤ 1048576) :
    Calls Try.prog 26 #[x.val] w (NewSlice 3 (bdCells (boundsOf x)) w) := by
  obtain ⟨A, B, R, C, S⟩ := x
  unfold Con.val
  dsimp only at h1 h2 h3 ⊢
  by_cases hR0 : R = 0
  · have d0 : (R == 0) = true := by simpa using hR0
    go_enter Try.func26, Try.ntmps26
    go_wp2
    go_ret
    refine ⟨_, _, _, rfl, by omega, by omega, ?_, ((((Below.refl _ _).alloc (Nat.le_refl _) _).alloc (by simp) _).alloc (by simp; omega) _).alloc (by simp; omega) _⟩
    have := reads_new (((w.alloc (Obj.cells #[Value.int IntKind.i64 A, Value.int IntKind.i64 B, Value.int IntKind.i64 0, Value.int IntKind.i64 C, Value.int IntKind.i64 S] 40)).alloc (Obj.cells #[Value.int IntKind.i64 (B + 1), Value.int IntKind.i64 (A + 1), Value.int IntKind.i64 C] 52)).alloc (Obj.cells #[Value.int IntKind.i64 (A + 1), Value.int IntKind.i64 (B + 1), Value.int IntKind.i64 (-C)] 52))
      #[Value.int IntKind.i64 (B + 1), Value.int IntKind.i64 (A + 1), Value.int IntKind.i64 C] 52 3 1 rfl
    simpa [bdCells, boundsOf, Bd.cells, hR0] using this
  · have d0 : (R == 0) = false := by simpa using hR0
    by_cases hR1 : R = 1
    · have d1 : (R == 1) = true := by simpa using hR1
      go_enter Try.func26, Try.ntmps26
      go_wp2
      go_ret
      refine ⟨_, _, _, rfl, by omega, by omega, ?_, ((((Below.refl _ _).alloc (Nat.le_refl _) _).alloc (by simp) _).alloc (by simp; omega) _).alloc (by simp; omega) _⟩
      have := reads_new (((w.alloc (Obj.cells #[Value.int IntKind.i64 A, Value.int IntKind.i64 B, Value.int IntKind.i64 1, Value.int IntKind.i64 C, Value.int IntKind.i64 S] 40)).alloc (Obj.cells #[Value.int IntKind.i64 (B + 1), Value.int IntKind.i64 (A + 1), Value.int IntKind.i64 C] 52)).alloc (Obj.cells #[Value.int IntKind.i64 (A + 1), Value.int IntKind.i64 (B + 1), Value.int IntKind.i64 (-C)] 52))
        #[Value.int IntKind.i64 (A + 1), Value.int IntKind.i64 (B + 1), Value.int IntKind.i64 (-C)] 52 3 1 rfl
      simpa [bdCells, boundsOf, Bd.cells, hR0, hR1] using this
    · have d1 : (R == 1) = false := by simpa using hR1
      go_enter Try.func26, Try.ntmps26
      go_wp2
      go_ret
      refine ⟨_, _, _, rfl, by omega, by omega, ?_, ((((Below.refl _ _).alloc (Nat.le_refl _) _).alloc (by simp) _).alloc (by simp; omega) _).alloc (by simp; omega) _⟩
      have := reads_new (((w.alloc (Obj.cells #[Value.int IntKind.i64 A, Value.int IntKind.i64 B, Value.int IntKind.i64 R, Value.int IntKind.i64 C, Value.int IntKind.i64 S] 40)).alloc (Obj.cells #[Value.int IntKind.i64 (B + 1), Value.int IntKind.i64 (A + 1), Value.int IntKind.i64 C] 52)).alloc (Obj.cells #[Value.int IntKind.i64 (A + 1), Value.int IntKind.i64 (B + 1), Value.int IntKind.i64 (-C)] 52))
        #[Value.int IntKind.i64 (B + 1), Value.int IntKind.i64 (A + 1), Value.int IntKind.i64 C, Value.int IntKind.i64 (A + 1), Value.int IntKind.i64 (B + 1), Value.int IntKind.i64 (-C)] 52 3 2 rfl
      simpa [bdCells, boundsOf, Bd.cells, hR0, hR1] using this
end Go.Proofs.Ytkdgeahfmmfopaa
