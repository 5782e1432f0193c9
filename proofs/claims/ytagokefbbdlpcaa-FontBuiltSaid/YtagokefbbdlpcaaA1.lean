/- A chain of tests on one number, each with its own row: the shape of a long switch, walked once for all lengths. -/
import Derived.Test.YtagokefbbdlpcaaRows
import Derived.Test.YtagokefbbdlpcaaWords
import Derived.WalkKit
import Derived.WalkSpells
import Derived.WalkLawsBesides
import Derived.Deep.QuietTactic
import Derived.BigQuiet
import Derived.IntWalk
namespace Go.Proofs.Ytagokefbbdlpcaa
set_option linter.unusedVariables false
set_option linter.unusedSimpArgs false
open Go.RowKit

/-- The row of a case: five classes. -/
structure Row where
  c : Int
  w : Int
  l : Int
  d : Int
  j : Int

def Row.cells (x : Row) : Array Value := #[.int .i64 x.c, .int .i64 x.w, .int .i64 x.l, .int .i64 x.d, .int .i64 x.j]
def Row.zero : Row := ⟨0, 0, 0, 0, 0⟩

/-- One case: strict (r < c) or not (r ≤ c), the bound, what is built (none: the zero row), the two places in the text. -/
structure Case where
  strict : Bool
  c : Int
  v : Option Row
  p1 : String
  p2 : String

def parts : Option Row → Array (Nat × Operand)
  | none => #[]
  | some x => #[(0, .const (.int .i64 x.c)), (1, .const (.int .i64 x.w)), (2, .const (.int .i64 x.l)), (3, .const (.int .i64 x.d)), (4, .const (.int .i64 x.j))]

def testOps (s : Nat) (k : Case) : List Oper :=
  [{ dst := some (s + 1), op := .move (.tmp 0), type := 21, pos := k.p1, after := #[], guard := none },
   { dst := some (s + 2), op := .binOp (if k.strict then .lss else .leq) 21 (.tmp (s + 1)) (.const (.int .i32 k.c)) 21, type := 4, pos := k.p1, after := #[{ on := 0, ground := .data }], guard := none },
   { dst := some s, op := .assign (.tmp (s + 2)), type := 4, pos := k.p1, after := #[{ on := 1, ground := .data }], guard := none }]
def rowOps (s : Nat) (k : Case) : List Oper :=
  [{ dst := some (s + 3), op := .build 59 (parts k.v), type := 59, pos := k.p2, after := #[], guard := none },
   { dst := none, op := .store 59 (.tmp 2) (.tmp (s + 3)), type := 0, pos := k.p2, after := #[{ on := 0, ground := .data }, { on := 0, ground := .phase }], guard := none }]
def chain (rg s : Nat) : List Case → Code
  | [] => .skip
  | k :: t => (Code.region rg (testOps s k).toArray false).seq (Code.cond (.tmp s) ((Code.region (rg + 1) (rowOps s k).toArray false).seq .ret) (chain (rg + 2) (s + 4) t))

theorem eval_put_ne (a : Act) (d i : Nat) (v : Value) (h : i ≠ d) : (a.put (some d) v).eval (.tmp i) = a.eval (.tmp i) := by
  simp only [Act.eval, Act.put, Array.getD_eq_getD_getElem?]
  rw [Array.getElem?_setIfInBounds_ne (by omega)]
theorem eval_put_eq (a : Act) (d : Nat) (v : Value) (h : d < a.tmps.size) : (a.put (some d) v).eval (.tmp d) = v := by
  simp only [Act.eval, Act.put, Array.getD_eq_getD_getElem?]
  rw [Array.getElem?_setIfInBounds_self_of_lt h]
  rfl
theorem size_put (a : Act) (d : Nat) (v : Value) : (a.put (some d) v).tmps.size = a.tmps.size := by simp [Act.put]
theorem defers_put (a : Act) (d : Nat) (v : Value) : (a.put (some d) v).defers = a.defers := rfl

theorem wp_of_run {P : Program} {o : Oper} {a : Act} {w w' : World} {K : Act → World → Prop} {Q : Exit → Act → World → Prop} {v : Value} (h : (execOp a.eval o).run P w = .ok (.value v) w') (hk : K (a.put o.dst v) w') : o.wp P a w K Q := by
  unfold Oper.wp; rw [h]; exact hk
theorem wp_of_skip {P : Program} {o : Oper} {a : Act} {w w' : World} {K : Act → World → Prop} {Q : Exit → Act → World → Prop} (h : (execOp a.eval o).run P w = .ok .skip w') (hk : K (a.put o.dst undef) w') : o.wp P a w K Q := by
  unfold Oper.wp; rw [h]; exact hk
theorem wpList_run {P : Program} {ops : Array Oper} {rest : List Oper} {o : Oper} {a : Act} {w w' : World} {Q : Exit → Act → World → Prop} {v : Value} (hg : o.guard = none) (h : (execOp a.eval o).run P w = .ok (.value v) w') (hk : wpList P ops Q rest (a.put o.dst v) w') : wpList P ops Q (o :: rest) a w :=
  wpList_plain hg fun K hK => wp_of_run h (hK _ _ hk)
theorem wpList_skip {P : Program} {ops : Array Oper} {rest : List Oper} {o : Oper} {a : Act} {w w' : World} {Q : Exit → Act → World → Prop} (hg : o.guard = none) (h : (execOp a.eval o).run P w = .ok .skip w') (hk : wpList P ops Q rest (a.put o.dst undef) w') : wpList P ops Q (o :: rest) a w :=
  wpList_plain hg fun K hK => wp_of_skip h (hK _ _ hk)

theorem run_move (P : Program) (ρ : Operand → Value) (d : Option Tmp) (x : Operand) (ty : TypeId) (p : String) (af : Array Edge) (w : World) : (execOp ρ { dst := d, op := .move x, type := ty, pos := p, after := af, guard := none }).run P w = .ok (.value (ρ x)) w := rfl
theorem run_assign (P : Program) (ρ : Operand → Value) (d : Option Tmp) (x : Operand) (ty : TypeId) (p : String) (af : Array Edge) (w : World) : (execOp ρ { dst := d, op := .assign x, type := ty, pos := p, after := af, guard := none }).run P w = .ok (.value (ρ x)) w := rfl
theorem run_test (ρ : Operand → Value) (hρ : ∀ v, ρ (.const v) = v) (d : Option Tmp) (x : Operand) (st : Bool) (c r : Int) (p : String) (af : Array Edge) (w : World) (h : ρ x = .int .i32 r) :
    (execOp ρ { dst := d, op := .binOp (if st then .lss else .leq) 21 x (.const (.int .i32 c)) 21, type := 4, pos := p, after := af, guard := none }).run Try.prog w = .ok (.value (.bool (if st then decide (r < c) else decide (r ≤ c)))) w := by
  cases st
  · simp [execOp, h, hρ, go_sem]
  · simp [execOp, h, hρ, go_sem]

theorem run_build5 (ρ : Operand → Value) (hρ : ∀ v, ρ (.const v) = v) (d : Option Tmp) (v : Option Row) (p : String) (af : Array Edge) (w : World) :
    (execOp ρ { dst := d, op := .build 59 (parts v), type := 59, pos := p, after := af, guard := none }).run Try.prog w = .ok (.value (.agg (v.getD Row.zero).cells)) w := by
  cases v
  · simp [execOp, hρ, go_sem, parts, Row.cells, Row.zero]
  · simp [execOp, hρ, go_sem, parts, Row.cells]

def set5 (w : World) (H : Nat) (x : Row) : World := ((((w.setCell ⟨H, 0, none⟩ (.int .i64 x.c)).setCell ⟨H, 1, none⟩ (.int .i64 x.w)).setCell ⟨H, 2, none⟩ (.int .i64 x.l)).setCell ⟨H, 3, none⟩ (.int .i64 x.d)).setCell ⟨H, 4, none⟩ (.int .i64 x.j)

theorem run_store5 (ρ : Operand → Value) (x y : Operand) (H : Nat) (v : Row) (z0 z1 z2 z3 z4 : Value) (p : String) (af : Array Edge) (w : World) (hx : ρ x = .pointer (some ⟨H, 0, none⟩)) (hy : ρ y = .agg v.cells) (hb : Blk w H 59 #[z0, z1, z2, z3, z4]) :
    (execOp ρ { dst := none, op := .store 59 x y, type := 0, pos := p, after := af, guard := none }).run Try.prog w = .ok .skip (set5 w H v) := by
  have c0 : w.cell? ⟨H, 0, none⟩ = some z0 := by rw [hb.cell]; rfl
  have c1 : w.cell? ⟨H, 1, none⟩ = some z1 := by rw [hb.cell]; rfl
  have c2 : w.cell? ⟨H, 2, none⟩ = some z2 := by rw [hb.cell]; rfl
  have c3 : w.cell? ⟨H, 3, none⟩ = some z3 := by rw [hb.cell]; rfl
  have c4 : w.cell? ⟨H, 4, none⟩ = some z4 := by rw [hb.cell]; rfl
  have f0 := hb.frozen 0
  have f1 := hb.frozen 1
  have f2 := hb.frozen 2
  have f3 := hb.frozen 3
  have f4 := hb.frozen 4
  simp [execOp, hx, hy, go_sem, Row.cells, c0, c1, c2, c3, c4, f0, f1, f2, f3, f4, set5]

theorem set5_blk {w : World} {H : Nat} {z0 z1 z2 z3 z4 : Value} (hb : Blk w H 59 #[z0, z1, z2, z3, z4]) (v : Row) : Blk (set5 w H v) H 59 v.cells := by
  have := ((((hb.set_ 0 (.int .i64 v.c)).set_ 1 (.int .i64 v.w)).set_ 2 (.int .i64 v.l)).set_ 3 (.int .i64 v.d)).set_ 4 (.int .i64 v.j)
  simpa [set5, Row.cells] using this
theorem set5_below {w : World} {H B : Nat} (v : Row) (h : B ≤ H) : Below B w (set5 w H v) :=
  (((((Below.refl _ _).setCell (p := ⟨H, 0, none⟩) h _).setCell (p := ⟨H, 1, none⟩) h _).setCell (p := ⟨H, 2, none⟩) h _).setCell (p := ⟨H, 3, none⟩) h _).setCell (p := ⟨H, 4, none⟩) h _

def Case.hit (k : Case) (r : Int) : Bool := if k.strict then decide (r < k.c) else decide (r ≤ k.c)
/-- The row of the first case that holds. -/
def pick : List Case → Int → Option Row
  | [], _ => none
  | k :: t, r => if k.hit r then some (k.v.getD Row.zero) else pick t r

/-- What is left of a frame: the slots below s. -/
structure Kept (a a' : Act) (s : Nat) : Prop where
  size : a'.tmps.size = a.tmps.size
  defers : a'.defers = a.defers
  slots : ∀ i, i < s → a'.eval (.tmp i) = a.eval (.tmp i)

theorem Kept.refl (a : Act) (s : Nat) : Kept a a s := ⟨rfl, rfl, fun _ _ => rfl⟩
theorem Kept.put {a a' : Act} {s d : Nat} (h : Kept a a' s) (hd : s ≤ d) (v : Value) : Kept a (a'.put (some d) v) s :=
  ⟨(size_put _ _ _).trans h.size, h.defers, fun i hi => (eval_put_ne _ _ _ _ (by omega)).trans (h.slots i hi)⟩
theorem Kept.none {a a' : Act} {s : Nat} (h : Kept a a' s) (v : Value) : Kept a (a'.put Option.none v) s := h
theorem Kept.trans {a b c : Act} {s : Nat} (h : Kept a b s) (k : Kept b c s) : Kept a c s := ⟨k.size.trans h.size, k.defers.trans h.defers, fun i hi => (k.slots i hi).trans (h.slots i hi)⟩
theorem Kept.less {a b : Act} {s s' : Nat} (h : Kept a b s) (k : s' ≤ s) : Kept a b s' := ⟨h.size, h.defers, fun i hi => h.slots i (by omega)⟩

theorem test_wp (s : Nat) (k : Case) (rg : Nat) (r : Int) (a : Act) (w : World) (Q : Exit → Act → World → Prop) (h0 : a.eval (.tmp 0) = .int .i32 r) (hs : s + 2 < a.tmps.size)
    (h : ∀ a' : Act, Kept a a' s → a'.eval (.tmp s) = .bool (k.hit r) → Q .normal a' w) :
    (Code.region rg (testOps s k).toArray false).wp Try.prog Q a w := by
  refine wp_region_lit ?_
  unfold testOps
  refine wpList_run rfl (run_move _ _ _ _ _ _ _ _) ?_
  have e1 := eval_put_eq a (s + 1) (a.eval (.tmp 0)) (by omega)
  rw [h0] at e1 ⊢
  refine wpList_run rfl (run_test _ (fun _ => rfl) _ _ _ _ _ _ _ _ e1) ?_
  refine wpList_run rfl (run_assign _ _ _ _ _ _ _ _) ?_
  have e2 := eval_put_eq (a.put (some (s + 1)) (.int .i32 r)) (s + 2) (.bool (k.hit r)) (by rw [size_put]; omega)
  refine h _ ((((Kept.refl a s).put (by omega) _).put (by omega) _).put (Nat.le_refl _) _) ?_
  rw [eval_put_eq _ _ _ (by rw [size_put, size_put]; omega)]
  exact e2

theorem row_wp (s : Nat) (k : Case) (rg H : Nat) (a : Act) (w : World) (Q : Exit → Act → World → Prop) (z0 z1 z2 z3 z4 : Value) (h2 : a.eval (.tmp 2) = .pointer (some ⟨H, 0, none⟩)) (hs : s + 3 < a.tmps.size) (hs2 : 2 < s) (hb : Blk w H 59 #[z0, z1, z2, z3, z4])
    (h : ∀ a' : Act, Kept a a' s → Q .ret a' (set5 w H (k.v.getD Row.zero))) :
    ((Code.region rg (rowOps s k).toArray false).seq .ret).wp Try.prog Q a w := by
  refine wp_seq (wp_region_lit ?_)
  unfold rowOps
  refine wpList_run rfl (run_build5 _ (fun _ => rfl) _ _ _ _ _) ?_
  refine wpList_skip rfl (run_store5 _ _ _ H _ z0 z1 z2 z3 z4 _ _ _ ?_ (eval_put_eq _ _ _ hs) hb) ?_
  · rw [eval_put_ne _ _ _ _ (by omega)]; exact h2
  · exact wp_ret (h _ (((Kept.refl a s).put (by omega) _).none _))

theorem chain_wp (r : Int) (H : Nat) (z0 z1 z2 z3 z4 : Value) (w : World) (Q : Exit → Act → World → Prop) (hb : Blk w H 59 #[z0, z1, z2, z3, z4]) : ∀ (l : List Case) (rg s : Nat) (a : Act), a.eval (.tmp 0) = .int .i32 r → a.eval (.tmp 2) = .pointer (some ⟨H, 0, none⟩) → s + 4 * l.length ≤ a.tmps.size → 2 < s →
    (∀ v a', pick l r = some v → Kept a a' s → Q .ret a' (set5 w H v)) → (∀ a', pick l r = none → Kept a a' s → Q .normal a' w) → (chain rg s l).wp Try.prog Q a w
  | [], rg, s, a, h0, h2, hs, hs2, hret, hno => wp_skip (hno a rfl (Kept.refl _ _))
  | k :: t, rg, s, a, h0, h2, hs, hs2, hret, hno => by
    simp only [List.length_cons] at hs
    refine wp_seq (test_wp s k rg r a w _ h0 (by omega) fun a1 k1 e1 => ?_)
    refine wp_cond_split e1 (fun ht => ?_) (fun hf => ?_)
    · refine row_wp s k (rg + 1) H a1 w _ z0 z1 z2 z3 z4 ((k1.slots 2 hs2).trans h2) (by rw [k1.size]; omega) hs2 hb fun a2 k2 => hret _ _ (by simp [pick, ht]) (k1.trans k2)
    · refine chain_wp r H z0 z1 z2 z3 z4 w _ hb t (rg + 2) (s + 4) a1 ((k1.slots 0 (by omega)).trans h0) ((k1.slots 2 hs2).trans h2) (by rw [k1.size]; omega) (by omega) (fun v a2 hp k2 => hret v a2 (by simp [pick, hf, hp]) (k1.trans (k2.less (by omega)))) (fun a2 hp k2 => hno a2 (by simp [pick, hf, hp]) (k1.trans (k2.less (by omega))))
end Go.Proofs.Ytagokefbbdlpcaa
