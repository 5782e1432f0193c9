/- A verified abstract interpreter, part 2: operations that look at no memory. -/
import Derived.Test.YtledghdlcdgepaaGreatDoorE1
import Derived.Deep.MidRow
noncomputable section
namespace Go.Proofs.YtledghdlcdgepaaGreatDoor
set_option linter.unusedVariables false
set_option linter.unusedSimpArgs false
open Go.RowKit

/-- What the interpreter knows of a type. -/
structure TI where
  sz : Nat
  bytes : Nat
  desc : TypeDesc
  /-- of a struct: each field's offset, size, whether it is a row -/
  fo : List (Nat × Nat × Bool)
  zero : List Value
  /-- of a struct: compared field by field, nothing else is asked -/
  eqp : Bool

/-- A value without an id. -/
def IsLit (v : Value) : Prop := ∀ (r : Ren) (n : Nat), VR r v v ∧ Bel n v

structure TIok (P : Program) (t : TypeId) (i : TI) : Prop where
  info : ∃ inf, P.info? t = some inf ∧ inf.size = i.sz ∧ inf.bytes = i.bytes ∧ ∃ z, inf.zero = some z ∧ z.cells = i.zero.toArray ∧ (i.desc.isRow = true → z = .agg i.zero.toArray) ∧ (i.desc.isRow = false → i.zero = [z])
  lit : ∀ x ∈ i.zero, IsLit x
  zl : i.zero.length = i.sz
  und : P.underlying t = some i.desc
  fo : ∀ fs, i.desc = .struct fs → ∀ (k : Nat) (f : Field), fs[k]? = some f → ∃ inf d, P.info? f.type = some inf ∧ P.underlying f.type = some d ∧ i.fo[k]? = some (f.offset, inf.size, d.isRow)
  fol : ∀ fs, i.desc = .struct fs → i.fo.length = fs.size
  eqp : i.eqp = true → P.stoodInHeld t = false ∧ P.eqGuardType P.depth t = false

def TbOk (P : Program) (tb : Nat → Option TI) : Prop := ∀ t i, tb t = some i → TIok P t i

theorem TIok.sizeOf {P : Program} {t : TypeId} {i : TI} (h : TIok P t i) (w : World) : (Go.sizeOf t).run P w = .ok i.sz w := by
  obtain ⟨inf, h1, h2, _, _⟩ := h.info
  simp [Go.sizeOf, typeInfo, Sem.run_bind, h1, h2]
theorem TIok.under {P : Program} {t : TypeId} {i : TI} (h : TIok P t i) (w : World) : (underlying t).run P w = .ok i.desc w := run_underlying h.und w

section
variable {P : Program} {tb : Nat → Option TI} {r : Ren} {n : Nat} {a : Act} {ev : Operand → Option Value}

/-- What the interpreter knows of operands is so. -/
def EvOk (r : Ren) (n : Nat) (ev : Operand → Option Value) (a : Act) : Prop := ∀ x u, ev x = some u → Bel n u ∧ VR r u (a.eval x)

/-- The operation yields v (renamed) in whatever world. -/
def Yld (P : Program) (r : Ren) (n : Nat) (a : Act) (o : Oper) (v : Value) : Prop := Bel n v ∧ ∃ v', VR r v v' ∧ ∀ w, (execOp a.eval o).run P w = .ok (.value v') w

theorem yld_move {o : Oper} {x : Operand} (ho : o.op = .move x ∨ o.op = .assign x) {v : Value} (hv : ev x = some v) (he : EvOk r n ev a) : Yld P r n a o v := by
  obtain ⟨h1, h2⟩ := he x v hv
  refine ⟨h1, _, h2, fun w => ?_⟩
  rcases ho with ho | ho <;> simp [execOp, ho]

def aPick (ev : Operand → Option Value) (c x y : Operand) : Option Value := match ev c with
  | some (.bool true) => ev x
  | some (.bool false) => ev y
  | _ => none
theorem yld_pick {o : Oper} {c x y : Operand} (ho : o.op = .pick c x y) {v : Value} (hv : aPick ev c x y = some v) (he : EvOk r n ev a) : Yld P r n a o v := by
  unfold aPick at hv
  split at hv
  · rename_i hc
    obtain ⟨_, hc'⟩ := he c _ hc
    obtain ⟨h1, h2⟩ := he x v hv
    generalize hg : a.eval c = cv at hc'
    cases hc'
    exact ⟨h1, _, h2, fun w => by simp [execOp, ho, hg, asBool, Sem.run_bind]⟩
  · rename_i hc
    obtain ⟨_, hc'⟩ := he c _ hc
    obtain ⟨h1, h2⟩ := he y v hv
    generalize hg : a.eval c = cv at hc'
    cases hc'
    exact ⟨h1, _, h2, fun w => by simp [execOp, ho, hg, asBool, Sem.run_bind]⟩
  · cases hv

def aNilCheck (ev : Operand → Option Value) (x : Operand) : Option Value := match ev x with
  | some (.pointer (some p)) => some (.pointer (some p))
  | some (.func fn fi cs) => some (.func fn fi cs)
  | _ => none
theorem yld_nilCheck {o : Oper} {x : Operand} (ho : o.op = .nilCheck x) {v : Value} (hv : aNilCheck ev x = some v) (he : EvOk r n ev a) : Yld P r n a o v := by
  unfold aNilCheck at hv
  split at hv
  · rename_i p hc
    injection hv with hv; subst hv
    obtain ⟨h1, hc'⟩ := he x _ hc
    generalize hg : a.eval x = cv at hc'
    refine ⟨h1, cv, hc', fun w => ?_⟩
    cases hc'
    simp [execOp, ho, hg]
  · rename_i fn fi cs hc
    injection hv with hv; subst hv
    obtain ⟨h1, hc'⟩ := he x _ hc
    generalize hg : a.eval x = cv at hc'
    refine ⟨h1, cv, hc', fun w => ?_⟩
    cases hc'
    simp [execOp, ho, hg]
  · cases hv

def aInt (op : BinOp) (k : IntKind) (x y : Int) : Option Value := match op with
  | .add => some (.int k (k.wrap (x + y)))
  | .sub => some (.int k (k.wrap (x - y)))
  | .mul => some (.int k (k.wrap (x * y)))
  | .eql => some (.bool (x == y))
  | .neq => some (.bool (x != y))
  | .lss => some (.bool (x < y))
  | .leq => some (.bool (x ≤ y))
  | .gtr => some (.bool (x > y))
  | .geq => some (.bool (x ≥ y))
  | _ => none
def aStr (op : BinOp) (x y : ByteArray) : Option Value := match op with
  | .add => match Nat.ble (slen x + slen y) 1000000 with
    | true => some (.string (sapp x y))
    | false => none
  | .eql => some (.bool (sbeq x y))
  | .neq => some (.bool !(sbeq x y))
  | .lss => some (.bool (sless x y))
  | .leq => some (.bool (sless x y || sbeq x y))
  | .gtr => some (.bool !(sless x y || sbeq x y))
  | .geq => some (.bool !(sless x y))
  | _ => none
/-- Comparison with nil, and of bools. -/
def aSame (d : TypeDesc) (x y : Value) : Option Bool := match d, x, y with
  | .bool, .bool a, .bool b => some (a == b)
  | .pointer _, .pointer none, .pointer none => some true
  | .pointer _, .pointer none, .pointer (some _) => some false
  | .pointer _, .pointer (some _), .pointer none => some false
  | .slice _, .slice none _ _, .slice none _ _ => some true
  | .slice _, .slice none _ _, .slice (some _) _ _ => some false
  | .slice _, .slice (some _) _ _, .slice none _ _ => some false
  | .map _ _, .map none, .map none => some true
  | .map _ _, .map none, .map (some _) => some false
  | .map _ _, .map (some _), .map none => some false
  | .func _ _ _, .nilFunc, .nilFunc => some true
  | .func _ _ _, .func _ _ _, .nilFunc => some false
  | .func _ _ _, .nilFunc, .func _ _ _ => some false
  | _, _, _ => none

def aBin (tb : Nat → Option TI) (op : BinOp) (t : TypeId) (x y : Value) : Option Value := match x, y with
  | .int k a, .int k' b => if k = k' then aInt op k a b else none
  | .string a, .string b => aStr op a b
  | x, y => match op with
    | .eql => match tb t with
      | some i => (aSame i.desc x y).map Value.bool
      | none => none
    | .neq => match tb t with
      | some i => (aSame i.desc x y).map fun b => Value.bool !b
      | none => none
    | _ => none

theorem bin_int {op : BinOp} {t : TypeId} {k : IntKind} {x y : Int} {v : Value} (h : aInt op k x y = some v) (w : World) : (binOp op t (.int k x) (.int k y)).run P w = .ok v w := by
  cases op <;> simp only [aInt] at h <;> first | (cases h; done) | (injection h with h; subst h; simp [binOp, Op.intArith, Op.intCmp])

theorem bin_str {op : BinOp} {t : TypeId} {x y : ByteArray} {v : Value} (h : aStr op x y = some v) (w : World) : (binOp op t (.string x) (.string y)).run P w = .ok v w := by
  cases op <;> simp only [aStr, sbeq_toList, sless_toList, sapp_eq, slen_eq] at h <;> first
    | (cases h; done)
    | (split at h
       · rename_i hb
         injection h with h; subst h
         have : ¬ ((x.size + y.size : Nat) : Int) > IntKind.i64.max := by
           have hm : IntKind.i64.max = 9223372036854775807 := by decide
           simp at hb
           rw [hm]; omega
         simp only [binOp, Op.stringOp, if_neg this]
         simp
       · cases h)
    | (injection h with h; subst h; simp [binOp, Op.stringOp])

theorem eqGuard_off {op : BinOp} {t : TypeId} {x y : Operand} {u v : Value} (h : ¬ (u = .nilIface ∧ v = .nilIface)) (h2 : ∀ c, u ≠ .agg c) (w : World) : (eqGuard op t x y u v).run P w = .ok () w := by
  unfold eqGuard
  cases u <;> cases v <;> cases op <;> simp_all

theorem same_run {t : TypeId} {i : TI} (hi : TIok P t i) {x y x' y' : Value} {b : Bool} (h : aSame i.desc x y = some b) (hx : VR r x x') (hy : VR r y y') (w : World) :
    (Op.equal t x' y').run P w = .ok b w := by
  have hu := hi.under w
  unfold Op.equal Op.maxDepth
  unfold Op.equalIn
  rw [Sem.run_bind, hu]
  unfold aSame at h
  split at h <;> first
    | (cases h; done)
    | (rename_i hd; injection h with h; subst h; cases hx <;> cases hy <;> (rw [hd]; rfl))

theorem yld_bin {o : Oper} {op : BinOp} {t t2 : TypeId} {x y : Operand} (ho : o.op = .binOp op t x y t2) (htb : TbOk P tb) {u v z : Value} (hx : ev x = some u) (hy : ev y = some v) (hz : aBin tb op t u v = some z) (he : EvOk r n ev a) : Yld P r n a o z := by
  obtain ⟨bx, hx'⟩ := he x u hx
  obtain ⟨by', hy'⟩ := he y v hy
  generalize hgx : a.eval x = xv at hx'
  generalize hgy : a.eval y = yv at hy'
  clear bx by'
  unfold aBin at hz
  split at hz
  · split at hz
    · rename_i k p k' q hk
      subst hk
      cases hx'; cases hy'
      have hb := fun w => bin_int (P := P) (t := t) hz w
      have hg := fun w => eqGuard_off (P := P) (op := op) (t := t) (x := x) (y := y) (u := .int k p) (v := .int k q) (by simp) (by simp) w
      refine ⟨?_, z, ?_, fun w => ?_⟩
      · cases op <;> simp only [aInt] at hz <;> first | (cases hz; done) | (injection hz with hz; subst hz; constructor)
      · cases op <;> simp only [aInt] at hz <;> first | (cases hz; done) | (injection hz with hz; subst hz; constructor)
      · simp [execOp, ho, hgx, hgy, Sem.run_bind, hg w, hb w]
    · cases hz
  · rename_i p q
    cases hx'; cases hy'
    have hb := fun w => bin_str (P := P) (t := t) hz w
    have hg := fun w => eqGuard_off (P := P) (op := op) (t := t) (x := x) (y := y) (u := .string p) (v := .string q) (by simp) (by simp) w
    refine ⟨?_, z, ?_, fun w => ?_⟩
    · cases op <;> simp only [aStr] at hz <;> first | (cases hz; done) | (injection hz with hz; subst hz; constructor) | (split at hz <;> first | (cases hz; done) | (injection hz with hz; subst hz; constructor))
    · cases op <;> simp only [aStr] at hz <;> first | (cases hz; done) | (injection hz with hz; subst hz; constructor) | (split at hz <;> first | (cases hz; done) | (injection hz with hz; subst hz; constructor))
    · simp [execOp, ho, hgx, hgy, Sem.run_bind, hg w, hb w]
  · rename_i h1 h2
    have hnot : ∀ (i : TI) (b : Bool), aSame i.desc u v = some b → (¬ (xv = .nilIface ∧ yv = .nilIface)) ∧ (∀ c, xv ≠ .agg c) ∧ (∀ w, ∀ op', (op' = .eql ∨ op' = .neq) → (binOp op' t xv yv).run P w = (do let e ← Op.equal t xv yv; pure (.bool (if op' = BinOp.eql then e else !e)) : Sem Value).run P w) := by
      intro i b hs
      unfold aSame at hs
      split at hs <;> first
        | (cases hs; done)
        | (cases hx' <;> cases hy' <;> (refine ⟨by simp, by simp, ?_⟩; rintro w op' (rfl | rfl) <;> simp [binOp]))
    split at hz
    · split at hz
      · rename_i i hi
        simp only [Option.map_eq_some_iff] at hz
        obtain ⟨b, hb, rfl⟩ := hz
        obtain ⟨q1, q2, q3⟩ := hnot i b hb
        have hs := fun w => same_run (htb t i hi) hb hx' hy' w
        refine ⟨.bool b, .bool b, .bool b, fun w => ?_⟩
        simp [execOp, ho, hgx, hgy, Sem.run_bind, eqGuard_off q1 q2 w, q3 w .eql (.inl rfl), hs w]
      · cases hz
    · split at hz
      · rename_i i hi
        simp only [Option.map_eq_some_iff] at hz
        obtain ⟨b, hb, rfl⟩ := hz
        obtain ⟨q1, q2, q3⟩ := hnot i b hb
        have hs := fun w => same_run (htb t i hi) hb hx' hy' w
        refine ⟨.bool _, .bool (!b), .bool _, fun w => ?_⟩
        simp [execOp, ho, hgx, hgy, Sem.run_bind, eqGuard_off q1 q2 w, q3 w .neq (.inr rfl), hs w]
      · cases hz
    · cases hz
end
end Go.Proofs.YtledghdlcdgepaaGreatDoor
