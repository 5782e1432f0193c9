/- A verified abstract interpreter, part 1: binary tries, abstract values and their renaming, the abstract heap, what it says of a world. -/
import Derived.WalkKit
import Derived.Below
import Derived.OrdersHeld
noncomputable section
namespace Go.Proofs.YtledghdlcdgepaaGreatDoor
set_option linter.unusedVariables false
set_option linter.unusedSimpArgs false
open Go.RowKit

/-! ### Bytes, as the kernel reckons them fast -/
def beqB : List UInt8 → List UInt8 → Bool
  | [], [] => true
  | x :: xs, y :: ys => match Nat.beq x.toNat y.toNat with
    | true => beqB xs ys
    | false => false
  | _, _ => false
def lessB : List UInt8 → List UInt8 → Bool
  | _, [] => false
  | [], _ :: _ => true
  | x :: xs, y :: ys => match Nat.blt x.toNat y.toNat with
    | true => true
    | false => match Nat.beq x.toNat y.toNat with
      | true => lessB xs ys
      | false => false
def sbeq (p q : ByteArray) : Bool := beqB p.data.toList q.data.toList
def sless (p q : ByteArray) : Bool := lessB p.data.toList q.data.toList
def sapp (p q : ByteArray) : ByteArray := ⟨(p.data.toList ++ q.data.toList).toArray⟩
def slen (p : ByteArray) : Nat := p.data.toList.length
theorem beqB_iff : ∀ (l k : List UInt8), beqB l k = true ↔ l = k
  | [], [] => by simp [beqB]
  | [], _ :: _ => by simp [beqB]
  | _ :: _, [] => by simp [beqB]
  | x :: xs, y :: ys => by
    unfold beqB
    split
    · rename_i h
      have hxy : x = y := UInt8.toNat_inj.1 (Nat.eq_of_beq_eq_true h)
      rw [beqB_iff xs ys, hxy]
      simp
    · rename_i h
      constructor
      · intro hh; cases hh
      · intro hh
        injection hh with h1 h2
        rw [h1, Nat.beq_refl] at h
        cases h
theorem lessB_eq : ∀ (l k : List UInt8), lessB l k = Op.bytesLess l k
  | [], [] => by simp [lessB, Op.bytesLess]
  | [], _ :: _ => by simp [lessB, Op.bytesLess]
  | _ :: _, [] => by simp [lessB, Op.bytesLess]
  | x :: xs, y :: ys => by
    unfold lessB Op.bytesLess
    split
    · rename_i h
      have : x < y := UInt8.lt_iff_toNat_lt.2 (Nat.le_of_ble_eq_true h)
      simp [this]
    · rename_i h
      have h1 : ¬ x < y := fun hlt => by
        have : Nat.blt x.toNat y.toNat = true := Nat.ble_eq_true_of_le (UInt8.lt_iff_toNat_lt.1 hlt)
        rw [this] at h; cases h
      split
      · rename_i h2
        have hxy : x = y := UInt8.toNat_inj.1 (Nat.eq_of_beq_eq_true h2)
        subst hxy
        simp [lessB_eq xs ys]
      · rename_i h2
        have hxy : ¬ x = y := fun e => by rw [e, Nat.beq_refl] at h2; cases h2
        simp [h1, hxy]
theorem sbeq_iff (p q : ByteArray) : sbeq p q = true ↔ p = q := by
  unfold sbeq
  rw [beqB_iff]
  constructor
  · intro h
    cases p with | mk pd => cases q with | mk qd => congr; exact Array.ext' h
  · intro h; rw [h]
theorem sbeq_toList (p q : ByteArray) : sbeq p q = (p.toList == q.toList) := by
  rw [Bool.eq_iff_iff, ByteArray.toList_eq, ByteArray.toList_eq]
  unfold sbeq
  rw [beqB_iff]
  simp
theorem sless_toList (p q : ByteArray) : sless p q = Op.bytesLess p.toList q.toList := by
  rw [ByteArray.toList_eq, ByteArray.toList_eq]
  exact lessB_eq _ _
theorem sapp_eq (p q : ByteArray) : sapp p q = p ++ q := by
  apply ByteArray.ext
  simp [sapp]
theorem slen_eq (p : ByteArray) : slen p = p.size := rfl

/-! ### Tries -/
inductive Tr (α : Type) where
  | leaf
  | node (l : Tr α) (v : Option α) (r : Tr α)

/- The recursions are written with the recursors, their cases as constants: the kernel reckons these fast. -/
def trG0 {α : Type} : Nat → Option α := fun _ => none
def trG1 {α : Type} : Tr α → Option α → Tr α → (Nat → Option α) → (Nat → Option α) → Nat → Option α := fun _ v _ il ir k =>
  @Bool.rec (fun _ => Option α) (@Bool.rec (fun _ => Option α) (il (k / 2)) (ir (k / 2 - 1)) (Nat.beq (k % 2) 0)) v (Nat.beq k 0)
def Tr.get {α : Type} (t : Tr α) : Nat → Option α := @Tr.rec α (fun _ => Nat → Option α) trG0 trG1 t

def trPZ {α : Type} : Tr α → Nat → α → Tr α := fun t _ _ => t
def trPL {α : Type} : (Tr α → Nat → α → Tr α) → Nat → α → Tr α := fun ih k x =>
  @Bool.rec (fun _ => Tr α) (@Bool.rec (fun _ => Tr α) (.node (ih .leaf (k / 2) x) none .leaf) (.node .leaf none (ih .leaf (k / 2 - 1) x)) (Nat.beq (k % 2) 0)) (.node .leaf (some x) .leaf) (Nat.beq k 0)
def trPN {α : Type} : Tr α → Option α → Tr α → ((Tr α → Nat → α → Tr α) → Nat → α → Tr α) → ((Tr α → Nat → α → Tr α) → Nat → α → Tr α) → (Tr α → Nat → α → Tr α) → Nat → α → Tr α := fun l v r _ _ ih k x =>
  @Bool.rec (fun _ => Tr α) (@Bool.rec (fun _ => Tr α) (.node (ih l (k / 2) x) v r) (.node l v (ih r (k / 2 - 1) x)) (Nat.beq (k % 2) 0)) (.node l (some x) r) (Nat.beq k 0)
def trPS {α : Type} : Nat → (Tr α → Nat → α → Tr α) → Tr α → Nat → α → Tr α := fun _ ih t => @Tr.rec α (fun _ => (Tr α → Nat → α → Tr α) → Nat → α → Tr α) trPL trPN t ih
def Tr.put {α : Type} (f : Nat) : Tr α → Nat → α → Tr α := @Nat.rec (fun _ => Tr α → Nat → α → Tr α) trPZ trPS f
theorem Tr.put_leaf {α : Type} (f k : Nat) (x : α) : Tr.put (f + 1) .leaf k x = match Nat.beq k 0 with
    | true => .node .leaf (some x) .leaf
    | false => match Nat.beq (k % 2) 0 with
      | true => .node .leaf none (Tr.put f .leaf (k / 2 - 1) x)
      | false => .node (Tr.put f .leaf (k / 2) x) none .leaf := by
  show @Bool.rec (fun _ => Tr α) _ _ (Nat.beq k 0) = _
  cases Nat.beq k 0 with
  | true => rfl
  | false =>
    show @Bool.rec (fun _ => Tr α) _ _ (Nat.beq (k % 2) 0) = _
    cases Nat.beq (k % 2) 0 <;> rfl
theorem Tr.put_node {α : Type} (f : Nat) (l : Tr α) (v : Option α) (r : Tr α) (k : Nat) (x : α) : Tr.put (f + 1) (.node l v r) k x = match Nat.beq k 0 with
    | true => .node l (some x) r
    | false => match Nat.beq (k % 2) 0 with
      | true => .node l v (Tr.put f r (k / 2 - 1) x)
      | false => .node (Tr.put f l (k / 2) x) v r := by
  show @Bool.rec (fun _ => Tr α) _ _ (Nat.beq k 0) = _
  cases Nat.beq k 0 with
  | true => rfl
  | false =>
    show @Bool.rec (fun _ => Tr α) _ _ (Nat.beq (k % 2) 0) = _
    cases Nat.beq (k % 2) 0 <;> rfl

theorem nat_beq_true {a b : Nat} : Nat.beq a b = true ↔ a = b := by simp
theorem nat_beq_false {a b : Nat} : Nat.beq a b = false ↔ a ≠ b := by
  rw [← Bool.not_eq_true, nat_beq_true]

theorem Tr.get_leaf {α : Type} (k : Nat) : (Tr.leaf : Tr α).get k = none := rfl
theorem Tr.get_node {α : Type} (l : Tr α) (v : Option α) (r : Tr α) (k : Nat) : (Tr.node l v r).get k = if k = 0 then v else if k % 2 = 0 then r.get (k / 2 - 1) else l.get (k / 2) := by
  show @Bool.rec (fun _ => Option α) _ _ (Nat.beq k 0) = _
  cases h : Nat.beq k 0 with
  | true => rw [nat_beq_true] at h; simp [h]
  | false =>
    rw [nat_beq_false] at h
    rw [if_neg h]
    show @Bool.rec (fun _ => Option α) _ _ (Nat.beq (k % 2) 0) = _
    cases h2 : Nat.beq (k % 2) 0 with
    | true => rw [nat_beq_true] at h2; rw [if_pos h2]; rfl
    | false => rw [nat_beq_false] at h2; rw [if_neg h2]; rfl

theorem Tr.get_put {α : Type} : ∀ (f : Nat) (t : Tr α) (k : Nat) (x : α) (j : Nat), k + 1 < 2 ^ f → (Tr.put f t k x).get j = if j = k then some x else t.get j := by
  intro f
  induction f with
  | zero => intro t k x j h; omega
  | succ f ih =>
    intro t k x j h
    have h2 : 2 ^ (f + 1) = 2 * 2 ^ f := by rw [Nat.pow_succ]; omega
    cases t with
    | leaf =>
      rw [Tr.put_leaf, Tr.get_leaf]
      split
      · rename_i hk; rw [nat_beq_true] at hk
        rw [Tr.get_node]
        simp only [Tr.get_leaf]
        by_cases hj : j = k
        · rw [if_pos (by omega), if_pos hj]
        · rw [if_neg (by omega), if_neg hj]; simp
      · rename_i hk; rw [nat_beq_false] at hk
        split
        · rename_i hm; rw [nat_beq_true] at hm
          rw [Tr.get_node, ih _ _ _ _ (by omega)]
          simp only [Tr.get_leaf]
          by_cases hj : j = k
          · subst hj; rw [if_neg hk, if_pos hm, if_pos rfl, if_pos rfl]
          · rw [if_neg hj]
            split
            · rfl
            · split
              · rw [if_neg (by omega)]
              · rfl
        · rename_i hm; rw [nat_beq_false] at hm
          rw [Tr.get_node, ih _ _ _ _ (by omega)]
          simp only [Tr.get_leaf]
          by_cases hj : j = k
          · subst hj; rw [if_neg hk, if_neg hm, if_pos rfl, if_pos rfl]
          · rw [if_neg hj]
            split
            · rfl
            · split
              · rfl
              · rw [if_neg (by omega)]
    | node l v r =>
      rw [Tr.put_node]
      split
      · rename_i hk; rw [nat_beq_true] at hk
        subst hk
        rw [Tr.get_node, Tr.get_node]
        by_cases hj : j = 0 <;> simp [hj]
      · rename_i hk; rw [nat_beq_false] at hk
        split
        · rename_i hm; rw [nat_beq_true] at hm
          rw [Tr.get_node, Tr.get_node, ih _ _ _ _ (by omega)]
          by_cases hj : j = k
          · subst hj; rw [if_neg hk, if_pos hm, if_pos rfl, if_pos rfl]
          · rw [if_neg hj]
            split
            · rfl
            · split
              · rw [if_neg (by omega)]
              · rfl
        · rename_i hm; rw [nat_beq_false] at hm
          rw [Tr.get_node, Tr.get_node, ih _ _ _ _ (by omega)]
          by_cases hj : j = k
          · subst hj; rw [if_neg hk, if_neg hm, if_pos rfl, if_pos rfl]
          · rw [if_neg hj]
            split
            · rfl
            · split
              · rfl
              · rw [if_neg (by omega)]

def Tr.del {α : Type} : Nat → Tr α → Nat → Tr α
  | 0, t, _ => t
  | _ + 1, .leaf, _ => .leaf
  | f + 1, .node l v r, k => match Nat.beq k 0 with
    | true => .node l none r
    | false => match Nat.beq (k % 2) 0 with
      | true => .node l v (Tr.del f r (k / 2 - 1))
      | false => .node (Tr.del f l (k / 2)) v r
theorem Tr.get_del {α : Type} : ∀ (f : Nat) (t : Tr α) (k : Nat) (j : Nat), k + 1 < 2 ^ f → (Tr.del f t k).get j = if j = k then none else t.get j := by
  intro f
  induction f with
  | zero => intro t k j h; omega
  | succ f ih =>
    intro t k j h
    have h2 : 2 ^ (f + 1) = 2 * 2 ^ f := by rw [Nat.pow_succ]; omega
    cases t with
    | leaf => rw [Tr.del, Tr.get_leaf]; split <;> rfl
    | node l v r =>
      rw [Tr.del]
      split
      · rename_i hk; rw [nat_beq_true] at hk
        subst hk
        rw [Tr.get_node, Tr.get_node]
        by_cases hj : j = 0 <;> simp [hj]
      · rename_i hk; rw [nat_beq_false] at hk
        split
        · rename_i hm; rw [nat_beq_true] at hm
          rw [Tr.get_node, Tr.get_node, ih _ _ _ (by omega)]
          by_cases hj : j = k
          · subst hj; rw [if_neg hk, if_pos hm, if_pos rfl, if_pos rfl]
          · rw [if_neg hj]
            split
            · rfl
            · split
              · rw [if_neg (by omega)]
              · rfl
        · rename_i hm; rw [nat_beq_false] at hm
          rw [Tr.get_node, Tr.get_node, ih _ _ _ (by omega)]
          by_cases hj : j = k
          · subst hj; rw [if_neg hk, if_neg hm, if_pos rfl, if_pos rfl]
          · rw [if_neg hj]
            split
            · rfl
            · split
              · rfl
              · rw [if_neg (by omega)]

/-! ### Abstract values -/
/-- How ids of blocks stand in a world: the block, its capacity in elements. -/
structure Ren where
  φ : Nat → Nat
  κ : Nat → Nat

/-- The mark of a capacity that the tape has chosen. -/
def unk : Nat := 4611686018427387904

/-- v' is v with its ids renamed. -/
inductive VR (r : Ren) : Value → Value → Prop where
  | bool (b : Bool) : VR r (.bool b) (.bool b)
  | int (k : IntKind) (n : Int) : VR r (.int k n) (.int k n)
  | string (s : ByteArray) : VR r (.string s) (.string s)
  | pnil : VR r (.pointer none) (.pointer none)
  | ptr (i o : Nat) : VR r (.pointer (some ⟨i, o, none⟩)) (.pointer (some ⟨r.φ i, o, none⟩))
  | snil : VR r (.slice none 0 0) (.slice none 0 0)
  | slice (i o n c : Nat) (hc : c ≠ unk) : VR r (.slice (some ⟨i, o, none⟩) n c) (.slice (some ⟨r.φ i, o, none⟩) n c)
  | sliceU (i n : Nat) : VR r (.slice (some ⟨i, 0, none⟩) n unk) (.slice (some ⟨r.φ i, 0, none⟩) n (r.κ i))
  | mnil : VR r (.map none) (.map none)
  | map (i : Nat) : VR r (.map (some i)) (.map (some (r.φ i)))
  | fnil : VR r .nilFunc .nilFunc
  | func (f : FuncId) (cs cs' : List Value) (hl : cs.length = cs'.length) (h : ∀ (k : Nat) (x y : Value), cs[k]? = some x → cs'[k]? = some y → VR r x y) : VR r (.func (.func f) #[] cs.toArray) (.func (.func f) #[] cs'.toArray)
  | inil : VR r .nilIface .nilIface
  /-- Some bool, the tape has chosen which. -/
  | ub (b : Bool) : VR r (.chan none) (.bool b)
  | agg (cs cs' : List Value) (hl : cs.length = cs'.length) (h : ∀ (k : Nat) (x y : Value), cs[k]? = some x → cs'[k]? = some y → VR r x y) : VR r (.agg cs.toArray) (.agg cs'.toArray)
  | tuple (cs cs' : List Value) (hl : cs.length = cs'.length) (h : ∀ (k : Nat) (x y : Value), cs[k]? = some x → cs'[k]? = some y → VR r x y) : VR r (.tuple cs.toArray) (.tuple cs'.toArray)

/-- Lists of values, one by one. -/
def VRs (r : Ren) (cs cs' : List Value) : Prop := cs.length = cs'.length ∧ ∀ (k : Nat) (x y : Value), cs[k]? = some x → cs'[k]? = some y → VR r x y

/-- r' says the same as r of the ids below n. -/
def Ren.ext (r r' : Ren) (n : Nat) : Prop := ∀ i, i < n → r'.φ i = r.φ i ∧ r'.κ i = r.κ i

/-- All ids of a value lie below n. -/
inductive Bel (n : Nat) : Value → Prop where
  | bool (b : Bool) : Bel n (.bool b)
  | int (k : IntKind) (m : Int) : Bel n (.int k m)
  | string (s : ByteArray) : Bel n (.string s)
  | pnil : Bel n (.pointer none)
  | ptr (i o : Nat) (h : i < n) : Bel n (.pointer (some ⟨i, o, none⟩))
  | snil : Bel n (.slice none 0 0)
  | slice (i o m c : Nat) (h : i < n) : Bel n (.slice (some ⟨i, o, none⟩) m c)
  | mnil : Bel n (.map none)
  | map (i : Nat) (h : i < n) : Bel n (.map (some i))
  | fnil : Bel n .nilFunc
  | func (f : FuncId) (cs : List Value) (h : ∀ (k : Nat) (x : Value), cs[k]? = some x → Bel n x) : Bel n (.func (.func f) #[] cs.toArray)
  | inil : Bel n .nilIface
  | ub : Bel n (.chan none)
  | agg (cs : List Value) (h : ∀ (k : Nat) (x : Value), cs[k]? = some x → Bel n x) : Bel n (.agg cs.toArray)
  | tuple (cs : List Value) (h : ∀ (k : Nat) (x : Value), cs[k]? = some x → Bel n x) : Bel n (.tuple cs.toArray)

theorem VR.ext {r r' : Ren} {n : Nat} (he : r.ext r' n) {v v' : Value} (h : VR r v v') : Bel n v → VR r' v v' := by
  induction h with
  | bool b => intro _; exact .bool b
  | int k m => intro _; exact .int k m
  | string s => intro _; exact .string s
  | pnil => intro _; exact .pnil
  | ptr i o => intro hb; cases hb with | ptr _ _ h => rw [← (he i h).1]; exact .ptr i o
  | snil => intro _; exact .snil
  | slice i o m c hc => intro hb; cases hb with | slice _ _ _ _ h => rw [← (he i h).1]; exact .slice i o m c hc
  | sliceU i m => intro hb; cases hb with | slice _ _ _ _ h => rw [← (he i h).1, ← (he i h).2]; exact .sliceU i m
  | mnil => intro _; exact .mnil
  | map i => intro hb; cases hb with | map _ h => rw [← (he i h).1]; exact .map i
  | fnil => intro _; exact .fnil
  | inil => intro _; exact .inil
  | ub b => intro _; exact .ub b
  | func f cs cs' hl h ih => intro hb; cases hb with | func _ _ h => exact .func f cs cs' hl fun k x y hx hy => ih k x y hx hy (h k x hx)
  | agg cs cs' hl h ih => intro hb; cases hb with | agg _ h => exact .agg cs cs' hl fun k x y hx hy => ih k x y hx hy (h k x hx)
  | tuple cs cs' hl h ih => intro hb; cases hb with | tuple _ h => exact .tuple cs cs' hl fun k x y hx hy => ih k x y hx hy (h k x hx)

theorem Bel.mono {n m : Nat} (hm : n ≤ m) {v : Value} (h : Bel n v) : Bel m v := by
  induction h with
  | bool b => exact .bool b
  | int k m => exact .int k m
  | string s => exact .string s
  | pnil => exact .pnil
  | ptr i o h => exact .ptr i o (by omega)
  | snil => exact .snil
  | slice i o m c h => exact .slice i o m c (by omega)
  | mnil => exact .mnil
  | map i h => exact .map i (by omega)
  | fnil => exact .fnil
  | inil => exact .inil
  | ub => exact .ub
  | func f cs h ih => exact .func f cs ih
  | agg cs h ih => exact .agg cs ih
  | tuple cs h ih => exact .tuple cs ih

/-! ### The abstract heap -/
inductive ABlk where
  /-- A row of cells (of which the first ones are known): tip: no other id knows more of its block, and what other ids stand for its block are among pv. -/
  | cells (cs : List Value) (elem : TypeId) (pv : List Nat) (tip : Bool)
  | map (es : List (Value × Value))

structure AH where
  t : Tr ABlk
  n : Nat

def AH.get (h : AH) (i : Nat) : Option ABlk := h.t.get i

/-- What an abstract block says of a world. -/
def BlkR (P : Program) (r : Ren) (i : Nat) (w : World) : ABlk → Prop
  | .cells cs elem _ tip => ∃ (arr : Array Value) (inf : TypeInfo), (∃ fz : Nat × Nat, w.heap[r.φ i]? = some (.cells arr elem fz) ∧ (tip = true → fz = (0, 0))) ∧ P.info? elem = some inf ∧ arr.size = r.κ i * inf.size ∧ cs.length ≤ arr.size ∧
      ∀ (k : Nat) (x y : Value), cs[k]? = some x → arr[k]? = some y → VR r x y
  | .map es => ∃ (ents : Array MapEntry) (clock : Nat), w.heap[r.φ i]? = some (.map ents clock) ∧ ents.size = es.length ∧
      ∀ (k : Nat) (x : Value × Value) (y : MapEntry), es[k]? = some x → ents[k]? = some y → VR r x.1 y.key ∧ VR r x.2 y.val

/-- The values of a block lie below n. -/
def ABlk.bel (n : Nat) : ABlk → Prop
  | .cells cs _ _ _ => ∀ x ∈ cs, Bel n x
  | .map es => ∀ x ∈ es, Bel n x.1 ∧ Bel n x.2

/-- The blocks of N stay as they are. -/
structure Below (N : Nat → Prop) (w w' : World) : Prop where
  os : w'.os = w.os
  tape : w'.tape = w.tape
  output : w'.output = w.output
  size : w.heap.size ≤ w'.heap.size
  block : ∀ k, N k → w'.heap[k]? = w.heap[k]?
theorem Below.refl (N : Nat → Prop) (w : World) : Below N w w := ⟨rfl, rfl, rfl, Nat.le_refl _, fun _ _ => rfl⟩
theorem Below.trans {N : Nat → Prop} {a b c : World} (h : Below N a b) (k : Below N b c) : Below N a c :=
  ⟨k.os.trans h.os, k.tape.trans h.tape, k.output.trans h.output, Nat.le_trans h.size k.size, fun i hi => (k.block i hi).trans (h.block i hi)⟩
theorem Below.mono {N M : Nat → Prop} {a b : World} (h : Below N a b) (hm : ∀ k, M k → N k) : Below M a b := ⟨h.os, h.tape, h.output, h.size, fun k hk => h.block k (hm k hk)⟩
theorem Below.heap_alloc (w : World) (o : Obj) (k : Nat) (h : k < w.heap.size) : (w.alloc o).heap[k]? = w.heap[k]? := by
  show (w.heap.push o)[k]? = _
  rw [Array.getElem?_push, if_neg (by omega)]
theorem Below.alloc {N : Nat → Prop} {a w : World} (h : Below N a w) (hN : ∀ k, N k → k < w.heap.size) (o : Obj) : Below N a (w.alloc o) :=
  h.trans ⟨rfl, rfl, rfl, by simp, fun k hk => Below.heap_alloc _ _ _ (hN k hk)⟩

/-- The abstract heap lies in the world; what may be written of it lies outside N. -/
structure Sim (P : Program) (N : Nat → Prop) (r : Ren) (h : AH) (w : World) : Prop where
  blk : ∀ i b, h.get i = some b → BlkR P r i w b
  lt : ∀ i b, h.get i = some b → i < h.n
  bel : ∀ i b, h.get i = some b → b.bel h.n
  low : ∀ i cs e x t, h.get i = some (.cells cs e x t) → t = true → ¬ N (r.φ i)
  lowm : ∀ i es, h.get i = some (.map es) → ¬ N (r.φ i)
  excl : ∀ i cs e pv, h.get i = some (.cells cs e pv true) → ∀ j b, h.get j = some b → j ≠ i → r.φ j = r.φ i → j ∈ pv
  exclm : ∀ i es, h.get i = some (.map es) → ∀ j b, h.get j = some b → j ≠ i → r.φ j ≠ r.φ i
  tip : ∀ i cs e x, h.get i = some (.cells cs e x true) → ∀ j cs' e' x' t', h.get j = some (.cells cs' e' x' t') → r.φ j = r.φ i → cs'.length ≤ cs.length ∧ (t' = true → j = i)
  size : ∀ k, N k → k < w.heap.size
end Go.Proofs.YtledghdlcdgepaaGreatDoor
