/- A verified abstract interpreter, part 6: stores, new variables, maps. -/
import Derived.Test.YtledghdlcdgepaaGreatDoorE5
import Derived.MapKept
noncomputable section
namespace Go.Proofs.YtledghdlcdgepaaGreatDoor
set_option linter.unusedVariables false
set_option linter.unusedSimpArgs false
open Go.RowKit

section
variable {P : Program} {tb : Nat → Option TI} {r : Ren} {n : Nat} {N : Nat → Prop} {a : Act} {ev : Operand → Option Value} {h h' : AH} {w : World}

/-- What an operation does to the heap, and what it yields. -/
def Eff (P : Program) (N : Nat → Prop) (r : Ren) (h : AH) (w : World) (a : Act) (o : Oper) (v : Value) (h' : AH) : Prop :=
  ∃ r' v' w', r.ext r' h.n ∧ h.n ≤ h'.n ∧ Sim P N r' h' w' ∧ Below N w w' ∧ Bel h'.n v ∧ VR r' v v' ∧
    ((execOp a.eval o).run P w = .ok (.value v') w' ∨ ((execOp a.eval o).run P w = .ok .skip w' ∧ v = undef ∧ v' = undef))

theorem vr_undef : VR r undef undef := .tuple [] [] rfl fun k x y hx => by simp at hx
theorem bel_undef : Bel n undef := .tuple [] fun k x hx => by simp at hx

def cellsOf (v : Value) : List Value := match v with
  | .agg cs => cs.toList
  | v => [v]
theorem cellsOf_eq (v : Value) : v.cells = (cellsOf v).toArray := by cases v <;> rfl
theorem vr_cells {v v' : Value} (hv : VR r v v') : VRs r (cellsOf v) (cellsOf v') := by
  have one : ∀ {x y : Value}, VR r x y → VRs r [x] [y] := fun hxy => VRs.cons hxy VRs.nil
  cases hv with
  | agg cs cs' hl hh => exact ⟨hl, hh⟩
  | bool b => exact one (.bool b)
  | int k m => exact one (.int k m)
  | string s => exact one (.string s)
  | pnil => exact one .pnil
  | ptr i o => exact one (.ptr i o)
  | snil => exact one .snil
  | slice i o m c hc => exact one (.slice i o m c hc)
  | sliceU i m => exact one (.sliceU i m)
  | mnil => exact one .mnil
  | map i => exact one (.map i)
  | fnil => exact one .fnil
  | inil => exact one .inil
  | ub b => exact one (.ub b)
  | func f cs cs' hl hh => exact one (.func f cs cs' hl hh)
  | tuple cs cs' hl hh => exact one (.tuple cs cs' hl hh)
theorem bel_cells {v : Value} (hv : Bel n v) : ∀ x ∈ cellsOf v, Bel n x := by
  cases hv with
  | agg cs hh => intro x hx; obtain ⟨k, hk, e⟩ := List.mem_iff_getElem.1 hx; exact hh k x (by rw [← e]; exact List.getElem?_eq_getElem hk)
  | bool b => intro x hx; simp [cellsOf] at hx; subst hx; exact .bool b
  | int k m => intro x hx; simp [cellsOf] at hx; subst hx; exact .int k m
  | string s => intro x hx; simp [cellsOf] at hx; subst hx; exact .string s
  | pnil => intro x hx; simp [cellsOf] at hx; subst hx; exact .pnil
  | ptr i o hh => intro x hx; simp [cellsOf] at hx; subst hx; exact .ptr i o hh
  | snil => intro x hx; simp [cellsOf] at hx; subst hx; exact .snil
  | slice i o m c hh => intro x hx; simp [cellsOf] at hx; subst hx; exact .slice i o m c hh
  | mnil => intro x hx; simp [cellsOf] at hx; subst hx; exact .mnil
  | map i hh => intro x hx; simp [cellsOf] at hx; subst hx; exact .map i hh
  | fnil => intro x hx; simp [cellsOf] at hx; subst hx; exact .fnil
  | inil => intro x hx; simp [cellsOf] at hx; subst hx; exact .inil
  | ub => intro x hx; simp [cellsOf] at hx; subst hx; exact .ub
  | func f cs hh => intro x hx; simp [cellsOf] at hx; subst hx; exact .func f cs hh
  | tuple cs hh => intro x hx; simp [cellsOf] at hx; subst hx; exact .tuple cs hh
def isOne (v : Value) : Bool := match v with
  | .agg _ => false
  | .tuple _ => false
  | _ => true
theorem vr_one {x y : Value} (hv : VR r x y) (hx : isOne x = true) : y.oneCell' = true := by
  cases hv <;> first | rfl | (simp [isOne] at hx)
def allOne : List Value → Bool
  | [] => true
  | x :: xs => match isOne x with
    | true => allOne xs
    | false => false
theorem allOne_mem : ∀ (l : List Value), allOne l = true → ∀ x ∈ l, isOne x = true
  | [], _, x, hx => by simp at hx
  | y :: ys, h, x, hx => by
    unfold allOne at h
    split at h
    · rename_i hy
      rcases List.mem_cons.1 hx with rfl | hx
      · exact hy
      · exact allOne_mem ys h x hx
    · cases h

def aStore (tb : Nat → Option TI) (h : AH) (t : TypeId) (x y : Option Value) : Option AH := match x, y with
  | some (.pointer (some ⟨i, o, none⟩)), some v => match h.get i with
    | some (.cells cs e pv true) => match tb t with
      | some ti => match Nat.beq (cellsOf v).length ti.sz, Nat.ble (o + ti.sz) cs.length, allOne (cellsOf v), Nat.ble h.n 1000000 with
        | true, true, true, true => some ((h.dels (pv.filter fun j => !Nat.beq j i)).set i (.cells (cs.take o ++ cellsOf v ++ cs.drop (o + ti.sz)) e [] true))
        | _, _, _, _ => none
      | none => none
    | _ => none
  | _, _ => none

theorem store_ok {o : Oper} {t : TypeId} {x y : Operand} (ho : o.op = .store t x y) (htb : TbOk P tb) (hv : aStore tb h t (ev x) (ev y) = some h') (he : EvOk r h.n ev a) (hS : Sim P N r h w) :
    Eff P N r h w a o undef h' := by
  unfold aStore at hv
  split at hv
  · rename_i i oo v hx hy
    obtain ⟨hbx, hx⟩ := he x _ hx
    obtain ⟨hby, hy⟩ := he y _ hy
    generalize hgx : a.eval x = xv at hx
    generalize hgy : a.eval y = yv at hy
    cases hx
    split at hv
    · rename_i cs e pv hi0
      obtain ⟨hh, hhe⟩ : ∃ hh, hh = h.dels (pv.filter fun j => !Nat.beq j i) := ⟨_, rfl⟩
      rw [← hhe] at hv
      have hnn : hh.n = h.n := by rw [hhe]; exact AH.dels_n _ _
      have hi : hh.get i = some (.cells cs e pv true) := by rw [hhe, AH.dels_get _ _ _ (fun hm => by have := (List.mem_filter.1 hm).2; rw [nat_beq_true.2 rfl] at this; cases this)]; exact hi0
      have hS0 := hS
      have hex0 : h.n ≤ 1000000 → ∀ j b, hh.get j = some b → j ≠ i → r.φ j ≠ r.φ i := fun hn j b hj hne heq => by
        rw [hhe] at hj
        obtain ⟨h1, h2⟩ := AH.get_dels _ _ _ _ hj
        have h3 := hS0.excl i cs e pv hi0 j b h1 hne heq
        exact h2 (List.mem_filter.2 ⟨h3, by rw [nat_beq_false.2 hne]; rfl⟩) (Nat.lt_of_lt_of_le (hS0.lt j b h1) hn)
      have hS : Sim P N r hh w := hS0.sub hnn (fun j b hj => by rw [hhe] at hj; exact (AH.get_dels _ _ _ _ hj).1)
      obtain ⟨arr, inf, ⟨fz, q1, q1f⟩, q2, q3, q4, q5⟩ := hS.blk i _ hi
      obtain rfl := q1f rfl
      have hbel := hS.bel i _ hi
      split at hv
      · rename_i ti hti
        split at hv
        · rename_i c1 c2 c3 c4
          injection hv with hv; subst hv
          have c1 : (cellsOf v).length = ti.sz := by simpa using c1
          have c2 : oo + ti.sz ≤ cs.length := by simpa using c2
          have c4 : h.n ≤ 1000000 := by simpa using c4
          have hex := hex0 c4
          have hin : i < 1000000 := Nat.lt_of_lt_of_le (hS0.lt i _ hi0) c4
          have hvc := vr_cells hy
          have hlen : (cellsOf yv).length = ti.sz := by rw [← hvc.1]; exact c1
          have hone : ∀ u ∈ cellsOf yv, u.oneCell' = true := fun u hu => by
            obtain ⟨k, hk, rfl⟩ := List.mem_iff_getElem.1 hu
            have hk2 : k < (cellsOf v).length := by rw [hvc.1]; exact hk
            exact vr_one (hvc.2 k _ _ (List.getElem?_eq_getElem hk2) (List.getElem?_eq_getElem hk)) (allOne_mem _ c3 _ (List.getElem_mem hk2))
          have hrun := run_storeCells_at (P := P) (r.φ i) oo e (cellsOf yv) 0 arr w q1 (by rw [hlen]; omega) hone
          have hsz := (htb _ _ hti).sizeOf w
          obtain ⟨nw, hnw⟩ : ∃ nw : Array Value, nw = (arr.toList.take (oo + 0) ++ cellsOf yv ++ arr.toList.drop (oo + 0 + (cellsOf yv).length)).toArray := ⟨_, rfl⟩
          rw [← hnw] at hrun
          refine ⟨r, undef, w.setRow (r.φ i) nw, Ren.ext.refl r h.n, Nat.le_of_eq hnn.symm, hS.upd hi hex hin ?_ ?_ (setRow_heap w _ arr _ e (0, 0) q1) ?_ ?_ (fun k hk => setRow_other w _ k _ hk) (setRow_size w _ _), ?_, bel_undef, vr_undef, .inr ⟨?_, rfl, rfl⟩⟩
          · simp [c1]; omega
          · intro u hu
            rcases List.mem_append.1 hu with hu | hu
            · rcases List.mem_append.1 hu with hu | hu
              · exact hbel u (List.mem_of_mem_take hu)
              · rw [hnn]; exact bel_cells hby u hu
            · exact hbel u (List.mem_of_mem_drop hu)
          · intro arr2 h2
            rw [q1] at h2
            injection h2 with h2
            injection h2 with h2
            subst h2
            rw [hnw]
            simp [hlen]
            omega
          · intro k u z hu hz
            rw [hnw] at hz
            simp only [Nat.add_zero, List.getElem?_toArray, hlen] at hz
            rw [List.append_assoc, List.getElem?_append] at hu hz
            have e1 : (cs.take oo).length = oo := by simp; omega
            have e2 : (arr.toList.take oo).length = oo := by simp; omega
            rw [e1] at hu
            rw [e2] at hz
            split at hu
            · rename_i hk
              rw [if_pos hk] at hz
              rw [List.getElem?_take, if_pos hk] at hu hz
              exact q5 k u z hu (by simpa using hz)
            · rename_i hk
              rw [if_neg hk] at hz
              rw [List.getElem?_append] at hu hz
              rw [c1] at hu
              rw [hlen] at hz
              split at hu
              · rename_i hk2
                rw [if_pos hk2] at hz
                exact hvc.2 _ u z hu hz
              · rename_i hk2
                rw [if_neg hk2] at hz
                rw [List.getElem?_drop] at hu hz
                exact q5 _ u z hu (by simpa using hz)
          · exact ⟨rfl, rfl, rfl, by simp, fun k hk => setRow_other w _ k _ (fun e => hS.low i _ _ _ _ hi rfl (e ▸ hk))⟩
          · have hcs : yv.cells.size = ti.sz := by rw [cellsOf_eq]; simpa using hlen
            have hcl : yv.cells.toList = cellsOf yv := by rw [cellsOf_eq]
            simp [execOp, ho, hgx, hgy, Instr.storeAt, Instr.sureAddr, storeVar, Sem.run_bind, hsz, hcs, hcl, hrun]
        · cases hv
      · cases hv
    · cases hv
  · cases hv

theorem sim_alloc {ti : TI} {t : TypeId} (hti : TIok P t ti) (hS : Sim P N r h w) (hn : h.n < 1000000) {cs : List Value} {cs' : List Value} (hvr : VRs r cs cs') (hb : ∀ x ∈ cs, Bel h.n x) (k : Nat) (hl : cs.length = k * ti.sz) :
    Sim P N (r.upd h.n w.heap.size k) (h.push (.cells cs t [] true)) (w.alloc (.cells cs'.toArray t)) := by
  obtain ⟨inf, z1, z2, _, _⟩ := hti.info
  refine hS.new hn _ _ k ⟨cs'.toArray, inf, ⟨(0, 0), ?_, fun _ => rfl⟩, z1, ?_, ?_, ?_⟩ (fun x hx => (hb x hx).mono (Nat.le_succ _))
  · have : (r.upd h.n w.heap.size k).φ h.n = w.heap.size := by simp [Ren.upd]
    rw [this]
    exact (MapKept.heap_alloc w _).1
  · have : (r.upd h.n w.heap.size k).κ h.n = k := by simp [Ren.upd]
    rw [this, z2, ← hl, hvr.1]
    simp
  · rw [hvr.1]; simp
  · intro j x y hx hy
    exact (hvr.2 j x y hx (by simpa using hy)).ext (r.ext_upd h.n _ k) (hb x (List.mem_of_getElem? hx))

theorem below_alloc (hS : Sim P N r h w) (o : Obj) : Below N w (w.alloc o) := (Below.refl N w).alloc hS.size o

theorem ptr_new (k : Nat) : VR (r.upd h.n w.heap.size k) (.pointer (some ⟨h.n, 0, none⟩)) (.pointer (some ⟨w.heap.size, 0, none⟩)) := by
  have := VR.ptr (r := r.upd h.n w.heap.size k) h.n 0
  have e : (r.upd h.n w.heap.size k).φ h.n = w.heap.size := by simp [Ren.upd]
  rwa [e] at this

def aAlloc (tb : Nat → Option TI) (h : AH) (t : TypeId) : Option (Value × AH) := match tb t with
  | some ti => match Nat.blt h.n 1000000 with
    | true => some (.pointer (some ⟨h.n, 0, none⟩), h.push (.cells ti.zero t [] true))
    | false => none
  | none => none
theorem lits_vrs {l : List Value} (hl : ∀ x ∈ l, IsLit x) : VRs r l l := ⟨rfl, fun k x y hx hy => by rw [hx] at hy; injection hy with hy; subst hy; exact (hl x (List.mem_of_getElem? hx) r 0).1⟩
theorem alloc_ok {o : Oper} {t : TypeId} (ho : o.op = .alloc t) (htb : TbOk P tb) {v : Value} (hv : aAlloc tb h t = some (v, h')) (hS : Sim P N r h w) : Eff P N r h w a o v h' := by
  unfold aAlloc at hv
  split at hv
  · rename_i ti hti
    split at hv
    · rename_i hn
      injection hv with hv
      injection hv with hv1 hv2
      subst hv1 hv2
      have hn : h.n < 1000000 := by simpa using hn
      have ht := htb _ _ hti
      obtain ⟨inf, z1, z2, z3, z, z4, z5, z6, z7⟩ := ht.info
      refine ⟨_, _, _, r.ext_upd h.n w.heap.size 1, Nat.le_succ _, sim_alloc ht hS hn (lits_vrs ht.lit) (fun x hx => (ht.lit x hx r h.n).2) 1 (by rw [ht.zl]; omega), below_alloc hS _, .ptr _ _ (Nat.lt_succ_self _), ptr_new 1, .inl ?_⟩
      have hz : (zeroValue t).run P w = .ok z w := by simp [zeroValue, typeInfo, Sem.run_bind, z1, z4]
      simp [execOp, ho, Instr.alloc, Sem.run_bind, hz, newVar, newRow, z5]
    · cases hv
  · cases hv

def aBox (tb : Nat → Option TI) (h : AH) (t : TypeId) (x : Option Value) : Option (Value × AH) := match x with
  | some v => match tb t with
    | some ti => match Nat.blt h.n 1000000, Nat.beq (cellsOf v).length ti.sz with
      | true, true => some (.pointer (some ⟨h.n, 0, none⟩), h.push (.cells (cellsOf v) t [] true))
      | _, _ => none
    | none => none
  | none => none
theorem box_ok {o : Oper} {t : TypeId} {x : Operand} (ho : o.op = .box t x) (htb : TbOk P tb) {v : Value} (hv : aBox tb h t (ev x) = some (v, h')) (he : EvOk r h.n ev a) (hS : Sim P N r h w) : Eff P N r h w a o v h' := by
  unfold aBox at hv
  split at hv
  · rename_i u hu
    split at hv
    · rename_i ti hti
      split at hv
      · rename_i hn hl
        injection hv with hv
        injection hv with hv1 hv2
        subst hv1 hv2
        have hn : h.n < 1000000 := by simpa using hn
        have hl : (cellsOf u).length = ti.sz := by simpa using hl
        obtain ⟨hb, hx⟩ := he x _ hu
        refine ⟨_, _, _, r.ext_upd h.n w.heap.size 1, Nat.le_succ _, sim_alloc (htb _ _ hti) hS hn (vr_cells hx) (bel_cells hb) 1 (by omega), below_alloc hS _, .ptr _ _ (Nat.lt_succ_self _), ptr_new 1, .inl ?_⟩
        simp [execOp, ho, Instr.box, Sem.run_bind, newVar, newRow, cellsOf_eq]
      · cases hv
    · cases hv
  · cases hv

/-! ### Maps -/
def aMakeMap (h : AH) : Option (Value × AH) := match Nat.blt h.n 1000000 with
  | true => some (.map (some h.n), h.push (.map []))
  | false => none
theorem makeMap_ok {o : Oper} {t : TypeId} (ho : o.op = .makeMap t none) {v : Value} (hv : aMakeMap h = some (v, h')) (hS : Sim P N r h w) : Eff P N r h w a o v h' := by
  unfold aMakeMap at hv
  split at hv
  · rename_i hn
    injection hv with hv
    injection hv with hv1 hv2
    subst hv1 hv2
    have hn : h.n < 1000000 := by simpa using hn
    have e : (r.upd h.n w.heap.size 0).φ h.n = w.heap.size := by simp [Ren.upd]
    refine ⟨_, _, _, r.ext_upd h.n w.heap.size 0, Nat.le_succ _, hS.new hn (.map []) (.map #[] 0) 0 ⟨#[], 0, by rw [e]; exact (MapKept.heap_alloc w _).1, rfl, by simp⟩ (by intro x hx; simp at hx), below_alloc hS _, .map _ (Nat.lt_succ_self _), .map h.n, .inl ?_⟩
    rw [e]
    simp [execOp, ho, Instr.makeMap, Sem.run_bind]
  · cases hv

/-- The key's place among the entries. -/
def aFind (k : Value) : List (Value × Value) → Option (Option Value)
  | [] => some none
  | (x, v) :: es => match k, x with
    | .string p, .string q => match sbeq p q with
      | true => some (some v)
      | false => aFind k es
    | .int j p, .int j' q => match decide (j = j'), p == q with
      | true, true => some (some v)
      | true, false => aFind k es
      | false, _ => none
    | _, _ => none

def aLookup.keyFits : TypeDesc → Value → Bool
  | .string, .string _ => true
  | .int k, .int k' _ => decide (k' = k)
  | _, _ => false
def aLookup (tb : Nat → Option TI) (ev : Operand → Option Value) (h : AH) (t : TypeId) (x y : Operand) (ok : Bool) : Option Value := match tb t with
  | some ti => match ti.desc with
    | .map kt et => match tb kt, tb et with
      | some ki, some ei => match ev x, ev y with
        | some m, some k => match (match m with
            | .map none => some []
            | .map (some i) => match h.get i with
              | some (.map es) => some es
              | _ => none
            | _ => none), aLookup.keyFits ki.desc k with
          | some es, true => match aFind k es, (match ei.desc.isRow, ei.zero with
              | true, z => some (Value.agg z.toArray)
              | false, [z] => some z
              | false, _ => none) with
            | some (some v), some z => some (if ok then .tuple #[v, .bool true] else v)
            | some none, some z => some (if ok then .tuple #[z, .bool false] else z)
            | _, _ => none
          | _, _ => none
        | _, _ => none
      | _, _ => none
    | _ => none
  | none => none
end
end Go.Proofs.YtledghdlcdgepaaGreatDoor
