/- A verified abstract interpreter, part 13d: the last of the operations that are met in plain regions alone. -/
import Derived.Test.YtledghdlcdgepaaGreatDoorE13c
noncomputable section
namespace Go.Proofs.YtledghdlcdgepaaGreatDoor
set_option linter.unusedVariables false
set_option linter.unusedSimpArgs false
open Go.RowKit

section
variable {P : Program} {tb : Nat → Option TI} {r : Ren} {n : Nat} {N : Nat → Prop} {a : Act} {ev : Operand → Option Value} {h h' : AH} {w : World}

/-! ### Copies -/
def aCopy (tb : Nat → Option TI) (h : AH) (t : TypeId) (d s : Option Value) : Option (Value × AH) := match tb t, d, s with
  | some ti, some (.slice (some ⟨i, o, none⟩) dl _), some (.slice none 0 0) => match ti.desc with
    | .slice e => match tb e with
      | some ei => some (.int .i64 (.ofNat 0), h)
      | none => none
    | _ => none
  | some ti, some (.slice (some ⟨i, o, none⟩) dl _), some (.slice (some ⟨j, p, none⟩) sl _) => match ti.desc with
    | .slice e => match tb e with
      | some ei => match h.get j, h.get i with
        | some (.cells cs2 _ _ _), some (.cells cs e' pv true) => match Nat.beq e e', Nat.beq sl dl, Nat.ble (p + sl * ei.sz) cs2.length, Nat.ble (o + sl * ei.sz) cs.length, Nat.ble h.n 1000000, allOne ((cs2.drop p).take (sl * ei.sz)) with
          | true, true, true, true, true, true => some (.int .i64 (.ofNat sl), (h.dels (pv.filter fun j => !Nat.beq j i)).set i (.cells (cs.take o ++ (cs2.drop p).take (sl * ei.sz) ++ cs.drop (o + sl * ei.sz)) e' [] true))
          | _, _, _, _, _, _ => none
        | _, _ => none
      | none => none
    | _ => none
  | _, _, _ => none

theorem run_firstCells_slice {sz m c : Nat} {ad : Addr} : (Builtin.firstCells sz m (.slice (some ad) m c)).run P w = (loadCells ad (m * sz)).run P w := rfl

theorem storeNil (ad : Addr) : (storeCells ad []).run P w = .ok () w := rfl

theorem copy_ok {o : Oper} {c : Call} {ts tx : TypeId} {x y : Operand} (ho : o.op = .call c) (hc : c.callee = .builtin .copy) (hargs : c.args = #[x, y]) (hts : c.argTypes = #[ts, tx]) (htb : TbOk P tb) {v : Value}
    (hv : aCopy tb h ts (ev x) (ev y) = some (v, h')) (he : EvOk r h.n ev a) (hS : Sim P N r h w) : Eff P N r h w a o v h' := by
  have hexec : ∀ u w', (Builtin.copy_ #[ts, tx] o.type #[a.eval x, a.eval y]).run P w = .ok u w' → (execOp a.eval o).run P w = .ok (.value u) w' := fun u w' hu => by
    simp [execOp, ho, resolve, hc, hargs, hts, invoke, builtin, Sem.run_bind, hu]
  unfold aCopy at hv
  split at hv
  · rename_i ti i oo dl dc hti hx hy
    obtain ⟨_, hx⟩ := he x _ hx
    obtain ⟨_, hy⟩ := he y _ hy
    split at hv
    · rename_i e hd
      split at hv
      · rename_i ei hei
        injection hv with hv
        injection hv with hv1 hv2
        subst hv1 hv2
        have hut := (htb _ _ hti).under w
        rw [hd] at hut
        have hso := (htb _ _ hei).sizeOf w
        generalize hgx : a.eval x = xv at hx hexec
        have hxv : ∃ c', xv = .slice (some ⟨r.φ i, oo, none⟩) dl c' := by cases hx <;> exact ⟨_, rfl⟩
        obtain ⟨c', rfl⟩ := hxv
        generalize hgy : a.eval y = yv at hy hexec
        cases hy
        refine ⟨r, .int .i64 (.ofNat 0), w, Ren.ext.refl r _, Nat.le_refl _, hS, Below.refl N w, .int _ _, .int _ _, .inl (hexec _ _ ?_)⟩
        unfold Builtin.copy_
        simp only [List.getElem?_toArray, List.getElem?_cons_zero, List.getElem?_cons_succ, Sem.run_bind, hut, Result.andThen_ok, hso, Builtin.lenOf, Sem.run_pure, Builtin.firstCells]
        simp [storeCells, goInt, Sem.run_bind]
      · cases hv
    · cases hv
  · rename_i ti i oo dl dc j p sl sc hti hx hy
    obtain ⟨_, hx⟩ := he x _ hx
    obtain ⟨_, hy⟩ := he y _ hy
    split at hv
    · rename_i e hd
      split at hv
      · rename_i ei hei
        split at hv
        · rename_i cs2 e2 pv2 tp2 cs e' pv hj0 hi0
          split at hv
          · rename_i c0 c1 c2 c3 c4 c5
            injection hv with hv
            injection hv with hv1 hv2
            subst hv1 hv2
            have c0 : e = e' := nat_beq_true.1 c0
            have c1 : sl = dl := nat_beq_true.1 c1
            subst c0; subst c1
            have c2 : p + sl * ei.sz ≤ cs2.length := by simpa using c2
            have c3 : oo + sl * ei.sz ≤ cs.length := by simpa using c3
            have c4 : h.n ≤ 1000000 := by simpa using c4
            have hut := (htb _ _ hti).under w
            rw [hd] at hut
            have hso := (htb _ _ hei).sizeOf w
            generalize hgx : a.eval x = xv at hx hexec
            have hxv : ∃ c', xv = .slice (some ⟨r.φ i, oo, none⟩) sl c' := by cases hx <;> exact ⟨_, rfl⟩
            obtain ⟨cx, rfl⟩ := hxv
            generalize hgy : a.eval y = yv at hy hexec
            have hyv : ∃ c', yv = .slice (some ⟨r.φ j, p, none⟩) sl c' := by cases hy <;> exact ⟨_, rfl⟩
            obtain ⟨cy, rfl⟩ := hyv
            -- what is copied
            obtain ⟨new', nvr, nlen, nrun, nbel⟩ := first_cells (o := p) (sz := ei.sz) (m := sl) (c := cy) hS hj0 c2
            have hrunF := nrun w rfl
            -- the store
            obtain ⟨hh, hhe⟩ : ∃ hh, hh = h.dels (pv.filter fun j => !Nat.beq j i) := ⟨_, rfl⟩
            rw [← hhe]
            have hnn : hh.n = h.n := by rw [hhe]; exact AH.dels_n _ _
            have hi : hh.get i = some (.cells cs e pv true) := by rw [hhe, AH.dels_get _ _ _ (fun hm => by have := (List.mem_filter.1 hm).2; rw [nat_beq_true.2 rfl] at this; cases this)]; exact hi0
            have hex : ∀ j b, hh.get j = some b → j ≠ i → r.φ j ≠ r.φ i := fun j b hj hne heq => by
              rw [hhe] at hj
              obtain ⟨h1, h2⟩ := AH.get_dels _ _ _ _ hj
              have h3 := hS.excl i cs e pv hi0 j b h1 hne heq
              exact h2 (List.mem_filter.2 ⟨h3, by rw [nat_beq_false.2 hne]; rfl⟩) (Nat.lt_of_lt_of_le (hS.lt j b h1) c4)
            have hS1 : Sim P N r hh w := hS.sub hnn (fun j b hj => by rw [hhe] at hj; exact (AH.get_dels _ _ _ _ hj).1)
            have hin : i < 1000000 := Nat.lt_of_lt_of_le (hS.lt i _ hi0) c4
            obtain ⟨arr, inf, ⟨fz, q1, q1f⟩, q2, q3, q4, q5⟩ := hS1.blk i _ hi
            obtain rfl := q1f rfl
            have hbel := hS1.bel i _ hi
            have hone : ∀ u ∈ new', u.oneCell' = true := fun u hu => by
              obtain ⟨k, hk, rfl⟩ := List.mem_iff_getElem.1 hu
              have hk2 : k < ((cs2.drop p).take (sl * ei.sz)).length := by rw [nvr.1]; exact hk
              exact vr_one (nvr.2 k _ _ (List.getElem?_eq_getElem hk2) (List.getElem?_eq_getElem hk)) (allOne_mem _ c5 _ (List.getElem_mem hk2))
            have hst := run_storeCells_at (P := P) (r.φ i) oo e new' 0 arr w q1 (by rw [nlen]; omega) hone
            obtain ⟨nw, hnw⟩ : ∃ nw : Array Value, nw = (arr.toList.take (oo + 0) ++ new' ++ arr.toList.drop (oo + 0 + new'.length)).toArray := ⟨_, rfl⟩
            rw [← hnw] at hst
            have hl1 : ((cs2.drop p).take (sl * ei.sz)).length = sl * ei.sz := by rw [nvr.1]; exact nlen
            refine ⟨r, .int .i64 (.ofNat sl), w.setRow (r.φ i) nw, Ren.ext.refl r h.n, Nat.le_of_eq hnn.symm, hS1.upd hi hex hin ?_ ?_ (setRow_heap w _ arr _ e (0, 0) q1) ?_ ?_ (fun k hk => setRow_other w _ k _ hk) (setRow_size w _ _), ?_, .int _ _, .int _ _, .inl (hexec _ _ ?_)⟩
            · rw [List.length_append, List.length_append, hl1]; simp; omega
            · intro u hu
              rcases List.mem_append.1 hu with hu | hu
              · rcases List.mem_append.1 hu with hu | hu
                · exact hbel u (List.mem_of_mem_take hu)
                · rw [hnn]; exact nbel u hu
              · exact hbel u (List.mem_of_mem_drop hu)
            · intro arr2 h2
              rw [q1] at h2
              injection h2 with h2
              injection h2 with h2
              subst h2
              rw [hnw]
              simp [nlen]
              omega
            · intro k u z hu hz
              rw [hnw] at hz
              simp only [Nat.add_zero, List.getElem?_toArray, nlen] at hz
              rw [List.append_assoc, List.getElem?_append] at hu hz
              have e1 : (cs.take oo).length = oo := by simp; omega
              have e2 : (arr.toList.take oo).length = oo := by simp; omega
              rw [e1] at hu
              rw [e2] at hz
              split at hu
              · rename_i hk
                rw [if_pos hk] at hz
                rw [List.getElem?_take, if_pos hk] at hu hz
                exact q5 k u z hu (by simpa using hz)
              · rename_i hk
                rw [if_neg hk] at hz
                rw [List.getElem?_append] at hu hz
                rw [hl1] at hu
                rw [nlen] at hz
                split at hu
                · rename_i hk2
                  rw [if_pos hk2] at hz
                  exact nvr.2 _ u z hu hz
                · rename_i hk2
                  rw [if_neg hk2] at hz
                  rw [List.getElem?_drop] at hu hz
                  exact q5 _ u z hu (by simpa using hz)
            · exact ⟨rfl, rfl, rfl, by simp, fun k hk => setRow_other w _ k _ (fun e => hS1.low i _ _ _ _ hi rfl (e ▸ hk))⟩
            · unfold Builtin.copy_
              simp only [List.getElem?_toArray, List.getElem?_cons_zero, List.getElem?_cons_succ, Sem.run_bind, hut, Result.andThen_ok, hso, Builtin.lenOf, Sem.run_pure]
              have hmin : Nat.min sl sl = sl := Nat.min_self sl
              rw [hmin, hrunF]
              simp only [Result.andThen_ok, Sem.run_bind]
              simp [hst, goInt]
          · cases hv
        · cases hv
      · cases hv
    · cases hv
  · cases hv

/-! ### Lengths of maps, capacities, the greater -/
def aLenM (tb : Nat → Option TI) (ev : Operand → Option Value) (h : AH) (t : TypeId) (x : Operand) : Option Value := match ev x, tb t with
  | some (.map (some i)), some ti => match ti.desc, h.get i with
    | .map _ _, some (.map es) => some (.int .i64 (.ofNat es.length))
    | _, _ => none
  | _, _ => none
theorem lenM_ok {o : Oper} {c : Call} {t : TypeId} {x : Operand} (ho : o.op = .call c) (hc : c.callee = .builtin .len) (hargs : c.args = #[x]) (hts : c.argTypes = #[t]) (htb : TbOk P tb) {v : Value} (hv : aLenM tb ev h t x = some v) (he : EvOk r h.n ev a) (hS : Sim P N r h w) :
    Bel h.n v ∧ ∃ v', VR r v v' ∧ (execOp a.eval o).run P w = .ok (.value v') w := by
  unfold aLenM at hv
  split at hv
  · rename_i i ti hx hti
    obtain ⟨_, hx⟩ := he x _ hx
    split at hv
    · rename_i k1 k2 es hd hi
      injection hv with hv; subst hv
      have hut := (htb _ _ hti).under w
      rw [hd] at hut
      obtain ⟨ents, clock, q1, q2, q3⟩ := hS.blk i _ hi
      generalize hg : a.eval x = xv at hx
      cases hx
      refine ⟨.int _ _, _, .int _ _, ?_⟩
      simp [execOp, ho, resolve, hc, hargs, hts, hg, invoke, builtin, Builtin.len_, Sem.run_bind, hut, goInt, MapKept.run_getObj_map q1, q2]
    · cases hv
  · cases hv

def aCap (tb : Nat → Option TI) (ev : Operand → Option Value) (t : TypeId) (x : Operand) : Option Value := match ev x, tb t with
  | some (.slice none 0 0), some ti => match ti.desc with
    | .slice _ => some (.int .i64 (.ofNat 0))
    | _ => none
  | _, _ => none
theorem yld_cap {o : Oper} {c : Call} {t : TypeId} {x : Operand} (ho : o.op = .call c) (hc : c.callee = .builtin .cap) (hargs : c.args = #[x]) (hts : c.argTypes = #[t]) (htb : TbOk P tb) {v : Value} (hv : aCap tb ev t x = some v) (he : EvOk r n ev a) : Yld P r n a o v := by
  unfold aCap at hv
  split at hv
  · rename_i ti hx hti
    obtain ⟨_, hx⟩ := he x _ hx
    split at hv
    · rename_i e hd
      injection hv with hv; subst hv
      generalize hg : a.eval x = xv at hx
      cases hx
      refine ⟨.int _ _, _, .int _ _, fun w => ?_⟩
      have hut := (htb _ _ hti).under w
      rw [hd] at hut
      simp [execOp, ho, resolve, hc, hargs, hts, hg, invoke, builtin, Builtin.cap_, Sem.run_bind, hut, goInt]
    · cases hv
  · cases hv

def aMax (ev : Operand → Option Value) (x y : Operand) : Option Value := match ev x, ev y with
  | some (.int k a), some (.int _ b) => some (.int k (if b > a then b else a))
  | _, _ => none
theorem yld_max {o : Oper} {c : Call} {x y : Operand} (ho : o.op = .call c) (hc : c.callee = .builtin .max) (hargs : c.args = #[x, y]) {v : Value} (hv : aMax ev x y = some v) (he : EvOk r n ev a) : Yld P r n a o v := by
  unfold aMax at hv
  split at hv
  · rename_i k p k2 q hx hy
    obtain ⟨_, hx⟩ := he x _ hx
    obtain ⟨_, hy⟩ := he y _ hy
    have hx := vr_int hx
    have hy := vr_int hy
    injection hv with hv; subst hv
    refine ⟨.int _ _, _, .int _ _, fun w => ?_⟩
    simp [execOp, ho, resolve, hc, hargs, hx, hy, invoke, builtin, Builtin.max_, Builtin.max2, Sem.run_bind]
  · cases hv

/-! ### More comparisons -/
def aBits (op : BinOp) (k : IntKind) (x y : Int) : Option Value := match op with
  | .and => some (.int k (k.wrap (BitVec.ofInt k.bits x &&& BitVec.ofInt k.bits y).toNat))
  | .or => some (.int k (k.wrap (BitVec.ofInt k.bits x ||| BitVec.ofInt k.bits y).toNat))
  | _ => none
def isConst (x : Operand) : Bool := match x with
  | .const _ => true
  | _ => false
/-- Two nil interfaces, one of them written nil. -/
def aNils (tb : Nat → Option TI) (op : BinOp) (t : TypeId) (x y : Operand) : Option Value := match tb t with
  | some ti => match ti.desc, isConst x || isConst y with
    | .interface _, true => match op with
      | .eql => some (.bool true)
      | .neq => some (.bool false)
      | _ => none
    | _, _ => none
  | none => none
def aBinX (tb : Nat → Option TI) (ev : Operand → Option Value) (op : BinOp) (t : TypeId) (x y : Operand) : Option Value := match ev x, ev y with
  | some (.int k p), some (.int k' q) => match decide (k = k') with
    | true => aBits op k p q
    | false => none
  | some .nilIface, some .nilIface => aNils tb op t x y
  | _, _ => none
theorem yld_binX {o : Oper} {op : BinOp} {t t2 : TypeId} {x y : Operand} (ho : o.op = .binOp op t x y t2) (htb : TbOk P tb) {z : Value} (hz : aBinX tb ev op t x y = some z) (he : EvOk r n ev a) : Yld P r n a o z := by
  unfold aBinX at hz
  split at hz
  · rename_i k p k' q hx hy
    obtain ⟨_, hx⟩ := he x _ hx
    obtain ⟨_, hy⟩ := he y _ hy
    have hx := vr_int hx
    have hy := vr_int hy
    split at hz
    · rename_i hk
      have hk : k = k' := of_decide_eq_true hk
      subst hk
      have hg := fun w => eqGuard_off (P := P) (op := op) (t := t) (x := x) (y := y) (u := .int k p) (v := .int k q) (by simp) (by simp) w
      unfold aBits at hz
      split at hz
      · injection hz with hz; subst hz
        exact ⟨.int _ _, _, .int _ _, fun w => by simp [execOp, ho, hx, hy, Sem.run_bind, hg w, binOp, Op.intBits]⟩
      · injection hz with hz; subst hz
        exact ⟨.int _ _, _, .int _ _, fun w => by simp [execOp, ho, hx, hy, Sem.run_bind, hg w, binOp, Op.intBits]⟩
      · cases hz
    · cases hz
  · rename_i hx hy
    obtain ⟨_, hx⟩ := he x _ hx
    obtain ⟨_, hy⟩ := he y _ hy
    generalize hgx : a.eval x = xv at hx
    generalize hgy : a.eval y = yv at hy
    cases hx; cases hy
    unfold aNils at hz
    split at hz
    · rename_i ti hti
      split at hz
      · rename_i ms hd hcc
        have hut := fun w => (htb _ _ hti).under w
        rw [hd] at hut
        have hg : ∀ op w, (eqGuard op t x y .nilIface .nilIface).run P w = .ok () w := fun op w => by
          unfold eqGuard
          unfold isConst at hcc
          cases x <;> cases y <;> cases op <;> simp_all
        have hq : ∀ w, (Op.equal t .nilIface .nilIface).run P w = .ok true w := fun w => by
          unfold Op.equal Op.maxDepth
          unfold Op.equalIn
          rw [Sem.run_bind, hut w]
          rfl
        split at hz
        · injection hz with hz; subst hz
          exact ⟨.bool _, _, .bool _, fun w => by simp [execOp, ho, hgx, hgy, Sem.run_bind, hg, binOp, hq w]⟩
        · injection hz with hz; subst hz
          exact ⟨.bool _, _, .bool _, fun w => by simp [execOp, ho, hgx, hgy, Sem.run_bind, hg, binOp, hq w]⟩
        · cases hz
      · cases hz
    · cases hz
  · cases hz
end
end Go.Proofs.YtledghdlcdgepaaGreatDoor
