/- A verified abstract interpreter, part 12c: comparison of structs. -/
import Derived.Test.YtledghdlcdgepaaGreatDoorE12b
import Derived.Laws.StructEq
noncomputable section
namespace Go.Proofs.YtledghdlcdgepaaGreatDoor
set_option linter.unusedVariables false
set_option linter.unusedSimpArgs false
open Go.RowKit

section
variable {P : Program} {tb : Nat → Option TI} {r : Ren} {n : Nat} {N : Nat → Prop} {a : Act} {ev : Operand → Option Value} {h h' : AH} {w : World}

/-- Comparison of plain parts. -/
def eq1 (d : TypeDesc) (x y : Value) : Option Bool := match d, x, y with
  | .int k, .int j a, .int j' b => match decide (j = k), decide (j' = k) with
    | true, true => some (a == b)
    | _, _ => none
  | .string, .string a, .string b => some (sbeq a b)
  | .bool, .bool a, .bool b => some (a == b)
  | _, _, _ => none
theorem eq1_run {t : TypeId} {d : TypeDesc} {x y x' y' : Value} {b : Bool} (hu : P.underlying t = some d) (h1 : eq1 d x y = some b) (hx : VR r x x') (hy : VR r y y') (k : Nat) (w : World) : (Op.equalIn (k + 1) t x' y').run P w = .ok b w := by
  unfold eq1 at h1
  split at h1
  · split at h1
    · rename_i c1 c2
      injection h1 with h1
      have c1 := of_decide_eq_true c1
      have c2 := of_decide_eq_true c2
      subst c1; subst c2
      rw [vr_int hx, vr_int hy, run_equalIn_int w k t _ _ _ _ hu, h1]
    · cases h1
  · injection h1 with h1
    rw [vr_string hx, vr_string hy, run_equalIn_string w k t _ _ hu, ← sbeq_toList, h1]
  · injection h1 with h1
    rw [vr_bool hx, vr_bool hy, run_equalIn_bool' w k t _ _ hu, h1]
  · cases h1

def eqFs (tb : Nat → Option TI) (xs ys : List Value) : List Field → Option Bool
  | [] => some true
  | f :: fs => match f.name == "_", tb f.type with
    | false, some fi => match fi.desc.isRow, xs[f.offset]?, ys[f.offset]? with
      | false, some x, some y => match eq1 fi.desc x y with
        | some true => eqFs tb xs ys fs
        | some false => some false
        | none => none
      | _, _, _ => none
    | _, _ => none
theorem eqFs_run (htb : TbOk P tb) {xs ys xs' ys' : List Value} (hx : VRs r xs xs') (hy : VRs r ys ys') (k : Nat) (w : World) : ∀ (fs : List Field) (b : Bool), eqFs tb xs ys fs = some b → (Op.eqFields (k + 1) xs'.toArray ys'.toArray fs).run P w = .ok b w
  | [], b, h => by simp [eqFs] at h; subst h; rfl
  | f :: fs, b, h => by
    unfold eqFs at h
    split at h
    · rename_i fi hn hfi
      split at h
      · rename_i x y hrow hx0 hy0
        obtain ⟨x', hx1, hx2⟩ := hx.at_ hx0
        obtain ⟨y', hy1, hy2⟩ := hy.at_ hy0
        have hu := (htb _ _ hfi).und
        have hag : (isAgg f.type).run P w = .ok false w := by
          unfold isAgg
          rw [Sem.run_bind, run_underlying hu w]
          generalize fi.desc = d at hrow
          cases d <;> first | rfl | cases hrow
        have p1 : (part f.type xs'.toArray f.offset).run P w = .ok x' w := by simp [part, Sem.run_bind, hag, hx1]
        have p2 : (part f.type ys'.toArray f.offset).run P w = .ok y' w := by simp [part, Sem.run_bind, hag, hy1]
        have hn' : f.name ≠ "_" := by simpa using hn
        simp only [Op.eqFields]
        rw [if_pos hn']
        simp only [Sem.run_bind, p1, p2, Result.andThen_ok]
        split at h
        · rename_i he
          rw [eq1_run hu he hx2 hy2 k w]
          simp only [Result.andThen_ok, Bool.not_true, Bool.false_eq_true, if_false]
          exact eqFs_run htb hx hy k w fs b h
        · rename_i he
          injection h with h; subst h
          rw [eq1_run hu he hx2 hy2 k w]
          simp only [Result.andThen_ok, Bool.not_false, if_true, Sem.run_pure]
        · cases h
      · cases h
    · cases h

def aBinS (tb : Nat → Option TI) (op : BinOp) (t : TypeId) (u v : Option Value) : Option Value := match u, v, tb t with
  | some (.agg xs), some (.agg ys), some ti => match ti.desc with
    | .struct fs => match ti.eqp, eqFs tb xs.toList ys.toList fs.toList with
      | true, some b => match op with
        | .eql => some (.bool b)
        | .neq => some (.bool !b)
        | _ => none
      | _, _ => none
    | _ => none
  | _, _, _ => none
theorem yld_binS {o : Oper} {op : BinOp} {t t2 : TypeId} {x y : Operand} (ho : o.op = .binOp op t x y t2) (htb : TbOk P tb) {z : Value} (hz : aBinS tb op t (ev x) (ev y) = some z) (he : EvOk r n ev a) : Yld P r n a o z := by
  unfold aBinS at hz
  split at hz
  · rename_i xs ys ti hx hy hti
    obtain ⟨_, hx⟩ := he x _ hx
    obtain ⟨_, hy⟩ := he y _ hy
    obtain ⟨xs', hgx, hx⟩ := vr_agg hx
    obtain ⟨ys', hgy, hy⟩ := vr_agg hy
    split at hz
    · rename_i fs hd
      split at hz
      · rename_i b hep h3
        obtain ⟨h1, h2⟩ := (htb _ _ hti).eqp hep
        have hu := (htb _ _ hti).und
        rw [hd] at hu
        have hf : P.fieldsOf t = fs := by unfold Program.fieldsOf; rw [hu]
        have hu2 : P.underlying t = some (.struct (P.fieldsOf t)) := by rw [hf]; exact hu
        have hq : ∀ w, (Op.equalIn 10000 t (.agg xs'.toArray) (.agg ys'.toArray)).run P w = .ok b w := fun w => by
          rw [run_equalIn_struct w 9999 t _ _ hu2 h1, hf]
          exact eqFs_run htb hx hy 9998 w fs.toList b h3
        have hg := fun w => run_eqGuard_agg (P := P) w op t x y xs'.toArray ys'.toArray h2
        split at hz
        · injection hz with hz; subst hz
          exact ⟨.bool _, _, .bool _, fun w => by simp [execOp, ho, hgx, hgy, Sem.run_bind, hg w, run_eql_struct, hq w]⟩
        · injection hz with hz; subst hz
          exact ⟨.bool _, _, .bool _, fun w => by simp [execOp, ho, hgx, hgy, Sem.run_bind, hg w, run_neq_struct, hq w]⟩
        · cases hz
      · cases hz
    · cases hz
  · cases hz


def aBin2 (tb : Nat → Option TI) (op : BinOp) (t : TypeId) (u v : Value) : Option Value := match u with
  | .agg xs => aBinS tb op t (some (.agg xs)) (some v)
  | u => aBin tb op t u v
theorem yld_bin2 {o : Oper} {op : BinOp} {t t2 : TypeId} {x y : Operand} (ho : o.op = .binOp op t x y t2) (htb : TbOk P tb) {u v z : Value} (hx : ev x = some u) (hy : ev y = some v) (hz : aBin2 tb op t u v = some z) (he : EvOk r n ev a) : Yld P r n a o z := by
  unfold aBin2 at hz
  split at hz
  · rw [← hx, ← hy] at hz
    exact yld_binS ho htb hz he
  · exact yld_bin ho htb hx hy hz he
end
end Go.Proofs.YtledghdlcdgepaaGreatDoor
