/- A verified abstract interpreter, part 3: more operations that look at no memory. -/
import Derived.Test.YtledghdlcdgepaaGreatDoorE2
import Derived.Deep.MidRow
noncomputable section
namespace Go.Proofs.YtledghdlcdgepaaGreatDoor
set_option linter.unusedVariables false
set_option linter.unusedSimpArgs false
open Go.RowKit

section
variable {P : Program} {tb : Nat → Option TI} {r : Ren} {n : Nat} {a : Act} {ev : Operand → Option Value}

theorem vr_bool {b : Bool} {v' : Value} (h : VR r (.bool b) v') : v' = .bool b := by cases h; rfl
theorem vr_int {k : IntKind} {m : Int} {v' : Value} (h : VR r (.int k m) v') : v' = .int k m := by cases h; rfl
theorem vr_string {s : ByteArray} {v' : Value} (h : VR r (.string s) v') : v' = .string s := by cases h; rfl
theorem vr_agg {cs : Array Value} {v' : Value} (h : VR r (.agg cs) v') : ∃ cs' : List Value, v' = .agg cs'.toArray ∧ VRs r cs.toList cs' := by
  cases h with
  | agg l l' hl hh => exact ⟨l', rfl, by simpa using hl, by simpa using hh⟩
theorem vr_tuple {cs : Array Value} {v' : Value} (h : VR r (.tuple cs) v') : ∃ cs' : List Value, v' = .tuple cs'.toArray ∧ VRs r cs.toList cs' := by
  cases h with
  | tuple l l' hl hh => exact ⟨l', rfl, by simpa using hl, by simpa using hh⟩
theorem bel_agg {cs : Array Value} (h : Bel n (.agg cs)) : ∀ (k : Nat) (x : Value), cs.toList[k]? = some x → Bel n x := by
  cases h with
  | agg l hh => simpa using hh
theorem bel_tuple {cs : Array Value} (h : Bel n (.tuple cs)) : ∀ (k : Nat) (x : Value), cs.toList[k]? = some x → Bel n x := by
  cases h with
  | tuple l hh => simpa using hh
theorem mk_agg {cs cs' : List Value} (h : VRs r cs cs') : VR r (.agg cs.toArray) (.agg cs'.toArray) := .agg cs cs' h.1 h.2
theorem mk_tuple {cs cs' : List Value} (h : VRs r cs cs') : VR r (.tuple cs.toArray) (.tuple cs'.toArray) := .tuple cs cs' h.1 h.2
theorem VRs.at_ {cs cs' : List Value} (h : VRs r cs cs') {k : Nat} {x : Value} (hx : cs[k]? = some x) : ∃ y, cs'[k]? = some y ∧ VR r x y := by
  obtain ⟨hk, _⟩ := List.getElem?_eq_some_iff.1 hx
  have hk' : k < cs'.length := by rw [← h.1]; exact hk
  exact ⟨_, List.getElem?_eq_getElem hk', h.2 k x _ hx (List.getElem?_eq_getElem hk')⟩
theorem VRs.drop {cs cs' : List Value} (h : VRs r cs cs') (k : Nat) : VRs r (cs.drop k) (cs'.drop k) :=
  ⟨by simp [h.1], fun j x y hx hy => h.2 (k + j) x y (by simpa using hx) (by simpa using hy)⟩
theorem VRs.take {cs cs' : List Value} (h : VRs r cs cs') (k : Nat) : VRs r (cs.take k) (cs'.take k) :=
  ⟨by simp [h.1], fun j x y hx hy => by
    rw [List.getElem?_take] at hx hy
    split at hx
    · rename_i hj; rw [if_pos hj] at hy; exact h.2 j x y hx hy
    · cases hx⟩
theorem VRs.append {p q p2 q2 : List Value} (h : VRs r p p2) (k : VRs r q q2) : VRs r (p ++ q) (p2 ++ q2) := by
  refine ⟨by simp [h.1, k.1], fun j x y hx hy => ?_⟩
  rw [List.getElem?_append] at hx hy
  rw [h.1] at hx
  split at hx
  · rename_i hj; rw [if_pos hj] at hy; exact h.2 j x y hx hy
  · rename_i hj; rw [if_neg hj] at hy; exact k.2 _ x y hx hy
theorem VRs.nil : VRs r [] [] := ⟨rfl, fun k x y hx => by simp at hx⟩
theorem VRs.cons {x y : Value} {xs ys : List Value} (h : VR r x y) (k : VRs r xs ys) : VRs r (x :: xs) (y :: ys) := by
  refine ⟨by simp [k.1], fun j u v hu hv => ?_⟩
  cases j with
  | zero => simp at hu hv; subst hu hv; exact h
  | succ j => exact k.2 j u v (by simpa using hu) (by simpa using hv)

def aNot (ev : Operand → Option Value) (x : Operand) : Option Value := match ev x with
  | some (.bool b) => some (.bool !b)
  | _ => none
theorem yld_not {o : Oper} {t : TypeId} {x : Operand} (ho : o.op = .unOp .not t x) {v : Value} (hv : aNot ev x = some v) (he : EvOk r n ev a) : Yld P r n a o v := by
  unfold aNot at hv
  split at hv
  · rename_i b hc
    injection hv with hv; subst hv
    obtain ⟨_, hx⟩ := he x _ hc
    have hx := vr_bool hx
    exact ⟨.bool _, _, .bool _, fun w => by simp [execOp, ho, hx, Op.unary]⟩
  · cases hv

def aConv (tb : Nat → Option TI) (ev : Operand → Option Value) (src dst : TypeId) (x : Operand) : Option Value := match ev x with
  | some (.int k m) => match tb src, tb dst with
    | some i, some j => match j.desc with
      | .int d => some (.int d (d.wrap m))
      | _ => none
    | _, _ => none
  | some (.string s) => match tb src, tb dst with
    | some i, some j => match j.desc with
      | .string => some (.string s)
      | _ => none
    | _, _ => none
  | _ => none
theorem yld_conv {o : Oper} {src dst : TypeId} {x : Operand} (ho : o.op = .convert src dst x) (htb : TbOk P tb) {v : Value} (hv : aConv tb ev src dst x = some v) (he : EvOk r n ev a) : Yld P r n a o v := by
  unfold aConv at hv
  split at hv
  · rename_i k m hc
    obtain ⟨_, hx⟩ := he x _ hc
    have hx := vr_int hx
    split at hv
    · rename_i i j hi hj
      split at hv
      · rename_i d hd
        injection hv with hv; subst hv
        refine ⟨.int _ _, _, .int _ _, fun w => ?_⟩
        have h1 := (htb _ _ hi).under w
        have h2 := (htb _ _ hj).under w
        rw [hd] at h2
        simp only [execOp, ho, hx, convert, Sem.run_bind, h1, h2, Result.andThen_ok, Conv.intToInt, Sem.run_pure]
      · cases hv
    · cases hv
  · rename_i s hc
    obtain ⟨_, hx⟩ := he x _ hc
    have hx := vr_string hx
    split at hv
    · rename_i i j hi hj
      split at hv
      · rename_i hd
        injection hv with hv; subst hv
        refine ⟨.string _, _, .string _, fun w => ?_⟩
        have h1 := (htb _ _ hi).under w
        have h2 := (htb _ _ hj).under w
        rw [hd] at h2
        simp only [execOp, ho, hx, convert, Sem.run_bind, h1, h2, Result.andThen_ok, Sem.run_pure]
      · cases hv
    · cases hv
  · cases hv

def aExtract (ev : Operand → Option Value) (x : Operand) (ix : Nat) : Option Value := match ev x with
  | some (.tuple vs) => vs.toList[ix]?
  | _ => none
theorem yld_extract {o : Oper} {x : Operand} {ix : Nat} (ho : o.op = .extract x ix) {v : Value} (hv : aExtract ev x ix = some v) (he : EvOk r n ev a) : Yld P r n a o v := by
  unfold aExtract at hv
  split at hv
  · rename_i vs hc
    obtain ⟨hb, hx⟩ := he x _ hc
    obtain ⟨cs', hx, hr⟩ := vr_tuple hx
    obtain ⟨y, hy, hvr⟩ := hr.at_ hv
    exact ⟨bel_tuple hb _ _ hv, y, hvr, fun w => by simp [execOp, ho, hx, Instr.extract, hy]⟩
  · cases hv

def aPart (cs : List Value) (off sz : Nat) (row : Bool) : Option Value := match row with
  | true => some (.agg ((cs.drop off).take sz).toArray)
  | false => cs[off]?
def aField (tb : Nat → Option TI) (ev : Operand → Option Value) (t : TypeId) (x : Operand) (f : Nat) : Option Value := match ev x with
  | some (.agg cs) => match tb t with
    | some i => match i.desc with
      | .struct _ => match i.fo[f]? with
        | some (off, sz, row) => aPart cs.toList off sz row
        | none => none
      | _ => none
    | none => none
  | _ => none

theorem part_run {t : TypeId} {inf : TypeInfo} {d : TypeDesc} (hi : P.info? t = some inf) (hu : P.underlying t = some d) {cs cs' : List Value} (hr : VRs r cs cs') (hb : ∀ (k : Nat) (x : Value), cs[k]? = some x → Bel n x) {off : Nat} {v : Value} (hv : aPart cs off inf.size d.isRow = some v) :
    Bel n v ∧ ∃ v', VR r v v' ∧ ∀ w, (part t cs'.toArray off).run P w = .ok v' w := by
  have hs : ∀ w, (Go.sizeOf t).run P w = .ok inf.size w := fun w => by simp [Go.sizeOf, typeInfo, Sem.run_bind, hi]
  have hag : ∀ w, (isAgg t).run P w = .ok d.isRow w := fun w => by
    unfold isAgg
    rw [Sem.run_bind, run_underlying hu w]
    cases d <;> rfl
  unfold aPart at hv
  split at hv
  · rename_i hrow
    injection hv with hv; subst hv
    refine ⟨.agg _ fun k x hx => ?_, _, mk_agg ((hr.drop off).take inf.size), fun w => ?_⟩
    · rw [List.getElem?_take] at hx
      split at hx
      · exact hb (off + k) x (by simpa using hx)
      · cases hx
    · have : cs'.toArray.extract off (off + inf.size) = ((cs'.drop off).take inf.size).toArray := by
        simp [List.extract_toArray, List.extract_eq_take_drop]
      simp [part, Sem.run_bind, hag w, hrow, hs w, this]
  · rename_i hrow
    obtain ⟨y, hy, hvr⟩ := hr.at_ hv
    exact ⟨hb _ _ hv, y, hvr, fun w => by simp [part, Sem.run_bind, hag w, hrow, hy]⟩

theorem asAgg_run {cs : Array Value} (w : World) : (asAgg (.agg cs)).run P w = .ok cs w := rfl

theorem yld_field {o : Oper} {t : TypeId} {x : Operand} {f : Nat} (ho : o.op = .field t x f) (htb : TbOk P tb) {v : Value} (hv : aField tb ev t x f = some v) (he : EvOk r n ev a) : Yld P r n a o v := by
  unfold aField at hv
  split at hv
  · rename_i cs hc
    obtain ⟨hb, hx⟩ := he x _ hc
    obtain ⟨cs', hx, hr⟩ := vr_agg hx
    split at hv
    · rename_i i hi
      split at hv
      · rename_i fs hd
        split at hv
        · rename_i off sz row hfo
          have hti := htb _ _ hi
          have hlen : f < fs.size := by rw [← hti.fol fs hd]; exact (List.getElem?_eq_some_iff.1 hfo).1
          obtain ⟨inf, d, h1, h2, h3⟩ := hti.fo fs hd f fs[f] (Array.getElem?_eq_getElem hlen)
          rw [hfo] at h3
          injection h3 with h3
          injection h3 with ha hbc
          injection hbc with hb2 hc2
          subst ha hb2 hc2
          obtain ⟨q1, v', q2, q3⟩ := part_run h1 h2 hr (bel_agg hb) hv
          refine ⟨q1, v', q2, fun w => ?_⟩
          have hu := hti.under w
          rw [hd] at hu
          simp [execOp, ho, hx, Instr.field, Sem.run_bind, hu, Array.getElem?_eq_getElem hlen, asAgg_run, q3 w]
        · cases hv
      · cases hv
    · cases hv
  · cases hv
end
end Go.Proofs.YtledghdlcdgepaaGreatDoor
