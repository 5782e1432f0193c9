/- A verified abstract interpreter, part 4: index, build, closures, addresses, slices of strings, len. -/
import Derived.Test.YtledghdlcdgepaaGreatDoorE3
noncomputable section
namespace Go.Proofs.YtledghdlcdgepaaGreatDoor
set_option linter.unusedVariables false
set_option linter.unusedSimpArgs false
open Go.RowKit

section
variable {P : Program} {tb : Nat → Option TI} {r : Ren} {n : Nat} {a : Act} {ev : Operand → Option Value}

def aIndex (tb : Nat → Option TI) (ev : Operand → Option Value) (t : TypeId) (x y : Operand) : Option Value := match ev x, ev y with
  | some (.string s), some (.int _ (.ofNat m)) => match tb t with
    | some i => match i.desc with
      | .string => match s[m]? with
        | some b => some (.int .u8 b.toNat)
        | none => none
      | _ => none
    | none => none
  | _, _ => none
theorem yld_index {o : Oper} {t : TypeId} {x y : Operand} (ho : o.op = .index t x y) (htb : TbOk P tb) {v : Value} (hv : aIndex tb ev t x y = some v) (he : EvOk r n ev a) : Yld P r n a o v := by
  unfold aIndex at hv
  split at hv
  · rename_i s k m hx hy
    obtain ⟨_, hx⟩ := he x _ hx
    obtain ⟨_, hy⟩ := he y _ hy
    have hx := vr_string hx
    have hy := vr_int hy
    split at hv
    · rename_i i hi
      split at hv
      · rename_i hd
        split at hv
        · rename_i b hb
          injection hv with hv; subst hv
          refine ⟨.int _ _, _, .int _ _, fun w => ?_⟩
          have hu := (htb _ _ hi).under w
          rw [hd] at hu
          have h0 : (0 : Int) ≤ Int.ofNat m := Int.natCast_nonneg m
          have ht : (Int.ofNat m).toNat = m := rfl
          simp only [execOp, ho, hx, hy, Instr.index, asIntOf, Sem.run_bind, Sem.run_pure, hu, Result.andThen_ok, ht, h0, if_true, hb]
        · cases hv
      · cases hv
    · cases hv
  · cases hv

def aEvs (ev : Operand → Option Value) : List Operand → Option (List Value)
  | [] => some []
  | x :: xs => match ev x with
    | some v => match aEvs ev xs with
      | some vs => some (v :: vs)
      | none => none
    | none => none
theorem evs_ok (he : EvOk r n ev a) : ∀ (xs : List Operand) (vs : List Value), aEvs ev xs = some vs → VRs r vs (xs.map a.eval) ∧ ∀ x ∈ vs, Bel n x
  | [], vs, h => by simp [aEvs] at h; subst h; exact ⟨VRs.nil, by simp⟩
  | x :: xs, vs, h => by
    unfold aEvs at h
    split at h
    · rename_i v hx
      split at h
      · rename_i us hus
        injection h with h; subst h
        obtain ⟨h1, h2⟩ := evs_ok he xs us hus
        obtain ⟨h3, h4⟩ := he x v hx
        exact ⟨VRs.cons h4 h1, by simpa using ⟨h3, h2⟩⟩
      · cases h
    · cases h

def aMakeFunc (ev : Operand → Option Value) (fn : Fn) (first captured : Array Operand) : Option Value := match fn, first.toList with
  | .func f, [] => match aEvs ev captured.toList with
    | some vs => some (.func (.func f) #[] vs.toArray)
    | none => none
  | _, _ => none
theorem yld_makeFunc {o : Oper} {fn : Fn} {first captured : Array Operand} (ho : o.op = .makeFunc fn first captured) {v : Value} (hv : aMakeFunc ev fn first captured = some v) (he : EvOk r n ev a) : Yld P r n a o v := by
  unfold aMakeFunc at hv
  split at hv
  · rename_i f hf
    have hf' : first = #[] := by cases first; simp_all
    subst hf'
    split at hv
    · rename_i vs hvs
      injection hv with hv; subst hv
      obtain ⟨h1, h2⟩ := evs_ok he _ _ hvs
      refine ⟨.func f vs fun k x hx => h2 x (List.mem_of_getElem? hx), _, .func f vs _ h1.1 h1.2, fun w => ?_⟩
      simp [execOp, ho, Instr.makeFunc]
      apply Array.ext'
      simp
    · cases hv
  · cases hv

def aFieldAddr (tb : Nat → Option TI) (ev : Operand → Option Value) (t : TypeId) (x : Operand) (f : Nat) : Option Value := match ev x with
  | some (.pointer (some ⟨i, o, none⟩)) => match tb t with
    | some ti => match ti.desc with
      | .struct _ => match ti.fo[f]? with
        | some (off, sz + 1, _) => some (.pointer (some ⟨i, o + off, none⟩))
        | _ => none
      | _ => none
    | none => none
  | _ => none
theorem yld_fieldAddr {o : Oper} {t : TypeId} {x : Operand} {f : Nat} (ho : o.op = .fieldAddr t x f) (htb : TbOk P tb) {v : Value} (hv : aFieldAddr tb ev t x f = some v) (he : EvOk r n ev a) : Yld P r n a o v := by
  unfold aFieldAddr at hv
  split at hv
  · rename_i i oo hx
    obtain ⟨hb, hx⟩ := he x _ hx
    split at hv
    · rename_i ti hi
      split at hv
      · rename_i fs hd
        split at hv
        · rename_i off sz row hfo
          injection hv with hv; subst hv
          have hti := htb _ _ hi
          have hlen : f < fs.size := by rw [← hti.fol fs hd]; exact (List.getElem?_eq_some_iff.1 hfo).1
          obtain ⟨inf, d, h1, h2, h3⟩ := hti.fo fs hd f fs[f] (Array.getElem?_eq_getElem hlen)
          rw [hfo] at h3
          injection h3 with h3
          injection h3 with ha hbc
          injection hbc with hb2 hc2
          have hlt : i < n := by cases hb with | ptr _ _ h => exact h
          generalize hg : a.eval x = xv at hx
          cases hx
          refine ⟨.ptr _ _ hlt, _, .ptr i (oo + off), fun w => ?_⟩
          have hu := hti.under w
          rw [hd] at hu
          have hne : ¬ inf.size = 0 := by omega
          have hs : ∀ w, (Go.sizeOf fs[f].type).run P w = .ok inf.size w := fun w => by simp [Go.sizeOf, typeInfo, Sem.run_bind, h1]
          simp [execOp, ho, hg, Instr.fieldAt, Sem.run_bind, hu, Array.getElem?_eq_getElem hlen, Instr.sureAddr, fieldPlace, hs w, hne, Addr.add_mid, ha]
        · cases hv
      · cases hv
    · cases hv
  · cases hv

def aIndexAddr (tb : Nat → Option TI) (ev : Operand → Option Value) (t : TypeId) (x y : Operand) : Option Value := match ev x, ev y with
  | some (.slice (some ⟨i, o, none⟩) len _), some (.int _ (.ofNat m)) => match tb t with
    | some ti => match ti.desc with
      | .slice e => match tb e with
        | some ei => match Nat.blt m len with
          | true => some (.pointer (some ⟨i, o + m * ei.sz, none⟩))
          | false => none
        | none => none
      | _ => none
    | none => none
  | some (.pointer (some ⟨i, o, none⟩)), some (.int _ (.ofNat m)) => match tb t with
    | some ti => match ti.desc with
      | .array len e => match tb e with
        | some ei => match Nat.blt m len with
          | true => some (.pointer (some ⟨i, o + m * ei.sz, none⟩))
          | false => none
        | none => none
      | _ => none
    | none => none
  | _, _ => none
theorem yld_indexAddr {o : Oper} {t : TypeId} {x y : Operand} (ho : o.op = .indexAddr t x y) (htb : TbOk P tb) {v : Value} (hv : aIndexAddr tb ev t x y = some v) (he : EvOk r n ev a) : Yld P r n a o v := by
  unfold aIndexAddr at hv
  split at hv
  · rename_i i oo len cp k m hx hy
    obtain ⟨hb, hx⟩ := he x _ hx
    obtain ⟨_, hy⟩ := he y _ hy
    have hy := vr_int hy
    split at hv
    · rename_i ti hi
      split at hv
      · rename_i e hd
        split at hv
        · rename_i ei hei
          split at hv
          · rename_i hlt
            injection hv with hv; subst hv
            have hlt : m < len := by simpa using hlt
            have hlti : i < n := by cases hb with | slice _ _ _ _ h => exact h
            generalize hg : a.eval x = xv at hx
            have hsl : ∃ c', xv = .slice (some ⟨r.φ i, oo, none⟩) len c' := by cases hx <;> exact ⟨_, rfl⟩
            obtain ⟨c', rfl⟩ := hsl
            refine ⟨.ptr _ _ hlti, _, .ptr i _, fun w => ?_⟩
            have hu := (htb _ _ hi).under w
            rw [hd] at hu
            have hs := (htb _ _ hei).sizeOf w
            have h0 : (0 : Int) ≤ Int.ofNat m := Int.natCast_nonneg m
            have h1 : (Int.ofNat m) < (len : Int) := by simpa using hlt
            have ht : (Int.ofNat m).toNat = m := rfl
            simp only [execOp, ho, hg, hy, Instr.indexAt, asIntOf, Sem.run_bind, Sem.run_pure, hu, Result.andThen_ok, h0, h1, and_self, if_true, hs, ht, Addr.add_mid]
          · cases hv
        · cases hv
      · cases hv
    · cases hv
  · rename_i i oo k m hx hy
    obtain ⟨hb, hx⟩ := he x _ hx
    obtain ⟨_, hy⟩ := he y _ hy
    have hy := vr_int hy
    split at hv
    · rename_i ti hi
      split at hv
      · rename_i len e hd
        split at hv
        · rename_i ei hei
          split at hv
          · rename_i hlt
            injection hv with hv; subst hv
            have hlt : m < len := by simpa using hlt
            have hlti : i < n := by cases hb with | ptr _ _ h => exact h
            generalize hg : a.eval x = xv at hx
            cases hx
            refine ⟨.ptr _ _ hlti, _, .ptr i _, fun w => ?_⟩
            have hu := (htb _ _ hi).under w
            rw [hd] at hu
            have hs := (htb _ _ hei).sizeOf w
            have h0 : (0 : Int) ≤ Int.ofNat m := Int.natCast_nonneg m
            have h1 : (Int.ofNat m) < (len : Int) := by simpa using hlt
            have ht : (Int.ofNat m).toNat = m := rfl
            simp only [execOp, ho, hg, hy, Instr.indexAt, asIntOf, Sem.run_bind, Sem.run_pure, hu, Result.andThen_ok, Instr.sureAddr, h0, h1, and_self, if_true, hs, ht, Addr.add_mid]
          · cases hv
        · cases hv
      · cases hv
    · cases hv
  · cases hv

def aLen (tb : Nat → Option TI) (ev : Operand → Option Value) (t : TypeId) (x : Operand) : Option Value := match ev x with
  | some (.string s) => match tb t with
    | some i => match i.desc with
      | .string => some (.int .i64 s.size)
      | _ => none
    | none => none
  | some (.slice b len c) => match tb t with
    | some i => match i.desc with
      | .slice _ => some (.int .i64 len)
      | _ => none
    | none => none
  | some (.map none) => match tb t with
    | some i => match i.desc with
      | .map _ _ => some (.int .i64 0)
      | _ => none
    | none => none
  | _ => none
theorem yld_len {o : Oper} {c : Call} {t : TypeId} {x : Operand} (ho : o.op = .call c) (hc : c.callee = .builtin .len) (hargs : c.args = #[x]) (hts : c.argTypes = #[t]) (htb : TbOk P tb) {v : Value} (hv : aLen tb ev t x = some v) (he : EvOk r n ev a) : Yld P r n a o v := by
  unfold aLen at hv
  split at hv
  · rename_i s hx
    obtain ⟨_, hx⟩ := he x _ hx
    have hx := vr_string hx
    split at hv
    · rename_i i hi
      split at hv
      · rename_i hd
        injection hv with hv; subst hv
        refine ⟨.int _ _, _, .int _ _, fun w => ?_⟩
        have hu := (htb _ _ hi).under w
        rw [hd] at hu
        simp [execOp, ho, resolve, hc, hargs, hts, hx, invoke, builtin, Builtin.len_, Sem.run_bind, hu, goInt]
      · cases hv
    · cases hv
  · rename_i b len cp hx
    obtain ⟨_, hx⟩ := he x _ hx
    generalize hg : a.eval x = xv at hx
    have hsl : ∃ b' c', xv = .slice b' len c' := by cases hx <;> exact ⟨_, _, rfl⟩
    obtain ⟨b', c', rfl⟩ := hsl
    split at hv
    · rename_i i hi
      split at hv
      · rename_i e hd
        injection hv with hv; subst hv
        refine ⟨.int _ _, _, .int _ _, fun w => ?_⟩
        have hu := (htb _ _ hi).under w
        rw [hd] at hu
        simp [execOp, ho, resolve, hc, hargs, hts, hg, invoke, builtin, Builtin.len_, Sem.run_bind, hu, goInt]
      · cases hv
    · cases hv
  · rename_i hx
    obtain ⟨_, hx⟩ := he x _ hx
    generalize hg : a.eval x = xv at hx
    cases hx
    split at hv
    · rename_i i hi
      split at hv
      · rename_i e1 e2 hd
        injection hv with hv; subst hv
        refine ⟨.int _ _, _, .int _ _, fun w => ?_⟩
        have hu := (htb _ _ hi).under w
        rw [hd] at hu
        simp [execOp, ho, resolve, hc, hargs, hts, hg, invoke, builtin, Builtin.len_, Sem.run_bind, hu, goInt]
      · cases hv
    · cases hv
  · cases hv
end
end Go.Proofs.YtledghdlcdgepaaGreatDoor
