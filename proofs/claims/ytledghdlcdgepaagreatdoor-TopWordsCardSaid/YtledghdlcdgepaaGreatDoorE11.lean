/- A verified abstract interpreter, part 11: append, as the interpreter does it. -/
import Derived.Test.YtledghdlcdgepaaGreatDoorE10
noncomputable section
namespace Go.Proofs.YtledghdlcdgepaaGreatDoor
set_option linter.unusedVariables false
set_option linter.unusedSimpArgs false
open Go.RowKit

section
variable {P : Program} {tb : Nat → Option TI} {r : Ren} {n : Nat} {N : Nat → Prop} {a : Act} {ev : Operand → Option Value} {h h' : AH} {w : World}

/-- The world behind a draw. -/
def World.dr (w : World) : World := { w with drawn := w.drawn + 1 }

/-- The elements to append. -/
def aNews (h : AH) (sz : Nat) (x : Value) : Option (Nat × List Value) := match x with
  | .slice none 0 _ => some (0, [])
  | .slice (some ⟨j, o, none⟩) m _ => match h.get j with
    | some (.cells cs _ _ _) => match Nat.ble (o + m * sz) cs.length with
      | true => some (m, (cs.drop o).take (m * sz))
      | false => none
    | _ => none
  | _ => none

theorem first_cells {i o sz m : Nat} {cs : List Value} {e : TypeId} {x : List Nat} {t : Bool} {c : Nat} (hS : Sim P N r h w) (hi : h.get i = some (.cells cs e x t)) (hle : o + m * sz ≤ cs.length) :
    ∃ arr' : List Value, VRs r ((cs.drop o).take (m * sz)) arr' ∧ arr'.length = m * sz ∧ (∀ w', w'.heap = w.heap → (Builtin.firstCells sz m (.slice (some ⟨r.φ i, o, none⟩) m c)).run P w' = .ok arr'.toArray w') ∧ ∀ v ∈ (cs.drop o).take (m * sz), Bel h.n v := by
  obtain ⟨arr, inf, ⟨fz, q1, q1f⟩, q2, q3, q4, q5⟩ := hS.blk i _ hi
  have hlen : ((arr.toList.drop o).take (m * sz)).length = m * sz := by simp; omega
  refine ⟨(arr.toList.drop o).take (m * sz), ⟨by rw [hlen]; simp; omega, fun k u y hu hy => ?_⟩, hlen, fun w' hw => ?_, fun v hv => hS.bel i _ hi v (List.mem_of_mem_drop (List.mem_of_mem_take hv))⟩
  · rw [List.getElem?_take] at hu hy
    split at hu
    · rename_i hk
      rw [if_pos hk] at hy
      exact q5 (o + k) u y (by simpa using hu) (by simpa using hy)
    · cases hu
  · have := run_loadCells_list (P := P) w' ⟨r.φ i, o, none⟩ ((arr.toList.drop o).take (m * sz)) (fun j y hy => by
      rw [Addr.add_mid]
      rw [List.getElem?_take] at hy
      split at hy
      · simp only [List.getElem?_drop] at hy
        simp only [World.cell?, hw, q1]
        simpa using hy
      · cases hy)
    rw [hlen] at this
    simpa [Builtin.firstCells] using this

theorem news_ok {sz m : Nat} {x x' : Value} {new : List Value} (hS : Sim P N r h w) (hx : VR r x x') (hv : aNews h sz x = some (m, new)) :
    (∀ w', (Builtin.lenOf x').run P w' = .ok m w') ∧ ∃ new' : List Value, VRs r new new' ∧ new'.length = m * sz ∧ (∀ w', w'.heap = w.heap → (Builtin.firstCells sz m x').run P w' = .ok new'.toArray w') ∧ ∀ v ∈ new, Bel h.n v := by
  unfold aNews at hv
  split at hv
  · injection hv with hv
    injection hv with h1 h2
    subst h1 h2
    cases hx
    exact ⟨fun w' => rfl, [], VRs.nil, by simp, fun w' _ => rfl, by simp⟩
  · rename_i j o m2 c2
    split at hv
    · rename_i cs e xx tt hi
      split at hv
      · rename_i hle
        injection hv with hv
        injection hv with h1 h2
        subst h1 h2
        have hle : o + m2 * sz ≤ cs.length := by simpa using hle
        have hsl : ∃ c', x' = .slice (some ⟨r.φ j, o, none⟩) m2 c' := by cases hx <;> exact ⟨_, rfl⟩
        obtain ⟨c', rfl⟩ := hsl
        obtain ⟨arr', q1, q2, q3, q4⟩ := first_cells (c := c') hS hi hle
        exact ⟨fun w' => rfl, arr', q1, q2, q3, q4⟩
      · cases hv
    · cases hv
  · cases hv

theorem run_append_new {ts tx e ty : TypeId} {ei : TI} {dx : TypeDesc} (hei : TIok P e ei) (hu : P.underlying ts = some (.slice e)) (htx : P.underlying tx = some dx) (hnx : ∀ k, dx ≠ .int k)
    {base : Option Addr} {sLen sCap m : Nat} {x' : Value} {old new : List Value} (hlen : ∀ w', (Builtin.lenOf x').run P w' = .ok m w') (hold : ∀ w', w'.heap = w.heap → (Builtin.firstCells ei.sz sLen (.slice base sLen sCap)).run P w' = .ok old.toArray w')
    (hnew : ∀ w', w'.heap = w.heap → (Builtin.firstCells ei.sz m x').run P w' = .ok new.toArray w') (hgt : sCap < sLen + m) (hneed : sLen + m < 1000000) (hby : ei.bytes ≤ 1000) :
    ∃ c, sLen + m ≤ c ∧ (Builtin.append_ #[ts, tx] ty #[.slice base sLen sCap, x']).run P w =
      .ok (.slice (some ⟨w.heap.size, 0, none⟩) (sLen + m) c) ((World.dr w).alloc (.cells (old.toArray ++ new.toArray ++ Builtin.zeroCells ei.zero.toArray (c - (sLen + m))) e)) := by
  obtain ⟨inf, z1, z2, z3, z, z4, z5, z6, z7⟩ := hei.info
  have hsz : ∀ w', (Go.sizeOf e).run P w' = .ok ei.sz w' := fun w' => hei.sizeOf w'
  have hti : ∀ w', (typeInfo e).run P w' = .ok inf w' := fun w' => by simp [typeInfo, Sem.run_bind, z1]
  have hzv : ∀ w', (zeroValue e).run P w' = .ok z w' := fun w' => by simp [zeroValue, typeInfo, Sem.run_bind, z1, z4]
  have hz : (match dx with | .int _ => true | _ => false) = false := by cases dx <;> first | rfl | exact absurd rfl (hnx _)
  have hcap := nextcap_le (sLen + m) sCap hgt
  have hb1 : Builtin.nextslicecap (sLen + m) sCap * inf.bytes ≤ 2 ^ 48 := by
    rw [z3]
    have h1 := Nat.mul_le_mul hcap hby
    have h2 : (4 * (sLen + m) + 1000) * 1000 ≤ 281474976710656 := by omega
    exact Nat.le_trans h1 h2
  have hb1' : ¬ Builtin.nextslicecap (sLen + m) sCap * inf.bytes > 2 ^ 48 := by omega
  have hmax : ¬ ((sLen + m : Nat) : Int) > IntKind.i64.max := by
    have : IntKind.i64.max = 9223372036854775807 := by decide
    rw [this]; omega
  have hno : ¬ sLen + m ≤ sCap := by omega
  obtain ⟨c, hc⟩ : ∃ c, c = sLen + m + w.tape w.drawn (.appendCap (sLen + m) sCap e) % (2 ^ 63 - (sLen + m)) := ⟨_, rfl⟩
  refine ⟨c, by omega, ?_⟩
  have hch : (choose (.appendCap (sLen + m) sCap e)).run P w = .ok c (World.dr w) := by
    rw [run_choose]
    simp only [Question.forced, Bool.false_eq_true, if_false, Question.cut]
    rw [← hc]
    rfl
  have ho := hold (World.dr w) rfl
  have hn := hnew (World.dr w) rfl
  have hux := run_underlying (P := P) htx
  have hmax2 : ¬ ((((sLen + m : Nat) : Int) > IntKind.i64.max) ∧ (false = true ∨ inf.bytes = 0)) := fun hh => hmax hh.1
  unfold Builtin.append_
  simp only [List.getElem?_toArray, List.getElem?_cons_zero, List.getElem?_cons_succ, Sem.run_bind, run_underlying hu, Result.andThen_ok, hsz, hux, Sem.run_pure, hlen, hno, if_false, hti, hz, Bool.false_eq_true, Bool.not_false, if_true]
  simp only [hti, hmax, false_and, if_false, hb1', Sem.run_ite, Sem.run_bind, Sem.run_pure, Result.andThen_ok, hch, run_askRoom, ho, hn, hzv, newRow, run_newObj, z5]
  rfl
end
end Go.Proofs.YtledghdlcdgepaaGreatDoor
