/- A verified abstract interpreter, part 13b: operations that are met in plain regions alone: slices of slices, new slices, bytes of strings and back, copies, and others. -/
import Derived.Test.YtledghdlcdgepaaGreatDoorE13
import Derived.Laws.IdiomStrings
noncomputable section
namespace Go.Proofs.YtledghdlcdgepaaGreatDoor
set_option linter.unusedVariables false
set_option linter.unusedSimpArgs false
open Go.RowKit

section
variable {P : Program} {tb : Nat → Option TI} {r : Ren} {n : Nat} {N : Nat → Prop} {a : Act} {ev : Operand → Option Value} {h h' : AH} {w : World}

/-- Slices of slices. -/
def aSliceL (tb : Nat → Option TI) (ev : Operand → Option Value) (h : AH) (t : TypeId) (x : Operand) (lo hi mx : Option Operand) : Option Value := match ev x with
  | some (.slice (some ⟨i, o, none⟩) len cap) => match tb t with
    | some ti => match ti.desc with
      | .slice e => match tb e with
        | some ei => match aBnd ev len hi, aBnd ev 0 lo with
          | some hh, some l => match Nat.beq cap unk, mx with
            | true, some m => match aBnd ev 0 (some m), h.get i, hi.isSome with
              | some m, some (.cells cs e' _ _), true => match Nat.beq e e', Nat.beq o 0, Nat.blt 0 ei.sz, Nat.ble (m * ei.sz) cs.length, Nat.ble hh m, Nat.beq l 0, Nat.blt m unk with
                | true, true, true, true, true, true, true => some (.slice (some ⟨i, 0, none⟩) hh m)
                | _, _, _, _, _, _, _ => none
              | _, _, _ => none
            | false, none => match Nat.ble hh cap, Nat.ble l hh, Nat.blt cap unk with
              | true, true, true => match Nat.beq cap l with
                | true => some (.slice (some ⟨i, o, none⟩) (hh - l) (cap - l))
                | false => some (.slice (some ⟨i, o + l * ei.sz, none⟩) (hh - l) (cap - l))
              | _, _, _ => none
            | _, _ => none
          | _, _ => none
        | none => none
      | _ => none
    | none => none
  | _ => none
theorem sliceL_ok {o : Oper} {t : TypeId} {x : Operand} {lo hi mx : Option Operand} (ho : o.op = .slice t x lo hi mx) (htb : TbOk P tb) {v : Value} (hv : aSliceL tb ev h t x lo hi mx = some v) (he : EvOk r h.n ev a) (hS : Sim P N r h w) :
    Bel h.n v ∧ ∃ v', VR r v v' ∧ (execOp a.eval o).run P w = .ok (.value v') w := by
  unfold aSliceL at hv
  split at hv
  · rename_i i oo len cap hx
    obtain ⟨hb, hx⟩ := he x _ hx
    have hlt : i < h.n := by cases hb with | slice _ _ _ _ h => exact h
    split at hv
    · rename_i ti hti
      split at hv
      · rename_i e hd
        have hu := (htb _ _ hti).under w
        rw [hd] at hu
        split at hv
        · rename_i ei hei
          have hsz := (htb _ _ hei).sizeOf w
          split at hv
          · rename_i hh l hhi hlo
            split at hv
            · rename_i m c1
              split at hv
              · rename_i m' cs e' pv tp hm hi0 his
                obtain ⟨hio, rfl⟩ := Option.isSome_iff_exists.1 his
                split at hv
                · rename_i d1 d2 d3 d4 d5 d6 d7
                  injection hv with hv; subst hv
                  have c1 : cap = unk := nat_beq_true.1 c1
                  have d1 : e = e' := nat_beq_true.1 d1
                  have d2 : oo = 0 := nat_beq_true.1 d2
                  have d3 : 0 < ei.sz := by simpa using d3
                  have d4 : m' * ei.sz ≤ cs.length := by simpa using d4
                  have d5 : hh ≤ m' := by simpa using d5
                  have d6 : l = 0 := nat_beq_true.1 d6
                  have d7 : m' < unk := by simpa using d7
                  subst c1; subst d1; subst d2; subst d6
                  generalize hg : a.eval x = xv at hx
                  have hxv : xv = .slice (some ⟨r.φ i, 0, none⟩) len (r.κ i) := by
                    cases hx with
                    | slice _ _ _ _ hc => exact absurd rfl hc
                    | sliceU _ _ => rfl
                  subst hxv
                  obtain ⟨arr, inf, _, q2, q3, q4, _⟩ := hS.blk i _ hi0
                  obtain ⟨inf2, z1, z2, _⟩ := (htb _ _ hei).info
                  rw [q2] at z1
                  injection z1 with z1
                  subst z1
                  rw [z2] at q3
                  have hmk : m' ≤ r.κ i := by
                    have : m' * ei.sz ≤ r.κ i * ei.sz := by omega
                    exact Nat.le_of_mul_le_mul_right this d3
                  have b1 := bnd_ok (P := P) (c := .slice3Acap) hm he hmk w
                  have b2 := bnd_ok (P := P) (c := .slice3B) hhi he d5 w
                  have b3 := bnd_ok (P := P) (c := .slice3C) hlo he (Nat.zero_le hh) w
                  simp only [Option.map_some] at b1 b2
                  have hbd : (Instr.sliceBounds true len (r.κ i) (lo.map a.eval) (some (a.eval hio)) (some (a.eval m))).run P w = .ok (0, hh, m') w := by
                    unfold Instr.sliceBounds
                    simp only [Sem.run_bind, Sem.run_pure, Result.andThen_ok, if_true, b1, b2, Option.isSome_some]
                    cases lo with
                    | none => simp
                    | some lo => simp only [Option.map_some] at b3 ⊢; simp [Sem.run_bind, b3]
                  refine ⟨.slice _ _ _ _ hlt, .slice (some ⟨r.φ i, 0, none⟩) hh m', .slice i 0 hh m' (Nat.ne_of_lt d7), ?_⟩
                  simp only [execOp, ho, hg, Sem.run_bind, Instr.sliceAt, hu, Result.andThen_ok, Instr.slice, Option.map_some, hbd, hsz, Sem.run_pure, Nat.zero_mul, Option.map_some, Nat.sub_zero, Addr.add_mid, Nat.add_zero]
                  simp
                · cases hv
              · cases hv
            · rename_i c1
              split at hv
              · rename_i d1 d2 d3
                have c1 : cap ≠ unk := nat_beq_false.1 c1
                have d1 : hh ≤ cap := by simpa using d1
                have d2 : l ≤ hh := by simpa using d2
                have d3 : cap < unk := by simpa using d3
                generalize hg : a.eval x = xv at hx
                have hxv : xv = .slice (some ⟨r.φ i, oo, none⟩) len cap := by
                  cases hx with
                  | slice _ _ _ _ hc => rfl
                  | sliceU _ _ => exact absurd rfl c1
                subst hxv
                have b2 := bnd_ok (P := P) (c := .sliceAcap) hhi he d1 w
                have b3 := bnd_ok (P := P) (c := .sliceB) hlo he d2 w
                have hbd : (Instr.sliceBounds true len cap (lo.map a.eval) (hi.map a.eval) none).run P w = .ok (l, hh, cap) w := by
                  unfold Instr.sliceBounds
                  simp only [Sem.run_bind, Sem.run_pure, Result.andThen_ok, if_true, Option.isSome_none, Bool.false_eq_true, if_false]
                  cases hi <;> cases lo <;> simp only [Option.map_some, Option.map_none] at b2 b3 ⊢ <;> simp only [Sem.run_bind, Sem.run_pure, Result.andThen_ok, b2, b3]
                  all_goals (injection b3 with b3; rw [b3])
                split at hv
                · rename_i d4
                  injection hv with hv; subst hv
                  have d4 : cap = l := nat_beq_true.1 d4
                  refine ⟨.slice _ _ _ _ hlt, .slice (some ⟨r.φ i, oo, none⟩) (hh - l) (cap - l), .slice i oo _ _ (by omega), ?_⟩
                  simp only [execOp, ho, hg, Sem.run_bind, Instr.sliceAt, hu, Result.andThen_ok, Instr.slice, Option.map_none, hbd, hsz, Sem.run_pure]
                  simp [d4]
                · rename_i d4
                  injection hv with hv; subst hv
                  have d4 : cap ≠ l := nat_beq_false.1 d4
                  refine ⟨.slice _ _ _ _ hlt, .slice (some ⟨r.φ i, oo + l * ei.sz, none⟩) (hh - l) (cap - l), .slice i _ _ _ (by omega), ?_⟩
                  simp only [execOp, ho, hg, Sem.run_bind, Instr.sliceAt, hu, Result.andThen_ok, Instr.slice, Option.map_none, hbd, hsz, Sem.run_pure]
                  simp [d4, Addr.add_mid]
              · cases hv
            · cases hv
          · cases hv
        · cases hv
      · cases hv
    · cases hv
  · cases hv
end
end Go.Proofs.YtledghdlcdgepaaGreatDoor
