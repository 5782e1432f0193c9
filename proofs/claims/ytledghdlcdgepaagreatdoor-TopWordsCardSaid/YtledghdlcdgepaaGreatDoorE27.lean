/- A verified abstract interpreter, part 27: the table of types, out of the program. -/
import Derived.Test.YtledghdlcdgepaaGreatDoorE26
noncomputable section
namespace Go.Proofs.YtledghdlcdgepaaGreatDoor
set_option linter.unusedVariables false
set_option linter.unusedSimpArgs false
open Go.RowKit

def fldI (P : Program) : List Field → Option (List (Nat × Nat × Bool))
  | [] => some []
  | f :: fs => match P.info? f.type, P.underlying f.type, fldI P fs with
    | some inf, some d, some l => some ((f.offset, inf.size, d.isRow) :: l)
    | _, _, _ => none
theorem fldI_ok {P : Program} : ∀ (fs : List Field) (l : List (Nat × Nat × Bool)), fldI P fs = some l → l.length = fs.length ∧ ∀ (k : Nat) (f : Field), fs[k]? = some f → ∃ inf d, P.info? f.type = some inf ∧ P.underlying f.type = some d ∧ l[k]? = some (f.offset, inf.size, d.isRow)
  | [], l, h => by
    simp only [fldI] at h
    injection h with h
    subst h
    exact ⟨rfl, fun k f hk => by simp at hk⟩
  | f :: fs, l, h => by
    unfold fldI at h
    split at h
    · rename_i inf d l2 h1 h2 h3
      injection h with h
      subst h
      obtain ⟨q1, q2⟩ := fldI_ok fs l2 h3
      refine ⟨by simp [q1], fun k g hk => ?_⟩
      cases k with
      | zero => simp at hk; subst hk; exact ⟨inf, d, h1, h2, rfl⟩
      | succ k => simpa using q2 k g (by simpa using hk)
    · cases h

def zeroL (d : TypeDesc) (z : Value) : Option (List Value) := match d.isRow with
  | true => match z with
    | .agg cs => some cs.toList
    | _ => none
  | false => match z with
    | .agg _ => none
    | z => some [z]
def fldO (P : Program) (d : TypeDesc) : Option (List (Nat × Nat × Bool)) := match d with
  | .struct fs => fldI P fs.toList
  | _ => some []
def mkTI (P : Program) (t : TypeId) : Option TI := match P.info? t, P.underlying t with
  | some inf, some d => match inf.zero with
    | some z => match zeroL d z, fldO P d with
      | some zs, some fo => match lits zs, Nat.beq zs.length inf.size with
        | true, true => some ⟨inf.size, inf.bytes, d, fo, zs, !P.stoodInHeld t && !P.eqGuardType P.depth t⟩
        | _, _ => none
      | _, _ => none
    | none => none
  | _, _ => none

theorem mkTI_ok (P : Program) : TbOk P (mkTI P) := by
  intro t i h
  unfold mkTI at h
  split at h
  · rename_i inf d h1 h2
    split at h
    · rename_i z hz
      split at h
      · rename_i zs fo hzs hfo
        split at h
        · rename_i c1 c2
          injection h with h
          subst h
          have c2 : zs.length = inf.size := nat_beq_true.1 c2
          have hzz : z.cells = zs.toArray ∧ (d.isRow = true → z = .agg zs.toArray) ∧ (d.isRow = false → zs = [z]) := by
            unfold zeroL at hzs
            split at hzs
            · rename_i hr
              split at hzs
              · rename_i cs
                injection hzs with hzs
                subst hzs
                exact ⟨by simp [Value.cells], fun _ => by simp, fun hh => by rw [hr] at hh; cases hh⟩
              · cases hzs
            · rename_i hr
              split at hzs
              · cases hzs
              · rename_i hne
                injection hzs with hzs
                subst hzs
                refine ⟨?_, (fun hh => by rw [hr] at hh; cases hh), fun _ => rfl⟩
                cases z <;> first | rfl | exact absurd rfl (hne _)
          have hst : ∀ fs, d = .struct fs → fldI P fs.toList = some fo := fun fs hd => by
            subst hd
            exact hfo
          refine ⟨⟨inf, h1, rfl, rfl, z, hz, hzz⟩, lits_ok zs c1, c2, h2, fun fs hd k f hk => ?_, fun fs hd => ?_, fun he => ?_⟩
          · exact (fldI_ok _ _ (hst fs hd)).2 k f (by simpa using hk)
          · simpa using (fldI_ok _ _ (hst fs hd)).1
          · simpa using he
        · cases h
      · cases h
    · cases h
  · cases h
end Go.Proofs.YtledghdlcdgepaaGreatDoor
