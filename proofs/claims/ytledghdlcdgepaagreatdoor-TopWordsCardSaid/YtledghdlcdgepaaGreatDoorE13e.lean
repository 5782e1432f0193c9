/- A verified abstract interpreter, part 13e: a byte's place in a string; all operations that are met in plain regions alone. -/
import Derived.Test.YtledghdlcdgepaaGreatDoorE13d
noncomputable section
namespace Go.Proofs.YtledghdlcdgepaaGreatDoor
set_option linter.unusedVariables false
set_option linter.unusedSimpArgs false
open Go.RowKit

section
variable {P : Program} {tb : Nat → Option TI} {r : Ren} {n : Nat} {N : Nat → Prop} {a : Act} {ev : Operand → Option Value} {h h' : AH} {w : World}

/-! ### All of them -/
def aOpX (tb : Nat → Option TI) (ev : Operand → Option Value) (h : AH) (o : Oper) : Option (Value × AH) := match o.op with
  | .slice t x lo hi mx => wv h (aSliceL tb ev h t x lo hi mx)
  | .makeSlice t l c => aMakeSlice tb ev h t l c
  | .convert s d x => aConvB tb ev h s d x
  | .binOp op t x y _ => wv h (aBinX tb ev op t x y)
  | .call ⟨.builtin .len, ⟨[x]⟩, ⟨[t]⟩⟩ => wv h (aLenM tb ev h t x)
  | .call ⟨.builtin .cap, ⟨[x]⟩, ⟨[t]⟩⟩ => wv h (aCap tb ev t x)
  | .call ⟨.builtin .max, ⟨[x, y]⟩, _⟩ => wv h (aMax ev x y)
  | .call ⟨.builtin .copy, ⟨[x, y]⟩, ⟨[ts, tx]⟩⟩ => aCopy tb h ts (ev x) (ev y)
  | _ => none
theorem aOpX_ok {o : Oper} {v : Value} (htb : TbOk P tb) (hv : aOpX tb ev h o = some (v, h')) (he : EvOk r h.n ev a) (hS : Sim P N r h w) : Eff P N r h w a o v h' := by
  unfold aOpX at hv
  split at hv
  · rename_i t x lo hi mx ho; obtain ⟨h1, rfl⟩ := wv_some hv; exact eff_of_read (sliceL_ok ho htb h1 he hS) hS
  · rename_i t l c ho; exact makeSlice_ok ho htb hv he hS
  · rename_i s d x ho; exact convB_ok ho htb hv he hS
  · rename_i op t x y t2 ho; obtain ⟨h1, rfl⟩ := wv_some hv; exact eff_of_yld (yld_binX ho htb h1 he) hS
  · rename_i x t ho; obtain ⟨h1, rfl⟩ := wv_some hv; exact eff_of_read (lenM_ok ho rfl rfl rfl htb h1 he hS) hS
  · rename_i x t ho; obtain ⟨h1, rfl⟩ := wv_some hv; exact eff_of_yld (yld_cap ho rfl rfl rfl htb h1 he) hS
  · rename_i x y ts ho; obtain ⟨h1, rfl⟩ := wv_some hv; exact eff_of_yld (yld_max ho rfl rfl h1 he) hS
  · rename_i x y ts tx ho; exact copy_ok ho rfl rfl rfl htb hv he hS
  · cases hv

/-! ### A byte's place in a string -/
def idxB (c : UInt8) : List UInt8 → Nat → Int
  | [], _ => -1
  | b :: bs, i => match Nat.beq b.toNat c.toNat with
    | true => Int.ofNat i
    | false => idxB c bs (i + 1)
theorem idxB_find {s : ByteArray} {c : UInt8} : ∀ (m i : Nat), i + m = s.data.toList.length →
    (match (List.range' i m).find? fun k => s[k]! == c with | some k => goInt k | none => goInt (-1)) = .int .i64 (idxB c (s.data.toList.drop i) i)
  | 0, i, h => by
    have : s.data.toList.drop i = [] := List.drop_eq_nil_of_le (by omega)
    rw [this]; rfl
  | m + 1, i, h => by
    have hi : i < s.data.toList.length := by omega
    have hd : s.data.toList.drop i = s.data.toList[i] :: s.data.toList.drop (i + 1) := List.drop_eq_getElem_cons hi
    have hsi : s[i]! = s.data.toList[i] := by
      have h2 : i < s.size := by simpa using hi
      rw [getElem!_pos s i h2]
      rfl
    rw [hd, List.range'_succ, List.find?_cons, hsi]
    unfold idxB
    have hbeq : (s.data.toList[i] == c) = Nat.beq s.data.toList[i].toNat c.toNat := by
      rw [Bool.eq_iff_iff, nat_beq_true, beq_iff_eq, UInt8.toNat_inj]
    rw [hbeq]
    cases hb : Nat.beq s.data.toList[i].toNat c.toNat with
    | true => rfl
    | false => exact idxB_find m (i + 1) (by omega)

theorem indexByte_run {s : ByteArray} {m : Int} (w : World) : (Extern.BytealgIndexByte.indexByte #[.string s, .int .u8 m]).run P w = .ok (.int .i64 (idxB m.toNat.toUInt8 s.data.toList 0)) w := by
  have := idxB_find (s := s) (c := m.toNat.toUInt8) s.data.toList.length 0 (by omega)
  rw [List.drop_zero] at this
  rw [← this]
  have e : Extern.BytealgIndexByte.indexByte #[.string s, .int .u8 m] = (do
      let b ← Extern.Bytes.bytesOf (.string s)
      let c ← Extern.Bytes.asByte (.int .u8 m)
      match (List.range b.size).find? fun i => b[i]! == c with
      | some i => pure (goInt i)
      | none => pure (goInt (-1))) := rfl
  rw [e]
  simp only [Extern.Bytes.bytesOf, Extern.Bytes.asByte, Sem.run_bind, Sem.run_pure, Result.andThen_ok, List.range_eq_range']
  have hsz : s.size = s.data.toList.length := by simp
  rw [hsz]
  split <;> rfl
end
end Go.Proofs.YtledghdlcdgepaaGreatDoor
