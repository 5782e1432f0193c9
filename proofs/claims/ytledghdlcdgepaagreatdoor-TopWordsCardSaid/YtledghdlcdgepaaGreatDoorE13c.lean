/- A verified abstract interpreter, part 13c: more operations that are met in plain regions alone. -/
import Derived.Test.YtledghdlcdgepaaGreatDoorE13b
noncomputable section
namespace Go.Proofs.YtledghdlcdgepaaGreatDoor
set_option linter.unusedVariables false
set_option linter.unusedSimpArgs false
open Go.RowKit

section
variable {P : Program} {tb : Nat → Option TI} {r : Ren} {n : Nat} {N : Nat → Prop} {a : Act} {ev : Operand → Option Value} {h h' : AH} {w : World}

/-! ### New slices -/
def aMakeSlice (tb : Nat → Option TI) (ev : Operand → Option Value) (h : AH) (t : TypeId) (l c : Operand) : Option (Value × AH) := match tb t with
  | some ti => match ti.desc with
    | .slice e => match tb e with
      | some ei => match ev l, ev c with
        | some (.int .i64 (.ofNat n)), some (.int .i64 (.ofNat m)) => match Nat.ble n m, Nat.ble m 1000000, Nat.ble ei.bytes 1000, Nat.blt h.n 1000000 with
          | true, true, true, true => some (.slice (some ⟨h.n, 0, none⟩) n m, h.push (.cells (aZeros ei (m * ei.sz)).toList e [] true))
          | _, _, _, _ => none
        | _, _ => none
      | none => none
    | _ => none
  | none => none
theorem wrap_small {m : Nat} (hm : m ≤ 1000000) : IntKind.i64.wrap (Int.ofNat m) = (m : Int) := by
  have h1 : (Int.ofNat m) = (m : Int) := rfl
  rw [h1]
  unfold IntKind.wrap
  simp [IntKind.bits, IntKind.signed]
  have h2 : (m : Int) % 18446744073709551616 = m := by omega
  rw [h2, if_neg (by omega)]
theorem makeSlice_ok {o : Oper} {t : TypeId} {l c : Operand} (ho : o.op = .makeSlice t l c) (htb : TbOk P tb) {v : Value} (hv : aMakeSlice tb ev h t l c = some (v, h')) (he : EvOk r h.n ev a) (hS : Sim P N r h w) : Eff P N r h w a o v h' := by
  unfold aMakeSlice at hv
  split at hv
  · rename_i ti hti
    split at hv
    · rename_i e hd
      split at hv
      · rename_i ei hei
        split at hv
        · rename_i n m hl hc
          obtain ⟨_, hl⟩ := he l _ hl
          obtain ⟨_, hc⟩ := he c _ hc
          have hl := vr_int hl
          have hc := vr_int hc
          split at hv
          · rename_i c1 c2 c3 c4
            injection hv with hv
            injection hv with hv1 hv2
            subst hv1 hv2
            have c1 : n ≤ m := by simpa using c1
            have c2 : m ≤ 1000000 := by simpa using c2
            have c3 : ei.bytes ≤ 1000 := by simpa using c3
            have c4 : h.n < 1000000 := by simpa using c4
            have hE := htb _ _ hei
            obtain ⟨inf, z1, z2, z3, z, z4, z5, z6, z7⟩ := hE.info
            have hut := (htb _ _ hti).under w
            rw [hd] at hut
            have hso := hE.sizeOf w
            have hin : (typeInfo e).run P w = .ok inf w := by simp [typeInfo, Sem.run_bind, z1]
            have hzv : (zeroValue e).run P w = .ok z w := by simp [zeroValue, typeInfo, Sem.run_bind, z1, z4]
            have hvr : VRs r (aZeros ei (m * ei.sz)).toList (aZeros ei (m * ei.sz)).toList := lits_vrs (zeros_lit hE m)
            have hsl : VR (r.upd h.n w.heap.size m) (.slice (some ⟨h.n, 0, none⟩) n m) (.slice (some ⟨w.heap.size, 0, none⟩) n m) := by
              have := VR.slice (r := r.upd h.n w.heap.size m) h.n 0 n m (by unfold unk; omega)
              have e : (r.upd h.n w.heap.size m).φ h.n = w.heap.size := by simp [Ren.upd]
              rwa [e] at this
            refine ⟨_, _, _, r.ext_upd h.n w.heap.size m, Nat.le_succ _, sim_alloc hE hS c4 hvr (fun x hx => (zeros_lit hE m x hx r h.n).2) m (by simp [zeros_size]), below_alloc hS _, .slice _ _ _ _ (Nat.lt_succ_self _), hsl, .inl ?_⟩
            have w1 := wrap_small (m := n) (by omega)
            have w2 := wrap_small c2
            have b1 : ¬ (inf.bytes * (m : Int) > 2 ^ 48) := by
              rw [z3, ← Int.natCast_mul]
              have := Nat.mul_le_mul c3 c2
              omega
            have b2 : ¬ ((m : Int) < 0) := by omega
            have b3 : ¬ ((n : Int) < 0) := by omega
            have b4 : ¬ ((n : Int) > (m : Int)) := by omega
            have hz0 : ∀ k, k < m * ei.sz → ¬ m * ei.sz = 0 := fun k hk => by omega
            have run : (Instr.makeSlice t (.int .i64 (Int.ofNat n)) (.int .i64 (Int.ofNat m))).run P w = .ok (.slice (some ⟨w.heap.size, 0, none⟩) n m) (w.alloc (.cells (aZeros ei (m * ei.sz)) e)) := by
              unfold Instr.makeSlice
              simp only [Sem.run_bind, hut, Result.andThen_ok, asInt, asIntOf, Sem.run_pure, hin, w1, w2, b1, b2, b3, b4, decide_false, Bool.or_false, Bool.false_eq_true, if_false, run_askRoom, hso, Int.toNat_natCast]
              by_cases hm0 : m * ei.sz = 0
              · simp only [hm0, if_true, Sem.run_bind, Sem.run_pure, Result.andThen_ok, newRow, run_newObj]
                have hr0 : Array.range 0 = #[] := rfl
                simp [aZeros, hr0]
              · simp only [hm0, if_false, Sem.run_bind, Sem.run_pure, Result.andThen_ok, hzv, z5, newRow, run_newObj]
                simp [aZeros]
            simp only [execOp, ho, hl, hc, Sem.run_bind, run, Result.andThen_ok, Sem.run_pure]
          · cases hv
        · cases hv
      · cases hv
    · cases hv
  · cases hv

/-! ### Bytes of strings, and back -/
def bts : List UInt8 → List Value
  | [] => []
  | b :: bs => .int .u8 b.toNat :: bts bs
theorem bts_eq : ∀ l : List UInt8, bts l = l.map fun b => .int .u8 b.toNat
  | [] => rfl
  | b :: l => by rw [bts, bts_eq l]; rfl
def unb : List Value → Option (List UInt8)
  | [] => some []
  | v :: vs => match v with
    | .int .u8 n => match unb vs with
      | some bs => some (UInt8.ofNat n.toNat :: bs)
      | none => none
    | _ => none
theorem unb_ok : ∀ (l : List Value) (bs : List UInt8), unb l = some bs → ∃ ns : List Int, l = ns.map (Value.int .u8) ∧ bs = ns.map fun n => UInt8.ofNat n.toNat
  | [], bs, h => by simp [unb] at h; subst h; exact ⟨[], rfl, rfl⟩
  | v :: l, bs, h => by
    unfold unb at h
    split at h
    · rename_i n
      split at h
      · rename_i bs2 h2
        injection h with h; subst h
        obtain ⟨ns, h3, h4⟩ := unb_ok l bs2 h2
        exact ⟨n :: ns, by rw [h3]; rfl, by rw [h4]; rfl⟩
      · cases h
    · cases h
theorem foldl_push_ints : ∀ (ns : List Int) (q : ByteArray), ns.foldl (fun r n => r.push (UInt8.ofNat n.toNat)) q = ⟨q.data ++ (ns.map fun n => UInt8.ofNat n.toNat).toArray⟩
  | [], q => by simp
  | n :: ns, q => by
    simp only [List.foldl_cons]
    rw [foldl_push_ints ns]
    simp [ByteArray.push]

def aConvB (tb : Nat → Option TI) (ev : Operand → Option Value) (h : AH) (src dst : TypeId) (x : Operand) : Option (Value × AH) := match tb src, tb dst, ev x with
  | some si, some di, some (.string s) => match si.desc, di.desc with
    | .string, .slice e => match tb e with
      | some ei => match ei.desc, Nat.blt h.n 1000000, Nat.blt (slen s) 1000000, Nat.beq ei.sz 1 with
        | .int .u8, true, true, true => some (.slice (some ⟨h.n, 0, none⟩) (slen s) unk, h.push (.cells (bts s.data.toList) e [] false))
        | _, _, _, _ => none
      | none => none
    | _, _ => none
  | some si, some di, some (.slice (some ⟨i, o, none⟩) len _) => match si.desc, di.desc with
    | .slice e, .string => match tb e, h.get i with
      | some ei, some (.cells cs _ _ _) => match ei.desc, Nat.ble (o + len) cs.length, unb ((cs.drop o).take len) with
        | .int .u8, true, some bs => some (.string ⟨bs.toArray⟩, h)
        | _, _, _ => none
      | _, _ => none
    | _, _ => none
  | _, _, _ => none
theorem vrs_ints : ∀ (ns : List Int) (l : List Value), VRs r (ns.map (Value.int .u8)) l → l = ns.map (Value.int .u8)
  | [], l, h => List.eq_nil_of_length_eq_zero (by simpa using h.1.symm)
  | n :: ns, [], h => by have := h.1; simp at this
  | n :: ns, v :: l, h => by
    have h1 := vr_int (h.2 0 _ v rfl rfl)
    have h2 := vrs_ints ns l ⟨by simpa using h.1, fun k x y hx hy => h.2 (k + 1) x y (by simpa using hx) (by simpa using hy)⟩
    rw [h1, h2]; rfl
theorem convB_ok {o : Oper} {src dst : TypeId} {x : Operand} (ho : o.op = .convert src dst x) (htb : TbOk P tb) {v : Value} (hv : aConvB tb ev h src dst x = some (v, h')) (he : EvOk r h.n ev a) (hS : Sim P N r h w) : Eff P N r h w a o v h' := by
  unfold aConvB at hv
  split at hv
  · rename_i si di s hsi hdi hx
    obtain ⟨_, hx⟩ := he x _ hx
    have hx := vr_string hx
    split at hv
    · rename_i e hds hdd
      split at hv
      · rename_i ei hei
        split at hv
        · rename_i hde c1 c2 c3
          injection hv with hv
          injection hv with hv1 hv2
          subst hv1 hv2
          have c1 : h.n < 1000000 := by simpa using c1
          have c2 : s.size < 1000000 := by simpa [slen_eq] using c2
          have c3 : ei.sz = 1 := nat_beq_true.1 c3
          have u1 := (htb _ _ hsi).und
          have u2 := (htb _ _ hdi).und
          have u3 := (htb _ _ hei).und
          rw [hds] at u1; rw [hdd] at u2; rw [hde] at u3
          have hrun := run_bytes_of_string (P := P) w src dst e s u1 u2 u3
          obtain ⟨cp, hcp⟩ : ∃ c, c = grownCap w s.size 0 e := ⟨_, rfl⟩
          rw [← hcp] at hrun
          have hge : s.size ≤ cp := by rw [hcp]; unfold grownCap; simp [Question.cut]
          obtain ⟨inf, z1, z2, _⟩ := (htb _ _ hei).info
          have hS2 : Sim P N r h w.drew := hS.heap rfl
          have hcells : bts s.data.toList = (s.data.map fun b => Value.int .u8 b.toNat).toList := by rw [bts_eq]; simp
          have hsim := hS2.new c1 (.cells (bts s.data.toList) e [] false) (.cells (bytesRow s cp) e ((bytesRow s cp).size, (bytesRow s cp).size + 1)) cp ⟨bytesRow s cp, inf, ⟨_, by
              have e1 : (r.upd h.n w.drew.heap.size cp).φ h.n = w.drew.heap.size := by simp [Ren.upd]
              rw [e1]; exact (MapKept.heap_alloc w.drew _).1, fun hh => by cases hh⟩, z1, by
              have e1 : (r.upd h.n w.drew.heap.size cp).κ h.n = cp := by simp [Ren.upd]
              rw [e1, z2, c3]; simp [bytesRow]; omega, by
              rw [hcells]; simp [bytesRow], fun k u y hu hy => by
              rw [hcells] at hu
              have hk : k < s.data.size := by have := (List.getElem?_eq_some_iff.1 hu).1; simpa using this
              rw [bytesRow, Array.getElem?_append_left (by simpa using hk)] at hy
              have : some u = some y := by rw [← hu, ← hy]; simp
              injection this with this
              subst this
              rw [Array.getElem?_map] at hy
              simp only [Option.map_eq_some_iff] at hy
              obtain ⟨b, _, rfl⟩ := hy
              exact .int _ _⟩ (fun u hu => by
              rw [bts_eq] at hu
              obtain ⟨b, _, rfl⟩ := List.mem_map.1 hu
              exact .int _ _)
          refine ⟨_, .slice (some ⟨w.heap.size, 0, none⟩) s.size cp, _, r.ext_upd h.n w.heap.size cp, Nat.le_succ _, hsim, ?_, .slice _ _ _ _ (Nat.lt_succ_self _), ?_, .inl ?_⟩
          · exact (show Below N w w.drew from ⟨rfl, rfl, rfl, Nat.le_refl _, fun _ _ => rfl⟩).alloc (show ∀ k, N k → k < w.drew.heap.size from hS.size) _
          · exact slU_new (h := h) (w := w) s.size cp
          · simp only [execOp, ho, hx, Sem.run_bind, hrun, Result.andThen_ok, Sem.run_pure]
        · cases hv
      · cases hv
    · cases hv
  · rename_i si di i oo len cp0 hsi hdi hx
    obtain ⟨_, hx⟩ := he x _ hx
    split at hv
    · rename_i e hds hdd
      split at hv
      · rename_i ei cs e' pv tp hei hi0
        split at hv
        · rename_i bs hde c1 hbs
          injection hv with hv
          injection hv with hv1 hv2
          subst hv1 hv2
          have c1 : oo + len ≤ cs.length := by simpa using c1
          have u1 := (htb _ _ hsi).und
          have u2 := (htb _ _ hdi).und
          have u3 := (htb _ _ hei).und
          rw [hds] at u1; rw [hdd] at u2; rw [hde] at u3
          generalize hg : a.eval x = xv at hx
          have hsl : ∃ c', xv = .slice (some ⟨r.φ i, oo, none⟩) len c' := by cases hx <;> exact ⟨_, rfl⟩
          obtain ⟨c', rfl⟩ := hsl
          obtain ⟨arr, inf, ⟨fz, q1, _⟩, q2, q3, q4, q5⟩ := hS.blk i _ hi0
          obtain ⟨ns, hns, hbs2⟩ := unb_ok _ _ hbs
          have hlen : ((arr.toList.drop oo).take len).length = len := by simp; omega
          have hvr : VRs r ((cs.drop oo).take len) ((arr.toList.drop oo).take len) := by
            refine ⟨by rw [hlen]; simp; omega, fun k u y hu hy => ?_⟩
            rw [List.getElem?_take] at hu hy
            split at hu
            · rename_i hk
              rw [if_pos hk] at hy
              exact q5 (oo + k) u y (by simpa using hu) (by simpa using hy)
            · cases hu
          rw [hns] at hvr
          have harr := vrs_ints _ _ hvr
          have hld := run_loadCells_list (P := P) w ⟨r.φ i, oo, none⟩ ((arr.toList.drop oo).take len) (fun j y hy => by
            rw [Addr.add_mid]
            rw [List.getElem?_take] at hy
            split at hy
            · simp only [World.cell?, q1]
              simpa using hy
            · cases hy)
          rw [hlen, harr] at hld
          have hb := run_bytesToString (P := P) w ⟨r.φ i, oo, none⟩ len c' ns (by simpa using hld)
          have hr := run_convert_bytes_string (P := P) w src dst e (some ⟨r.φ i, oo, none⟩) len c' u1 u3 u2
          rw [hb, foldl_push_ints] at hr
          refine ⟨r, _, w, Ren.ext.refl r _, Nat.le_refl _, hS, Below.refl N w, .string _, .string _, .inl ?_⟩
          have he0 : ByteArray.empty.data = #[] := rfl
          simp only [execOp, ho, hg, Sem.run_bind, hr, Result.andThen_ok, Sem.run_pure, hbs2, he0]
          simp
        · cases hv
      · cases hv
    · cases hv
  · cases hv
end
end Go.Proofs.YtledghdlcdgepaaGreatDoor
