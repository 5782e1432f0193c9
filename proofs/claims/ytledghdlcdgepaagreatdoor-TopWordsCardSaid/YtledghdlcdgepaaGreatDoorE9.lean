/- A verified abstract interpreter, part 9: structs and slices built, appends. -/
import Derived.Test.YtledghdlcdgepaaGreatDoorE8
noncomputable section
namespace Go.Proofs.YtledghdlcdgepaaGreatDoor
set_option linter.unusedVariables false
set_option linter.unusedSimpArgs false
open Go.RowKit

section
variable {P : Program} {tb : Nat → Option TI} {r : Ren} {n : Nat} {N : Nat → Prop} {a : Act} {ev : Operand → Option Value} {h h' : AH} {w : World}

def aParts (ev : Operand → Option Value) : List (Nat × Operand) → Option (List (Nat × Value))
  | [] => some []
  | (i, x) :: xs => match ev x with
    | some v => match aParts ev xs with
      | some vs => some ((i, v) :: vs)
      | none => none
    | none => none
theorem parts_ok (he : EvOk r n ev a) : ∀ (xs : List (Nat × Operand)) (vs : List (Nat × Value)), aParts ev xs = some vs → PRel r vs (xs.map fun p => (p.1, a.eval p.2)) ∧ ∀ x ∈ vs, Bel n x.2
  | [], vs, h => by simp [aParts] at h; subst h; exact ⟨trivial, by simp⟩
  | (i, x) :: xs, vs, h => by
    unfold aParts at h
    split at h
    · rename_i v hx
      split at h
      · rename_i us hus
        injection h with h; subst h
        obtain ⟨h1, h2⟩ := parts_ok he xs us hus
        obtain ⟨h3, h4⟩ := he x v hx
        exact ⟨⟨rfl, h4, h1⟩, fun p hp => by
          rcases List.mem_cons.1 hp with rfl | hp
          · exact h3
          · exact h2 p hp⟩
      · cases h
    · cases h

theorem foldSet_mem (off : Nat) : ∀ (l : List (Value × Nat)) (c : Array Value) (x : Value), x ∈ (l.foldl (fun cs (p : Value × Nat) => cs.setIfInBounds (off + p.2) p.1) c).toList → x ∈ c.toList ∨ ∃ p ∈ l, p.1 = x
  | [], c, x, hx => .inl hx
  | p :: l, c, x, hx => by
    simp only [List.foldl_cons] at hx
    rcases foldSet_mem off l _ x hx with h | ⟨q, hq, rfl⟩
    · rw [Array.toList_setIfInBounds] at h
      rcases List.mem_or_eq_of_mem_set h with h | h
      · exact .inl h
      · exact .inr ⟨p, by simp, h.symm⟩
    · exact .inr ⟨q, by simp [hq], rfl⟩
theorem foldSet_size (off : Nat) : ∀ (l : List (Value × Nat)) (c : Array Value), (l.foldl (fun cs (p : Value × Nat) => cs.setIfInBounds (off + p.2) p.1) c).size = c.size
  | [], c => rfl
  | p :: l, c => by simp only [List.foldl_cons]; rw [foldSet_size off l]; simp
theorem fill_mem (place : Nat → Option (Nat × Nat)) : ∀ (ps : List (Nat × Value)) (c res : Array Value), Instr.fill place c ps = some res → res.size = c.size ∧ ∀ x ∈ res.toList, x ∈ c.toList ∨ ∃ p ∈ ps, x ∈ cellsOf p.2
  | [], c, res, hf => by simp [Instr.fill] at hf; subst hf; exact ⟨rfl, fun x hx => .inl hx⟩
  | (i, v) :: ps, c, res, hf => by
    unfold Instr.fill at hf
    split at hf
    · cases hf
    · rename_i off size hp
      split at hf
      · cases hf
      · obtain ⟨h1, h2⟩ := fill_mem place ps _ res hf
        have e1 : v.cells.zipIdx.foldl (fun cs (x : Value × Nat) => match x with | (c, j) => cs.setIfInBounds (off + j) c) c = ((cellsOf v).zipIdx).foldl (fun cs (p : Value × Nat) => cs.setIfInBounds (off + p.2) p.1) c := by
          rw [cellsOf_eq, ← Array.foldl_toList]
          simp
        rw [e1] at h1 h2
        rw [foldSet_size] at h1
        refine ⟨h1, fun x hx => ?_⟩
        rcases h2 x hx with h | ⟨p, hp, hx⟩
        · rcases foldSet_mem off _ c x h with h | ⟨q, hq, rfl⟩
          · exact .inl h
          · refine .inr ⟨(i, v), by simp, ?_⟩
            obtain ⟨k, hk, e⟩ := List.mem_iff_getElem.1 hq
            rw [← e]
            simp
        · exact .inr ⟨p, by simp [hp], hx⟩

theorem places_ok : ∀ (l : List Field) (res : List (Nat × Nat)), l.length = res.length → (∀ (k : Nat) (f : Field), l[k]? = some f → ∃ i, P.info? f.type = some i ∧ res[k]? = some (f.offset, i.size)) →
    l.mapM (fun f => (P.info? f.type).map fun i => (f.offset, i.size)) = some res
  | [], res, hl, _ => by have : res = [] := List.eq_nil_of_length_eq_zero (by simpa using hl.symm); subst this; rfl
  | f :: l, [], hl, _ => by simp at hl
  | f :: l, x :: res, hl, hk => by
    obtain ⟨i, h1, h2⟩ := hk 0 f rfl
    simp at h2
    have ih := places_ok l res (by simpa using hl) (fun k g hg => by
      obtain ⟨i, a, b⟩ := hk (k + 1) g (by simpa using hg)
      exact ⟨i, a, by simpa using b⟩)
    simp [List.mapM_cons, h1, ih, h2]

def aBuild (tb : Nat → Option TI) (ev : Operand → Option Value) (t : TypeId) (parts : Array (Nat × Operand)) : Option Value := match tb t with
  | some ti => match ti.desc with
    | .struct _ => match aParts ev parts.toList with
      | some ps => match Instr.fill (fun k => (ti.fo[k]?).map fun x => (x.1, x.2.1)) ti.zero.toArray ps with
        | some cells => some (.agg cells)
        | none => none
      | none => none
    | _ => none
  | none => none
theorem yld_build {o : Oper} {t : TypeId} {parts : Array (Nat × Operand)} (ho : o.op = .build t parts) (htb : TbOk P tb) {v : Value} (hv : aBuild tb ev t parts = some v) (he : EvOk r n ev a) : Yld P r n a o v := by
  unfold aBuild at hv
  split at hv
  · rename_i ti hti
    split at hv
    · rename_i fs hd
      split at hv
      · rename_i ps hps
        split at hv
        · rename_i cells hf
          injection hv with hv; subst hv
          have ht := htb _ _ hti
          obtain ⟨hp, hpb⟩ := parts_ok he _ _ hps
          obtain ⟨inf, z1, z2, z3, z, z4, z5, z6, z7⟩ := ht.info
          obtain ⟨res', hf', hvr⟩ := fill_rel _ _ _ ti.zero.toArray ti.zero.toArray cells hp (lits_vrs (r := r) (by simpa using ht.lit)) hf
          obtain ⟨_, hm⟩ := fill_mem _ _ _ _ hf
          have hpl := places_ok (P := P) fs.toList (ti.fo.map fun x => (x.1, x.2.1)) (by simp [ht.fol fs hd]) (fun k f hk => by
            obtain ⟨inf2, d2, a1, a2, a3⟩ := ht.fo fs hd k f (by simpa using hk)
            exact ⟨inf2, a1, by simp [a3]⟩)
          have hbuilt : P.built t ((parts.map fun (i, x) => (i, a.eval x)).toList) = some res' := by
            have hu := ht.und
            rw [hd] at hu
            unfold Program.built
            simp only [z1, hu, z4, hpl, z5]
            have e1 : (parts.map fun (x : Nat × Operand) => match x with | (i, x) => (i, a.eval x)).toList = parts.toList.map fun p => (p.1, a.eval p.2) := by simp
            rw [e1, ← hf']
            congr 1
            funext k
            simp
          refine ⟨.agg _ fun k x hx => ?_, _, mk_agg (cs := cells.toList) (cs' := res'.toList) hvr, fun w => ?_⟩
          · rcases hm x (List.mem_of_getElem? hx) with h | ⟨p, hp, hx⟩
            · exact (ht.lit x (by simpa using h) r n).2
            · exact bel_cells (hpb p hp) x hx
          · have := run_build (P := P) w t _ _ hbuilt
            simp [execOp, ho, this]
        · cases hv
      · cases hv
    · cases hv
  · cases hv

/-- The cells of a fresh row of n elements. -/
def aZeros (ei : TI) (c : Nat) : Array Value := (Array.range c).map fun k => ei.zero.toArray[k % ei.zero.toArray.size]!
theorem zeros_lit {ti : TI} {t : TypeId} (hti : TIok P t ti) (c : Nat) : ∀ x ∈ (aZeros ti (c * ti.sz)).toList, IsLit x := by
  intro x hx
  simp only [aZeros, Array.toList_map, List.mem_map] at hx
  obtain ⟨k, hk, rfl⟩ := hx
  have hk : k < c * ti.sz := by simpa using hk
  have hpos : 0 < ti.zero.toArray.size := by
    have := hti.zl
    rcases Nat.eq_zero_or_pos ti.sz with h0 | h0
    · rw [h0] at hk; simp at hk
    · simp; omega
  have hlt : k % ti.zero.toArray.size < ti.zero.toArray.size := Nat.mod_lt _ hpos
  rw [getElem!_pos ti.zero.toArray _ hlt]
  exact hti.lit _ (by simp)
theorem zeros_size (ti : TI) (c : Nat) : (aZeros ti c).size = c := by simp [aZeros]

def aBuildSlice (tb : Nat → Option TI) (ev : Operand → Option Value) (h : AH) (t : TypeId) (len : Nat) (parts : Array (Nat × Operand)) : Option (Value × AH) := match tb t with
  | some ti => match ti.desc with
    | .slice e => match tb e with
      | some ei => match aParts ev parts.toList with
        | some ps => match Nat.blt h.n 1000000, Nat.blt len 1000000, Nat.ble (len * ei.sz) 16777216 with
          | true, true, true => match Instr.fill (fun i => some (i * ei.sz, ei.sz)) (aZeros ei (len * ei.sz)) ps with
            | some cells => some (.slice (some ⟨h.n, 0, none⟩) len len, h.push (.cells cells.toList e [] true))
            | none => none
          | _, _, _ => none
        | none => none
      | none => none
    | _ => none
  | none => none
theorem buildSlice_ok {o : Oper} {t : TypeId} {len : Nat} {parts : Array (Nat × Operand)} (ho : o.op = .buildSlice t len parts) (htb : TbOk P tb) {v : Value} (hv : aBuildSlice tb ev h t len parts = some (v, h')) (he : EvOk r h.n ev a) (hS : Sim P N r h w) :
    Eff P N r h w a o v h' := by
  unfold aBuildSlice at hv
  split at hv
  · rename_i ti hti
    split at hv
    · rename_i e hd
      split at hv
      · rename_i ei hei
        split at hv
        · rename_i ps hps
          split at hv
          · rename_i c1 c2 c4
            split at hv
            · rename_i cells hf
              injection hv with hv
              injection hv with hv1 hv2
              subst hv1 hv2
              have c1 : h.n < 1000000 := by simpa using c1
              have c2 : len < 1000000 := by simpa using c2
              have c4 : len * ei.sz ≤ 16777216 := by simpa using c4
              have ht := htb _ _ hei
              obtain ⟨hp, hpb⟩ := parts_ok he _ _ hps
              obtain ⟨inf, z1, z2, z3, z, z4, z5, z6, z7⟩ := ht.info
              obtain ⟨res', hf', hvr⟩ := fill_rel _ _ _ (aZeros ei (len * ei.sz)) (aZeros ei (len * ei.sz)) cells hp (lits_vrs (zeros_lit ht len)) hf
              obtain ⟨hsz, hm⟩ := fill_mem _ _ _ _ hf
              have hcl : cells.toList.length = len * ei.sz := by simp [hsz, zeros_size]
              have hu := run_underlying (htb _ _ hti).und w
              rw [hd] at hu
              have hz : (zeroValue e).run P w = .ok z w := by simp [zeroValue, typeInfo, Sem.run_bind, z1, z4]
              have hso := ht.sizeOf w
              have e1 : (parts.map fun (x : Nat × Operand) => match x with | (i, x) => (i, a.eval x)).toList = parts.toList.map fun p => (p.1, a.eval p.2) := by simp
              have hbel : ∀ x ∈ cells.toList, Bel h.n x := fun x hx => by
                rcases hm x hx with h2 | ⟨p, hp, hx⟩
                · exact (zeros_lit ht len x h2 r h.n).2
                · exact bel_cells (hpb p hp) x hx
              have hsim := sim_alloc ht hS c1 hvr hbel len hcl
              have hsl : VR (r.upd h.n w.heap.size len) (.slice (some ⟨h.n, 0, none⟩) len len) (.slice (some ⟨w.heap.size, 0, none⟩) len len) := by
                have := VR.slice (r := r.upd h.n w.heap.size len) h.n 0 len len (by unfold unk; omega)
                have e : (r.upd h.n w.heap.size len).φ h.n = w.heap.size := by simp [Ren.upd]
                rwa [e] at this
              have hf2 : Instr.fill (fun i => some (i * ei.sz, ei.sz)) ((Array.range (len * ei.sz)).map fun k => ei.zero.toArray[k % ei.zero.toArray.size]!) (parts.toList.map fun p => (p.1, a.eval p.2)) = some res' := hf'
              refine ⟨_, _, _, r.ext_upd h.n w.heap.size len, Nat.le_succ _, hsim, below_alloc hS _, .slice _ _ _ _ (Nat.lt_succ_self _), hsl, .inl ?_⟩
              have hlim : ¬ len * ei.sz > 2 ^ 24 := by omega
              by_cases hne : len * ei.sz = 0
              · have hr0 : Array.range 0 = #[] := rfl
                rw [hne, hr0] at hf2
                simp only [Array.map_empty] at hf2
                simp only [execOp, ho, Instr.buildSlice, Sem.run_bind, hu, Result.andThen_ok, hso, hlim, hne, if_true, if_false, Sem.run_pure, hr0, Array.map_empty, e1, hf2, newRow, run_newObj]
                simp
              · simp only [execOp, ho, Instr.buildSlice, Sem.run_bind, hu, Result.andThen_ok, hso, hlim, hne, if_false, Sem.run_pure, hz, z5, e1, hf2, newRow, run_newObj]
                simp
            · cases hv
          · cases hv
        · cases hv
      · cases hv
    · cases hv
  · cases hv
end
end Go.Proofs.YtledghdlcdgepaaGreatDoor
