/- A verified abstract interpreter, part 8: updates of maps, composite values, new slices. -/
import Derived.Test.YtledghdlcdgepaaGreatDoorE7
noncomputable section
namespace Go.Proofs.YtledghdlcdgepaaGreatDoor
set_option linter.unusedVariables false
set_option linter.unusedSimpArgs false
open Go.RowKit

section
variable {P : Program} {tb : Nat → Option TI} {r : Ren} {n : Nat} {N : Nat → Prop} {a : Act} {ev : Operand → Option Value} {h h' : AH} {w : World}

/-- A map gets new entries. -/
theorem Sim.updm (hS : Sim P N r h w) {i : Nat} {es es' : List (Value × Value)} (hi : h.get i = some (.map es)) (hin : i < 1000000) (hbel : ∀ x ∈ es', Bel h.n x.1 ∧ Bel h.n x.2)
    {w' : World} {ents : Array MapEntry} {clock : Nat} (hw : w'.heap[r.φ i]? = some (.map ents clock)) (hrel : ERel r es' ents.toList) (hoth : ∀ k, k ≠ r.φ i → w'.heap[k]? = w.heap[k]?) (hs : w'.heap.size = w.heap.size) :
    Sim P N r (h.set i (.map es')) w' := by
  have hex := hS.exclm i es hi
  have hget := AH.get_set (h := h) (b := .map es') hin
  refine ⟨fun j c hc => ?_, fun j c hc => ?_, fun j c hc => ?_, fun j cs2 e2 x t2 hc hx => ?_, fun j es2 hc => ?_, fun i2 cs2 e2 t2 hc j c hj hne heq => ?_, fun i2 es2 hc j c hj hne => ?_, fun i2 cs2 e2 x hc j cs3 e3 x3 t3 hj hφj => ?_, by rw [hs]; exact hS.size⟩
  · rw [hget] at hc
    split at hc
    · rename_i hj; injection hc with hc; subst hj hc
      exact ⟨ents, clock, hw, by simpa using hrel.1, fun k x y hx hy => hrel.2 k x y hx (by simpa using hy)⟩
    · rename_i hj
      exact (hS.blk j c hc).ext (Ren.ext.refl r h.n) (hS.lt j c hc) (hS.bel j c hc) (hoth _ (hex j c hc hj))
  · rw [hget] at hc
    split at hc
    · rename_i hj; subst hj; exact hS.lt _ _ hi
    · exact hS.lt j c hc
  · rw [hget] at hc
    split at hc
    · injection hc with hc; subst hc; exact hbel
    · exact hS.bel j c hc
  · rw [hget] at hc
    split at hc
    · cases hc
    · exact hS.low j cs2 e2 x t2 hc hx
  · rw [hget] at hc
    split at hc
    · rename_i hj; subst hj; exact hS.lowm _ _ hi
    · exact hS.lowm j es2 hc
  · rw [hget] at hc hj
    split at hc
    · cases hc
    · rename_i hi2
      split at hj
      · rename_i hj2
        subst hj2
        exact hS.excl i2 cs2 e2 t2 hc _ _ hi (fun e => hi2 e.symm) heq
      · exact hS.excl i2 cs2 e2 t2 hc j c hj hne heq
  · rw [hget] at hc hj
    split at hc
    · rename_i hi2
      subst hi2
      rw [if_neg hne] at hj
      exact hex j c hj hne
    · rename_i hi2
      split at hj
      · rename_i hj2
        subst hj2
        exact hS.exclm i2 es2 hc _ _ hi (fun e => hi2 e.symm)
      · exact hS.exclm i2 es2 hc j c hj hne
  · rw [hget] at hc hj
    split at hc
    · cases hc
    · split at hj
      · cases hj
      · exact hS.tip i2 cs2 e2 x hc j cs3 e3 x3 t3 hj hφj

def aPut (k v : Value) : List (Value × Value) → Option (List (Value × Value))
  | [] => some [(k, v)]
  | (x, u) :: es => match k, x with
    | .string p, .string q => match sbeq p q with
      | true => some ((k, v) :: es)
      | false => match aPut k v es with
        | some es' => some ((x, u) :: es')
        | none => none
    | .int j p, .int j' q => match decide (j = j'), p == q with
      | true, true => some ((k, v) :: es)
      | true, false => match aPut k v es with
        | some es' => some ((x, u) :: es')
        | none => none
      | false, _ => none
    | _, _ => none

theorem ERel.cons {x : Value × Value} {y : MapEntry} {es : List (Value × Value)} {ents : List MapEntry} (h1 : VR r x.1 y.key) (h2 : VR r x.2 y.val) (h3 : ERel r es ents) : ERel r (x :: es) (y :: ents) := by
  refine ⟨by simp [h3.1], fun k u v hu hv => ?_⟩
  cases k with
  | zero => simp at hu hv; subst hu hv; exact ⟨h1, h2⟩
  | succ k => exact h3.2 k u v (by simpa using hu) (by simpa using hv)

theorem put_ok {d : TypeDesc} {k v v' : Value} (hk : aLookup.keyFits d k = true) (hkk : VR r k k) (hv : VR r v v') : ∀ (es : List (Value × Value)) (ents : List MapEntry) (i : Nat) (es' : List (Value × Value)), ERel r es ents → aPut k v es = some es' →
    (Instr.findNow d k ents i = some none ∧ ∀ b, ERel r es' (ents ++ [{ key := k, val := v', born := b }])) ∨
    (∃ j e, Instr.findNow d k ents i = some (some (i + j, e.val)) ∧ ents[j]? = some e ∧ e.key = k ∧ ERel r es' (ents.modify j fun e => { e with key := k, val := v' }))
  | [], ents, i, es', hr, hf => by
    have : ents = [] := List.eq_nil_of_length_eq_zero (by simpa using hr.1)
    subst this
    simp [aPut] at hf
    subst hf
    exact .inl ⟨rfl, fun b => ERel.cons hkk hv hr⟩
  | (x, u) :: es, [], i, es', hr, hf => by have := hr.1; simp at this
  | (x, u) :: es, e :: ents, i, es', hr, hf => by
    obtain ⟨h1, h2, h3⟩ := hr.tail
    have ih := put_ok hk hkk hv es ents (i + 1)
    unfold aPut at hf
    split at hf
    · rename_i p q
      have hkey : e.key = .string q := vr_string h1
      have hd : d = .string := by rcases keyFits_cases hk with ⟨s, h, _⟩ | ⟨j, m, _, h⟩ <;> first | exact h | cases h
      subst hd
      split at hf
      · rename_i hpq
        injection hf with hf; subst hf
        have hq : p = q := (sbeq_iff p q).1 hpq
        rw [sbeq_beq] at hpq
        refine .inr ⟨0, e, by simp [Instr.findNow, Instr.sameNow, hkey, hpq], rfl, by rw [hkey, hq], ?_⟩
        simpa using ERel.cons (y := { e with key := Value.string p, val := v' }) hkk hv h3
      · rename_i hpq
        rw [sbeq_beq] at hpq
        split at hf
        · rename_i es2 hes2
          injection hf with hf; subst hf
          rcases ih es2 h3 hes2 with ⟨i1, i2⟩ | ⟨j, e', i1, i2, i3, i4⟩
          · exact .inl ⟨by simp [Instr.findNow, Instr.sameNow, hkey, hpq, i1], fun b => ERel.cons h1 h2 (i2 b)⟩
          · refine .inr ⟨j + 1, e', by simp [Instr.findNow, Instr.sameNow, hkey, hpq, i1]; omega, by simpa using i2, i3, ?_⟩
            simpa using ERel.cons h1 h2 i4
        · cases hf
    · rename_i j p j' q
      have hkey : e.key = .int j' q := vr_int h1
      have hd : d = .int j := by
        rcases keyFits_cases hk with ⟨s, _, h⟩ | ⟨j2, m, h, h'⟩
        · cases h
        · injection h' with h1 h2; rw [h, h1]
      subst hd
      split at hf
      · rename_i hj hpq
        injection hf with hf; subst hf
        have hj : j = j' := by simpa using hj
        have hq : p = q := by simpa using hpq
        subst hj hq
        refine .inr ⟨0, e, by simp [Instr.findNow, Instr.sameNow, hkey], rfl, hkey, ?_⟩
        simpa using ERel.cons (y := { e with key := Value.int j p, val := v' }) hkk hv h3
      · rename_i hj hpq
        have hj : j = j' := by simpa using hj
        subst hj
        split at hf
        · rename_i es2 hes2
          injection hf with hf; subst hf
          rcases ih es2 h3 hes2 with ⟨i1, i2⟩ | ⟨j2, e', i1, i2, i3, i4⟩
          · exact .inl ⟨by simp [Instr.findNow, Instr.sameNow, hkey, hpq, i1], fun b => ERel.cons h1 h2 (i2 b)⟩
          · refine .inr ⟨j2 + 1, e', by simp [Instr.findNow, Instr.sameNow, hkey, hpq, i1]; omega, by simpa using i2, i3, ?_⟩
            simpa using ERel.cons h1 h2 i4
        · cases hf
      · cases hf
    · cases hf

theorem put_mem {k v : Value} : ∀ (es es' : List (Value × Value)), aPut k v es = some es' → ∀ x ∈ es', x ∈ es ∨ x = (k, v)
  | [], es', hf, x, hx => by simp [aPut] at hf; subst hf; simp at hx; exact .inr hx
  | (y, u) :: es, es', hf, x, hx => by
    unfold aPut at hf
    have go : ∀ es2, aPut k v es = some es2 → x ∈ (y, u) :: es2 → x ∈ (y, u) :: es ∨ x = (k, v) := fun es2 h2 hx => by
      rcases List.mem_cons.1 hx with rfl | hx
      · exact .inl (by simp)
      · rcases put_mem es es2 h2 x hx with h | h
        · exact .inl (by simp [h])
        · exact .inr h
    split at hf
    · split at hf
      · injection hf with hf; subst hf
        rcases List.mem_cons.1 hx with rfl | hx
        · exact .inr rfl
        · exact .inl (by simp [hx])
      · split at hf
        · rename_i es2 h2; injection hf with hf; subst hf; exact go es2 h2 hx
        · cases hf
    · split at hf
      · injection hf with hf; subst hf
        rcases List.mem_cons.1 hx with rfl | hx
        · exact .inr rfl
        · exact .inl (by simp [hx])
      · split at hf
        · rename_i es2 h2; injection hf with hf; subst hf; exact go es2 h2 hx
        · cases hf
      · cases hf
    · cases hf

def aMapUpdate (tb : Nat → Option TI) (h : AH) (t : TypeId) (m k v : Option Value) : Option AH := match tb t with
  | some ti => match ti.desc with
    | .map kt _ => match tb kt with
      | some ki => match m, k, v with
        | some (.map (some i)), some k, some v => match h.get i, aLookup.keyFits ki.desc k, Nat.blt i 1000000 with
          | some (.map es), true, true => match aPut k v es with
            | some es' => some (h.set i (.map es'))
            | none => none
          | _, _, _ => none
        | _, _, _ => none
      | none => none
    | _ => none
  | none => none

theorem mapUpdate_ok {o : Oper} {t : TypeId} {x y z : Operand} (ho : o.op = .mapUpdate t x y z ∨ o.op = .insert t x y z) (htb : TbOk P tb) (hv : aMapUpdate tb h t (ev x) (ev y) (ev z) = some h') (he : EvOk r h.n ev a) (hS : Sim P N r h w) :
    Eff P N r h w a o undef h' := by
  unfold aMapUpdate at hv
  split at hv
  · rename_i ti hti
    split at hv
    · rename_i kt et hd
      split at hv
      · rename_i ki hki
        split at hv
        · rename_i i k v hm hk hvv
          obtain ⟨bmr, hmr⟩ := he x _ hm
          obtain ⟨bkr, hkr⟩ := he y _ hk
          obtain ⟨bvr, hvr⟩ := he z _ hvv
          split at hv
          · rename_i es hi hfit hin
            split at hv
            · rename_i es' hes'
              injection hv with hv; subst hv
              have hin : i < 1000000 := by simpa using hin
              have hke := keyFits_vr hfit hkr
              have hisk := keyFits_isKey hfit
              have hut := run_underlying (htb _ _ hti).und w
              rw [hd] at hut
              have huk := (htb _ _ hki).und
              have hck := fun e => MapKept.run_checkKey (w := w) huk hisk e 9999
              generalize hg : a.eval x = xv at hmr
              cases hmr
              obtain ⟨ents, clock, q1, q2, q3⟩ := hS.blk i _ hi
              have hrel : ERel r es ents.toList := ⟨by simpa using q2, fun k u v hu hv => q3 k u v hu (by simpa using hv)⟩
              have hkk : VR r k k := by rw [hke] at hkr; exact hkr
              have hbel : ∀ x ∈ es', Bel h.n x.1 ∧ Bel h.n x.2 := fun u hu => by
                rcases put_mem es es' hes' u hu with h | h
                · exact hS.bel i _ hi u h
                · subst h; exact ⟨bkr, bvr⟩
              have hlow := hS.lowm i _ hi
              rcases put_ok hfit hkk hvr es ents.toList 0 es' hrel hes' with ⟨f1, f2⟩ | ⟨j, e, f1, f2, f3, f4⟩
              · have hfk := MapKept.run_findKey (w := w) huk f1
                obtain ⟨g1, g2⟩ := MapKept.heap_set (o' := .map (ents.push { key := k, val := a.eval z, born := clock }) (clock + 1)) q1
                refine ⟨r, undef, { w with heap := w.heap.setIfInBounds (r.φ i) (.map (ents.push { key := k, val := a.eval z, born := clock }) (clock + 1)) }, Ren.ext.refl r h.n, Nat.le_refl _, hS.updm hi hin hbel g1 (by simpa using f2 clock) g2 (by simp),
                  ⟨rfl, rfl, rfl, by simp, fun k hk => g2 k (fun e => hlow (e ▸ hk))⟩, bel_undef, vr_undef, .inr ⟨?_, rfl, rfl⟩⟩
                rcases ho with ho | ho <;> simp [execOp, ho, hg, hke, Instr.mapUpdate, Sem.run_bind, hut, MapKept.run_getObj_map q1, hck, hfk, MapKept.run_setObj_map _ q1]
              · have hfk := MapKept.run_findKey (w := w) huk f1
                have hej : ents[j]? = some e := by simpa using f2
                obtain ⟨g1, g2⟩ := MapKept.heap_set (o' := .map (ents.modify j fun e => { e with key := k, val := a.eval z }) clock) q1
                refine ⟨r, undef, { w with heap := w.heap.setIfInBounds (r.φ i) (.map (ents.modify j fun e => { e with key := k, val := a.eval z }) clock) }, Ren.ext.refl r h.n, Nat.le_refl _, hS.updm hi hin hbel g1 (by simpa using f4) g2 (by simp),
                  ⟨rfl, rfl, rfl, by simp, fun k hk => g2 k (fun e => hlow (e ▸ hk))⟩, bel_undef, vr_undef, .inr ⟨?_, rfl, rfl⟩⟩
                rcases ho with ho | ho <;> simp [execOp, ho, hg, hke, Instr.mapUpdate, Sem.run_bind, hut, MapKept.run_getObj_map q1, hck, hfk, hej, f3, MapKept.run_keyThatStays hisk, MapKept.run_setObj_map _ q1]
            · cases hv
          · cases hv
        · cases hv
      · cases hv
    · cases hv
  · cases hv

/-! ### Composite values -/
theorem foldSet_rel (off : Nat) : ∀ (l l' : List (Value × Nat)) (c c' : Array Value), l.length = l'.length → (∀ (k : Nat) x y, l[k]? = some x → l'[k]? = some y → VR r x.1 y.1 ∧ x.2 = y.2) → VRs r c.toList c'.toList →
    VRs r (l.foldl (fun cs (p : Value × Nat) => cs.setIfInBounds (off + p.2) p.1) c).toList (l'.foldl (fun cs (p : Value × Nat) => cs.setIfInBounds (off + p.2) p.1) c').toList
  | [], [], c, c', _, _, hc => hc
  | x :: l, y :: l', c, c', hl, h, hc => by
    simp only [List.foldl_cons]
    obtain ⟨h1, h2⟩ := h 0 x y rfl rfl
    refine foldSet_rel off l l' _ _ (by simpa using hl) (fun k u v hu hv => h (k + 1) u v (by simpa using hu) (by simpa using hv)) ⟨by simpa using hc.1, fun k u v hu hv => ?_⟩
    rw [Array.toList_setIfInBounds, List.getElem?_set] at hu hv
    rw [h2] at hu
    split at hu
    · rename_i hk
      rw [if_pos hk] at hv
      split at hu
      · rename_i hlt
        have hlt' : off + y.2 < c'.toList.length := by rw [← hc.1]; exact hlt
        rw [if_pos hlt'] at hv
        injection hu with hu; injection hv with hv
        subst hu hv
        exact h1
      · cases hu
    · rename_i hk
      rw [if_neg hk] at hv
      exact hc.2 k u v hu hv

def PRel (r : Ren) : List (Nat × Value) → List (Nat × Value) → Prop
  | [], [] => True
  | x :: xs, y :: ys => x.1 = y.1 ∧ VR r x.2 y.2 ∧ PRel r xs ys
  | _, _ => False

theorem fill_rel (place : Nat → Option (Nat × Nat)) : ∀ (ps ps' : List (Nat × Value)) (c c' res : Array Value), PRel r ps ps' → VRs r c.toList c'.toList → Instr.fill place c ps = some res →
    ∃ res', Instr.fill place c' ps' = some res' ∧ VRs r res.toList res'.toList
  | [], [], c, c', res, _, hc, hf => by simp [Instr.fill] at hf; subst hf; exact ⟨c', rfl, hc⟩
  | [], _ :: _, _, _, _, h, _, _ => h.elim
  | _ :: _, [], _, _, _, h, _, _ => h.elim
  | (i, v) :: ps, (i', v') :: ps', c, c', res, h, hc, hf => by
    obtain ⟨h1, h2, h3⟩ := h
    simp only at h1 h2
    subst h1
    have hvc := vr_cells h2
    have hsz : v.cells.size = v'.cells.size := by rw [cellsOf_eq, cellsOf_eq]; simpa using hvc.1
    have hcs : c.size = c'.size := by simpa using hc.1
    unfold Instr.fill at hf ⊢
    split at hf
    · cases hf
    · rename_i off size hp
      rw [← hsz, ← hcs]
      split at hf
      · cases hf
      · rename_i hcond
        simp only [hcond, if_false]
        refine fill_rel place ps ps' _ _ res h3 ?_ hf
        have e1 : ∀ (u : Value) (d : Array Value), u.cells.zipIdx.foldl (fun cs (x : Value × Nat) => match x with | (c, j) => cs.setIfInBounds (off + j) c) d = ((cellsOf u).zipIdx).foldl (fun cs (p : Value × Nat) => cs.setIfInBounds (off + p.2) p.1) d := by
          intro u d
          rw [cellsOf_eq, ← Array.foldl_toList]
          simp
        rw [e1, e1]
        refine foldSet_rel off _ _ c c' (by simp [hvc.1]) (fun k x y hx hy => ?_) hc
        simp only [List.getElem?_zipIdx, Option.map_eq_some_iff] at hx hy
        obtain ⟨x0, hx0, rfl⟩ := hx
        obtain ⟨y0, hy0, rfl⟩ := hy
        exact ⟨hvc.2 k x0 y0 hx0 hy0, rfl⟩
end
end Go.Proofs.YtledghdlcdgepaaGreatDoor
