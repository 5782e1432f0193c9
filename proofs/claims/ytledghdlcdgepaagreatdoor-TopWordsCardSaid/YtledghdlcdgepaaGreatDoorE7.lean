/- A verified abstract interpreter, part 7: look-ups and updates of maps. -/
import Derived.Test.YtledghdlcdgepaaGreatDoorE6
noncomputable section
namespace Go.Proofs.YtledghdlcdgepaaGreatDoor
set_option linter.unusedVariables false
set_option linter.unusedSimpArgs false
open Go.RowKit

section
variable {P : Program} {tb : Nat → Option TI} {r : Ren} {n : Nat} {N : Nat → Prop} {a : Act} {ev : Operand → Option Value} {h h' : AH} {w : World}

def ERel (r : Ren) (es : List (Value × Value)) (ents : List MapEntry) : Prop :=
  ents.length = es.length ∧ ∀ (k : Nat) (x : Value × Value) (y : MapEntry), es[k]? = some x → ents[k]? = some y → VR r x.1 y.key ∧ VR r x.2 y.val

theorem ERel.tail {x : Value × Value} {y : MapEntry} {es : List (Value × Value)} {ents : List MapEntry} (hr : ERel r (x :: es) (y :: ents)) : VR r x.1 y.key ∧ VR r x.2 y.val ∧ ERel r es ents := by
  have h1 := hr.2 0 x y rfl rfl
  exact ⟨h1.1, h1.2, by simpa using hr.1, fun k u v hu hv => hr.2 (k + 1) u v (by simpa using hu) (by simpa using hv)⟩

theorem keyFits_cases {d : TypeDesc} {k : Value} (hk : aLookup.keyFits d k = true) : (∃ s, d = .string ∧ k = .string s) ∨ (∃ j m, d = .int j ∧ k = .int j m) := by
  unfold aLookup.keyFits at hk
  split at hk
  · exact .inl ⟨_, rfl, rfl⟩
  · rename_i j j' m
    have : j' = j := by simpa using hk
    subst this
    exact .inr ⟨_, _, rfl, rfl⟩
  · cases hk
theorem keyFits_vr {d : TypeDesc} {k k' : Value} (hk : aLookup.keyFits d k = true) (hv : VR r k k') : k' = k := by
  rcases keyFits_cases hk with ⟨s, _, rfl⟩ | ⟨j, m, _, rfl⟩ <;> cases hv <;> rfl
theorem keyFits_isKey {d : TypeDesc} {k : Value} (hk : aLookup.keyFits d k = true) : MapKept.IsKey d k := by
  rcases keyFits_cases hk with ⟨s, rfl, rfl⟩ | ⟨j, m, rfl, rfl⟩ <;> simp [MapKept.IsKey]

theorem beq_bytes (p q : ByteArray) : (p == q) = true ↔ p = q := by
  constructor
  · intro h
    obtain ⟨res, hr, hiff⟩ := MapKept.sameNow_of_keys (d := .string) (a := .string p) (b := .string q) trivial trivial
    simp [Instr.sameNow] at hr
    have := hiff.1 (by rw [← hr]; exact h)
    injection this
  · intro h; subst h
    obtain ⟨res, hr, hiff⟩ := MapKept.sameNow_of_keys (d := .string) (a := .string p) (b := .string p) trivial trivial
    simp [Instr.sameNow] at hr
    rw [hr]; exact hiff.2 rfl
theorem sbeq_beq (p q : ByteArray) : sbeq p q = (p == q) := by rw [Bool.eq_iff_iff, sbeq_iff, beq_bytes]

theorem find_ok {d : TypeDesc} {k : Value} (hk : aLookup.keyFits d k = true) : ∀ (es : List (Value × Value)) (ents : List MapEntry) (i : Nat) (res : Option Value), ERel r es ents → aFind k es = some res →
    (res = none → Instr.findNow d k ents i = some none) ∧ (∀ v, res = some v → ∃ j v' x, Instr.findNow d k ents i = some (some (i + j, v')) ∧ VR r v v' ∧ es[j]? = some (x, v) ∧ x = k)
  | [], ents, i, res, hr, hf => by
    have : ents = [] := List.eq_nil_of_length_eq_zero (by simpa using hr.1)
    subst this
    simp [aFind] at hf
    subst hf
    exact ⟨fun _ => rfl, fun v hv => by cases hv⟩
  | (x, v) :: es, [], i, res, hr, hf => by have := hr.1; simp at this
  | (x, v) :: es, e :: ents, i, res, hr, hf => by
    obtain ⟨h1, h2, h3⟩ := hr.tail
    have ih := find_ok hk es ents (i + 1) res h3
    unfold aFind at hf
    split at hf
    · rename_i p q
      have hkey : e.key = .string q := vr_string h1
      have hd : d = .string := by rcases keyFits_cases hk with ⟨s, h, _⟩ | ⟨j, m, _, h⟩ <;> first | exact h | cases h
      subst hd
      split at hf
      · rename_i hpq
        injection hf with hf; subst hf
        have hq : p = q := (sbeq_iff p q).1 hpq
        rw [sbeq_beq] at hpq
        refine ⟨fun hc => (by cases hc), fun u hu => ?_⟩
        injection hu with hu; subst hu
        exact ⟨0, e.val, _, by simp [Instr.findNow, Instr.sameNow, hkey, hpq], h2, rfl, by rw [hq]⟩
      · rename_i hpq
        rw [sbeq_beq] at hpq
        obtain ⟨i1, i2⟩ := ih hf
        refine ⟨fun hc => by simp [Instr.findNow, Instr.sameNow, hkey, hpq, i1 hc], fun u hu => ?_⟩
        obtain ⟨j, v', x2, a1, a2, a3, a4⟩ := i2 u hu
        exact ⟨j + 1, v', x2, by simp [Instr.findNow, Instr.sameNow, hkey, hpq, a1]; omega, a2, by simpa using a3, a4⟩
    · rename_i j p j' q
      have hkey : e.key = .int j' q := vr_int h1
      have hd : d = .int j := by
        rcases keyFits_cases hk with ⟨s, _, h⟩ | ⟨j2, m, h, h'⟩
        · cases h
        · injection h' with h1 h2; rw [h, h1]
      subst hd
      split at hf
      · rename_i hj hpq
        injection hf with hf; subst hf
        have hj : j = j' := by simpa using hj
        have hq : p = q := by simpa using hpq
        subst hj hq
        refine ⟨fun hc => (by cases hc), fun u hu => ?_⟩
        injection hu with hu; subst hu
        exact ⟨0, e.val, _, by simp [Instr.findNow, Instr.sameNow, hkey], h2, rfl, rfl⟩
      · rename_i hj hpq
        have hj : j = j' := by simpa using hj
        subst hj
        obtain ⟨i1, i2⟩ := ih hf
        refine ⟨fun hc => by simp [Instr.findNow, Instr.sameNow, hkey, hpq, i1 hc], fun u hu => ?_⟩
        obtain ⟨j2, v', x2, a1, a2, a3, a4⟩ := i2 u hu
        exact ⟨j2 + 1, v', x2, by simp [Instr.findNow, Instr.sameNow, hkey, hpq, a1]; omega, a2, by simpa using a3, a4⟩
      · cases hf
    · cases hf

theorem zero_ok {ti : TI} {t : TypeId} (hti : TIok P t ti) {z : Value} (hz : (match ti.desc.isRow, ti.zero with
      | true, z => some (Value.agg z.toArray)
      | false, [z] => some z
      | false, _ => none) = some z) : (∀ w, (zeroValue t).run P w = .ok z w) ∧ IsLit z := by
  obtain ⟨inf, z1, z2, z3, z0, z4, z5, z6, z7⟩ := hti.info
  have hrun : ∀ w, (zeroValue t).run P w = .ok z0 w := fun w => by simp [zeroValue, typeInfo, Sem.run_bind, z1, z4]
  split at hz
  · rename_i zz hrow
    injection hz with hz; subst hz
    rw [z6 hrow] at hrun
    refine ⟨hrun, fun r n => ⟨mk_agg (lits_vrs hti.lit), .agg _ fun k x hx => (hti.lit x (List.mem_of_getElem? hx) r n).2⟩⟩
  · rename_i zz hrow hzz
    injection hz with hz; subst hz
    have := z7 hrow
    rw [hzz] at this
    injection this with this
    subst this
    exact ⟨hrun, hti.lit _ (by rw [hzz]; simp)⟩
  · cases hz

theorem lookup_ok {o : Oper} {t : TypeId} {x y : Operand} {ok : Bool} (ho : o.op = .lookup t x y ok) (htb : TbOk P tb) {v : Value} (hv : aLookup tb ev h t x y ok = some v) (he : EvOk r h.n ev a) (hS : Sim P N r h w) :
    Bel h.n v ∧ ∃ v', VR r v v' ∧ (execOp a.eval o).run P w = .ok (.value v') w := by
  unfold aLookup at hv
  split at hv
  · rename_i ti hti
    split at hv
    · rename_i kt et hd
      split at hv
      · rename_i ki ei hki hei
        split at hv
        · rename_i m k hm hk
          obtain ⟨bmr, hmr⟩ := he x _ hm
          obtain ⟨bkr, hkr⟩ := he y _ hk
          clear bmr bkr
          split at hv
          · rename_i es hes hfit
            have hke := keyFits_vr hfit hkr
            have hisk := keyFits_isKey hfit
            have hut := run_underlying (htb _ _ hti).und w
            rw [hd] at hut
            have huk := (htb _ _ hki).und
            have hck := fun e => MapKept.run_checkKey (w := w) huk hisk e 9999
            -- the entries in the world
            obtain ⟨ents, hrel, hbel, hget⟩ : ∃ ents : Array MapEntry, ERel r es ents.toList ∧ (∀ x ∈ es, Bel h.n x.1 ∧ Bel h.n x.2) ∧
                ((a.eval x = .map none ∧ ents = #[]) ∨ ∃ b clock, a.eval x = .map (some b) ∧ w.heap[b]? = some (.map ents clock)) := by
              split at hes
              · injection hes with hes; subst hes
                generalize hg : a.eval x = xv at hmr
                cases hmr
                exact ⟨#[], ⟨rfl, fun k u v hu => by simp at hu⟩, by simp, .inl ⟨rfl, rfl⟩⟩
              · rename_i i
                generalize hg : a.eval x = xv at hmr
                cases hmr
                split at hes
                · rename_i es2 hi
                  injection hes with hes; subst hes
                  obtain ⟨ents, clock, q1, q2, q3⟩ := hS.blk i _ hi
                  refine ⟨ents, ⟨by simpa using q2, fun k u v hu hv => q3 k u v hu (by simpa using hv)⟩, hS.bel i _ hi, .inr ⟨_, clock, rfl, q1⟩⟩
                · cases hes
              · cases hes
            split at hv
            · rename_i v0 z hf hz
              injection hv with hv; subst hv
              obtain ⟨_, hfo⟩ := find_ok hfit es ents.toList 0 _ hrel hf
              obtain ⟨j, v', x2, f1, f2, f3, _⟩ := hfo v0 rfl
              have hfk := MapKept.run_findKey (w := w) huk f1
              have hb := (hbel _ (List.mem_of_getElem? f3)).2
              have hrun : (Instr.lookup t (a.eval x) k ok).run P w = .ok (if ok then .tuple #[v', .bool true] else v') w := by
                rcases hget with ⟨hg1, hg2⟩ | ⟨b, clock, hg1, hg2⟩
                · subst hg2
                  simp at hfk
                  simp [Instr.lookup, hg1, Sem.run_bind, hut, hck, hfk]
                · simp [Instr.lookup, hg1, Sem.run_bind, hut, MapKept.run_getObj_map hg2, hck, hfk]
              refine ⟨?_, _, ?_, by simp [execOp, ho, hke, Sem.run_bind, hrun]; rfl⟩
              · cases ok
                · exact hb
                · exact .tuple [v0, .bool true] fun k u hu => by
                    match k, hu with
                    | 0, hu => simp at hu; subst hu; exact hb
                    | 1, hu => simp at hu; subst hu; exact .bool _
                    | k + 2, hu => simp at hu
              · cases ok
                · exact f2
                · exact mk_tuple (VRs.cons f2 (VRs.cons (.bool _) VRs.nil))
            · rename_i z hf hz
              injection hv with hv; subst hv
              obtain ⟨hfo, _⟩ := find_ok hfit es ents.toList 0 _ hrel hf
              have hfk := MapKept.run_findKey (w := w) huk (hfo rfl)
              obtain ⟨zr, zl⟩ := zero_ok (htb _ _ hei) hz
              have hrun : (Instr.lookup t (a.eval x) k ok).run P w = .ok (if ok then .tuple #[z, .bool false] else z) w := by
                rcases hget with ⟨hg1, hg2⟩ | ⟨b, clock, hg1, hg2⟩
                · subst hg2
                  simp at hfk
                  simp [Instr.lookup, hg1, Sem.run_bind, hut, hck, hfk, zr w]
                · simp [Instr.lookup, hg1, Sem.run_bind, hut, MapKept.run_getObj_map hg2, hck, hfk, zr w]
              refine ⟨?_, _, ?_, by simp [execOp, ho, hke, Sem.run_bind, hrun]; rfl⟩
              · cases ok
                · exact (zl r h.n).2
                · exact .tuple [z, .bool false] fun k u hu => by
                    match k, hu with
                    | 0, hu => simp at hu; subst hu; exact (zl r h.n).2
                    | 1, hu => simp at hu; subst hu; exact .bool _
                    | k + 2, hu => simp at hu
              · cases ok
                · exact (zl r h.n).1
                · exact mk_tuple (VRs.cons (zl r h.n).1 (VRs.cons (.bool _) VRs.nil))
            · cases hv
          · cases hv
        · cases hv
      · cases hv
    · cases hv
  · cases hv
end
end Go.Proofs.YtledghdlcdgepaaGreatDoor
