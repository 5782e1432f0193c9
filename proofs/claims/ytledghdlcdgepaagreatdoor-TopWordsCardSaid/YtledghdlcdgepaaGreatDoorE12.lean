/- A verified abstract interpreter, part 12: the operation append. -/
import Derived.Test.YtledghdlcdgepaaGreatDoorE11
noncomputable section
namespace Go.Proofs.YtledghdlcdgepaaGreatDoor
set_option linter.unusedVariables false
set_option linter.unusedSimpArgs false
open Go.RowKit

section
variable {P : Program} {tb : Nat → Option TI} {r : Ren} {n : Nat} {N : Nat → Prop} {a : Act} {ev : Operand → Option Value} {h h' : AH} {w : World}

def isIntD (d : TypeDesc) : Bool := match d with
  | .int _ => true
  | _ => false

def aAppend (tb : Nat → Option TI) (h : AH) (ts tx : TypeId) (s x : Option Value) : Option (Value × AH) := match tb ts, tb tx, s, x with
  | some ti, some xi, some s, some x => match ti.desc, isIntD xi.desc with
    | .slice e, false => match tb e with
      | some ei => match aNews h ei.sz x, Nat.blt 0 ei.sz, Nat.ble ei.bytes 1000, Nat.blt h.n 1000000 with
        | some (m, new), true, true, true => match s with
          | .slice none 0 0 => match Nat.beq m 0 with
            | true => some (s, h)
            | false => match Nat.blt m 1000000, allOne new with
              | true, true => some (.slice (some ⟨h.n, 0, none⟩) m unk, h.push (.cells new e [] true))
              | _, _ => none
          | .slice (some ⟨i, 0, none⟩) len cap => match Nat.beq m 0 with
            | true => match Nat.beq cap unk, Nat.ble len cap with
              | false, true => some (s, h)
              | _, _ => none
            | false => match h.get i, Nat.blt (len + m) 1000000, allOne new with
              | some (.cells cs e' ex tp), true, true => match Nat.beq e' e, Nat.beq cs.length (len * ei.sz) with
                | true, true => match Nat.beq cap len with
                  | true => some (.slice (some ⟨h.n, 0, none⟩) (len + m) unk, h.push (.cells (cs ++ new) e [] true))
                  | false => match Nat.beq cap unk, tp with
                    | true, true => some (.slice (some ⟨h.n, 0, none⟩) (len + m) unk, (h.set i (.cells cs e [] false)).push (.cells (cs ++ new) e (i :: ex) true))
                    | _, _ => none
                | _, _ => none
              | _, _, _ => none
          | _ => none
        | _, _, _, _ => none
      | none => none
    | _, _ => none
  | _, _, _, _ => none

theorem below_dr_alloc (hS : Sim P N r h w) (o : Obj) : Below N w ((World.dr w).alloc o) :=
  (show Below N w (World.dr w) from ⟨rfl, rfl, rfl, Nat.le_refl _, fun _ _ => rfl⟩).alloc (show ∀ k, N k → k < (World.dr w).heap.size from hS.size) o
theorem zcells_len (z : Array Value) (c : Nat) : (Builtin.zeroCells z c).size = c * z.size := by simp [Builtin.zeroCells]

/-- The row that an append makes. -/
theorem sim_new_row {e : TypeId} {ei : TI} (hei : TIok P e ei) (hS : Sim P N r h w) (hn : h.n < 1000000) {cs cs' : List Value} (hvr : VRs r cs cs') (hb : ∀ x ∈ cs, Bel h.n x) {need c : Nat} (hl : cs.length = need * ei.sz) (hc : need ≤ c) (ex : List Nat) (tp : Bool) :
    Sim P N (r.upd h.n w.heap.size c) (h.push (.cells cs e ex tp)) ((World.dr w).alloc (.cells (cs'.toArray ++ Builtin.zeroCells ei.zero.toArray (c - need)) e)) := by
  obtain ⟨inf, z1, z2, _, _⟩ := hei.info
  have hS2 : Sim P N r h (World.dr w) := hS.heap rfl
  have := hS2.new hn (.cells cs e ex tp) (.cells (cs'.toArray ++ Builtin.zeroCells ei.zero.toArray (c - need)) e) c ⟨cs'.toArray ++ Builtin.zeroCells ei.zero.toArray (c - need), inf, ⟨(0, 0), ?_, fun _ => rfl⟩, z1, ?_, ?_, ?_⟩ (fun x hx => (hb x hx).mono (Nat.le_succ _))
  · exact this
  · have e1 : (r.upd h.n (World.dr w).heap.size c).φ h.n = (World.dr w).heap.size := by simp [Ren.upd]
    rw [e1]
    exact (MapKept.heap_alloc (World.dr w) _).1
  · have e1 : (r.upd h.n (World.dr w).heap.size c).κ h.n = c := by simp [Ren.upd]
    rw [e1, z2, Array.size_append, zcells_len]
    have hzl := hei.zl
    simp only [List.size_toArray, hzl]
    rw [← hvr.1, hl, ← Nat.add_mul]
    congr 1
    omega
  · rw [Array.size_append, hvr.1]; simp
  · intro j x y hx hy
    have hj : j < cs'.length := by rw [← hvr.1]; exact (List.getElem?_eq_some_iff.1 hx).1
    rw [Array.getElem?_append_left (by simpa using hj)] at hy
    exact (hvr.2 j x y hx (by simpa using hy)).ext (r.ext_upd h.n _ c) (hb x (List.mem_of_getElem? hx))

theorem toArray_app (p q : List Value) (z : Array Value) : p.toArray ++ q.toArray ++ z = (p ++ q).toArray ++ z := by simp
theorem slU_new (m c : Nat) : VR (r.upd h.n w.heap.size c) (.slice (some ⟨h.n, 0, none⟩) m unk) (.slice (some ⟨w.heap.size, 0, none⟩) m c) := by
  have := VR.sliceU (r := r.upd h.n w.heap.size c) h.n m
  have f1 : (r.upd h.n w.heap.size c).φ h.n = w.heap.size := by simp [Ren.upd]
  have f2 : (r.upd h.n w.heap.size c).κ h.n = c := by simp [Ren.upd]
  rwa [f1, f2] at this

theorem append_ok {o : Oper} {c : Call} {ts tx : TypeId} {x y : Operand} (ho : o.op = .call c) (hc : c.callee = .builtin .append) (hargs : c.args = #[x, y]) (hts : c.argTypes = #[ts, tx]) (htb : TbOk P tb) {v : Value}
    (hv : aAppend tb h ts tx (ev x) (ev y) = some (v, h')) (he : EvOk r h.n ev a) (hS : Sim P N r h w) : Eff P N r h w a o v h' := by
  have hexec : ∀ u w', (Builtin.append_ #[ts, tx] o.type #[a.eval x, a.eval y]).run P w = .ok u w' → (execOp a.eval o).run P w = .ok (.value u) w' := fun u w' hu => by
    simp [execOp, ho, resolve, hc, hargs, hts, invoke, builtin, Sem.run_bind, hu]
  unfold aAppend at hv
  split at hv
  · rename_i ti xi s u hti hxi hs hu
    obtain ⟨bs, hsr⟩ := he x _ hs
    obtain ⟨bu, hur⟩ := he y _ hu
    split at hv
    · rename_i e hd hdx
      split at hv
      · rename_i ei hei
        split at hv
        · rename_i m new hnews c1 c2 c3
          have hsz : 0 < ei.sz := by simpa using c1
          have hby : ei.bytes ≤ 1000 := by simpa using c2
          have hn : h.n < 1000000 := by simpa using c3
          have hE := htb _ _ hei
          have hut := (htb _ _ hti).und
          rw [hd] at hut
          have hux := (htb _ _ hxi).und
          have hnx : ∀ k, xi.desc ≠ .int k := fun k hk => by rw [hk] at hdx; cases hdx
          obtain ⟨hlen, new', hnvr, hnl, hnew, hnb⟩ := news_ok hS hur hnews
          have hnl0 : new.length = m * ei.sz := by rw [hnvr.1]; exact hnl
          have hz : (match xi.desc with | .int _ => true | _ => false) = false := by cases hxd : xi.desc <;> first | rfl | exact absurd hxd (hnx _)
          split at hv
          · -- nil
            generalize hgs : a.eval x = xs at hsr hexec
            cases hsr
            split at hv
            · rename_i hm
              have hm : m = 0 := by simpa using hm
              subst hm
              injection hv with hv
              injection hv with hv1 hv2
              subst hv1 hv2
              refine ⟨r, .slice none 0 0, w, Ren.ext.refl r _, Nat.le_refl _, hS, Below.refl N w, .snil, .snil, .inl (hexec _ _ ?_)⟩
              have hso := hE.sizeOf w
              have hnw := hnew w rfl
              unfold Builtin.append_
              simp only [List.getElem?_toArray, List.getElem?_cons_zero, List.getElem?_cons_succ, Sem.run_bind, run_underlying hut, Result.andThen_ok, hso, run_underlying hux, Sem.run_pure, hlen, hz, Bool.false_eq_true, if_false, Bool.not_false, if_true, hnw]
              simp [hnw]
            · rename_i hm
              have hm : 0 < m := Nat.pos_of_ne_zero (nat_beq_false.1 hm)
              split at hv
              · rename_i c4 c5
                injection hv with hv
                injection hv with hv1 hv2
                subst hv1 hv2
                have c4 : m < 1000000 := by simpa using c4
                obtain ⟨cp, hcp, hrun⟩ := run_append_new (w := w) (ty := o.type) hE hut hux hnx (base := none) (sLen := 0) (sCap := 0) (old := []) hlen (fun w' _ => rfl) hnew (by omega) (by omega) hby
                simp only [Nat.zero_add] at hrun hcp
                rw [toArray_app] at hrun
                exact ⟨_, _, _, r.ext_upd h.n w.heap.size cp, Nat.le_succ _, sim_new_row hE hS hn hnvr hnb hnl0 hcp [] true, below_dr_alloc hS _, .slice _ _ _ _ (Nat.lt_succ_self _), slU_new m cp, .inl (hexec _ _ hrun)⟩
              · cases hv
          · rename_i i len cap
            have hsl : ∃ c', a.eval x = .slice (some ⟨r.φ i, 0, none⟩) len c' ∧ (cap ≠ unk → c' = cap) ∧ (cap = unk → c' = r.κ i) := by
              generalize a.eval x = xs at hsr
              cases hsr with
              | slice _ _ _ _ hc => exact ⟨_, rfl, fun _ => rfl, fun h => absurd h hc⟩
              | sliceU _ _ => exact ⟨_, rfl, fun h => absurd rfl h, fun _ => rfl⟩
            obtain ⟨c', hgs, hcap1, hcap2⟩ := hsl
            have hltI : i < h.n := by cases bs with | slice _ _ _ _ h => exact h
            split at hv
            · rename_i hm
              have hm : m = 0 := by simpa using hm
              subst hm
              split at hv
              · rename_i c4 c5
                injection hv with hv
                injection hv with hv1 hv2
                subst hv1 hv2
                have c4 : cap ≠ unk := nat_beq_false.1 c4
                have c5 : len ≤ cap := by simpa using c5
                have hcc := hcap1 c4
                subst hcc
                refine ⟨r, a.eval x, w, Ren.ext.refl r _, Nat.le_refl _, hS, Below.refl N w, bs, hsr, .inl (hexec _ _ ?_)⟩
                rw [hgs]
                have hso := hE.sizeOf w
                have hnw := hnew w rfl
                have hl0 : new' = [] := List.eq_nil_of_length_eq_zero (by simpa using hnl)
                subst hl0
                unfold Builtin.append_
                simp only [List.getElem?_toArray, List.getElem?_cons_zero, List.getElem?_cons_succ, Sem.run_bind, run_underlying hut, Result.andThen_ok, hso, run_underlying hux, Sem.run_pure, hlen, hz, Bool.false_eq_true, if_false, Bool.not_false, if_true, Nat.add_zero, c5, hnw]
                simp [hnw, storeCells]
              · cases hv
            · rename_i hm
              have hm : 0 < m := Nat.pos_of_ne_zero (nat_beq_false.1 hm)
              split at hv
              · rename_i cs e' ex tp hi c4 c5
                have c4 : len + m < 1000000 := by simpa using c4
                split at hv
                · rename_i c6 c7
                  have c6 : e' = e := by simpa using c6
                  subst c6
                  have c7 : cs.length = len * ei.sz := by simpa using c7
                  obtain ⟨old', q1, q2, q3, q4⟩ := first_cells (o := 0) (sz := ei.sz) (m := len) (c := c') hS hi (by omega)
                  rw [List.drop_zero, List.take_of_length_le (by omega)] at q1
                  have hvr2 := q1.append hnvr
                  have hbel2 : ∀ v ∈ cs ++ new, Bel h.n v := fun v hv => by
                    rcases List.mem_append.1 hv with hv | hv
                    · exact hS.bel i _ hi v hv
                    · exact hnb v hv
                  have hlen2 : (cs ++ new).length = (len + m) * ei.sz := by rw [List.length_append, c7, hnl0, Nat.add_mul]
                  split at hv
                  · rename_i c8
                    injection hv with hv
                    injection hv with hv1 hv2
                    subst hv1 hv2
                    have c8 : cap = len := by simpa using c8
                    have hcc : c' = len := by rw [hcap1 (by unfold unk; omega), c8]
                    rw [hcc] at hgs q3
                    obtain ⟨cp, hcp, hrun⟩ := run_append_new (w := w) (ty := o.type) hE hut hux hnx (base := some ⟨r.φ i, 0, none⟩) (sLen := len) (sCap := len) (old := old') hlen (fun w' hw => q3 w' hw) hnew (by omega) c4 hby
                    rw [toArray_app, ← hgs] at hrun
                    exact ⟨_, _, _, r.ext_upd h.n w.heap.size cp, Nat.le_succ _, sim_new_row hE hS hn hvr2 hbel2 hlen2 hcp [] true, below_dr_alloc hS _, .slice _ _ _ _ (Nat.lt_succ_self _), slU_new (len + m) cp, .inl (hexec _ _ hrun)⟩
                  · split at hv
                    · rename_i c9
                      injection hv with hv
                      injection hv with hv1 hv2
                      subst hv1 hv2
                      have c9 : cap = unk := by simpa using c9
                      have hcc : c' = r.κ i := hcap2 c9
                      subst hcc
                      have hi2 : i < 1000000 := by omega
                      by_cases hfit : len + m ≤ r.κ i
                      · -- in place
                        obtain ⟨arr, inf, ⟨fz, p1, p1f⟩, p2, p3, p4, p5⟩ := hS.blk i _ hi
                        obtain rfl := p1f rfl
                        obtain ⟨inf2, z1, z2, _, _⟩ := hE.info
                        rw [p2] at z1
                        injection z1 with z1
                        subst z1
                        rw [z2] at p3
                        have hfit2 : len * ei.sz + m * ei.sz ≤ arr.size := by rw [p3, ← Nat.add_mul]; exact Nat.mul_le_mul_right _ hfit
                        have hone : ∀ u ∈ new', u.oneCell' = true := fun u hu => by
                          obtain ⟨k, hk, rfl⟩ := List.mem_iff_getElem.1 hu
                          have hk2 : k < new.length := by rw [hnvr.1]; exact hk
                          exact vr_one (hnvr.2 k _ _ (List.getElem?_eq_getElem hk2) (List.getElem?_eq_getElem hk)) (allOne_mem _ c5 _ (List.getElem_mem hk2))
                        have hst := run_storeCells_at (P := P) (r.φ i) (0 + len * ei.sz) e' new' 0 arr w p1 (by rw [hnl]; omega) hone
                        obtain ⟨nw, hnw⟩ : ∃ nw : Array Value, nw = (arr.toList.take (0 + len * ei.sz + 0) ++ new' ++ arr.toList.drop (0 + len * ei.sz + 0 + new'.length)).toArray := ⟨_, rfl⟩
                        rw [← hnw] at hst
                        simp only [Nat.zero_add, Nat.add_zero, hnl] at hnw
                        have e2 : (arr.toList.take (len * ei.sz)).length = len * ei.sz := by simp; omega
                        have hg := hS.grow hi hn hnb p1 (setRow_heap w _ arr nw e' (0, 0) p1) (by rw [hnw]; simp; omega) (by rw [c7, hnl0]; exact hfit2) (fun k hk => by
                            rw [c7] at hk
                            rw [hnw, List.getElem?_toArray, List.append_assoc, List.getElem?_append_left (by omega), List.getElem?_take, if_pos hk]
                            simp) (fun k u z hu hz => by
                            have hk : k < new.length := (List.getElem?_eq_some_iff.1 hu).1
                            rw [hnw, List.getElem?_toArray, List.append_assoc, List.getElem?_append_right (by omega), e2, c7, Nat.add_sub_cancel_left, List.getElem?_append_left (by rw [← hnvr.1]; exact hk)] at hz
                            exact hnvr.2 k u z hu hz) (fun k hk => setRow_other w _ k _ hk) (setRow_size w _ _)
                        refine ⟨_, .slice (some ⟨r.φ i, 0, none⟩) (len + m) (r.κ i), _, r.ext_upd h.n (r.φ i) (r.κ i), Nat.le_succ _, hg, ⟨rfl, rfl, rfl, by simp, fun k hk => setRow_other w _ k _ (fun e => hS.low i _ _ _ _ hi rfl (e ▸ hk))⟩, .slice _ _ _ _ (Nat.lt_succ_self _), ?_, .inl (hexec _ _ ?_)⟩
                        · have := VR.sliceU (r := r.upd h.n (r.φ i) (r.κ i)) h.n (len + m)
                          have f1 : (r.upd h.n (r.φ i) (r.κ i)).φ h.n = r.φ i := by simp [Ren.upd]
                          have f2 : (r.upd h.n (r.φ i) (r.κ i)).κ h.n = r.κ i := by simp [Ren.upd]
                          rwa [f1, f2] at this
                        · rw [hgs]
                          have hso := hE.sizeOf w
                          have hnw2 := hnew w rfl
                          unfold Builtin.append_
                          simp only [List.getElem?_toArray, List.getElem?_cons_zero, List.getElem?_cons_succ, Sem.run_bind, run_underlying hut, Result.andThen_ok, hso, run_underlying hux, Sem.run_pure, hlen, hz, Bool.false_eq_true, if_false, Bool.not_false, if_true, hfit, hnw2, Addr.add_mid]
                          simp [hnw2, Addr.add_mid, hst]
                          simp at hst
                          simp [hst]
                      · -- moved
                        obtain ⟨cp, hcp, hrun⟩ := run_append_new (w := w) (ty := o.type) hE hut hux hnx (base := some ⟨r.φ i, 0, none⟩) (sLen := len) (sCap := r.κ i) (old := old') hlen (fun w' hw => q3 w' hw) hnew (by omega) c4 hby
                        rw [toArray_app, ← hgs] at hrun
                        have hw1 := hS.weaken hi hi2
                        have hsn := sim_new_row (h := h.set i (.cells cs e' [] false)) hE hw1 hn hvr2 hbel2 hlen2 hcp (i :: ex) true
                        exact ⟨_, _, _, r.ext_upd h.n w.heap.size cp, Nat.le_succ _, hsn, below_dr_alloc hS _, .slice _ _ _ _ (Nat.lt_succ_self _), slU_new (len + m) cp, .inl (hexec _ _ hrun)⟩
                    · cases hv
                · cases hv
              · cases hv
          · cases hv
        · cases hv
      · cases hv
    · cases hv
  · cases hv
end
end Go.Proofs.YtledghdlcdgepaaGreatDoor
