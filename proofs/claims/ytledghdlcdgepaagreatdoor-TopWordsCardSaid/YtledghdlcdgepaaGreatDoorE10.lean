/- A verified abstract interpreter, part 10: append. -/
import Derived.Test.YtledghdlcdgepaaGreatDoorE9
noncomputable section
namespace Go.Proofs.YtledghdlcdgepaaGreatDoor
set_option linter.unusedVariables false
set_option linter.unusedSimpArgs false
open Go.RowKit

section
variable {P : Program} {tb : Nat → Option TI} {r : Ren} {n : Nat} {N : Nat → Prop} {a : Act} {ev : Operand → Option Value} {h h' : AH} {w : World}

theorem Sim.heap {w' : World} (hS : Sim P N r h w) (hw : w'.heap = w.heap) : Sim P N r h w' := by
  refine ⟨fun i b hb => ?_, hS.lt, hS.bel, hS.low, hS.lowm, hS.excl, hS.exclm, hS.tip, by rw [hw]; exact hS.size⟩
  exact (hS.blk i b hb).ext (Ren.ext.refl r h.n) (hS.lt i b hb) (hS.bel i b hb) (by rw [hw])

/-- What is known of a row is weakened. -/
theorem Sim.weaken (hS : Sim P N r h w) {i : Nat} {cs : List Value} {e : TypeId} {x : List Nat} {t : Bool} (hi : h.get i = some (.cells cs e x t)) (hin : i < 1000000) : Sim P N r (h.set i (.cells cs e [] false)) w := by
  have hget := AH.get_set (h := h) (b := .cells cs e [] false) hin
  refine ⟨fun j c hc => ?_, fun j c hc => ?_, fun j c hc => ?_, fun j cs2 e2 x2 t2 hc hx => ?_, fun j es hc => ?_, fun i2 cs2 e2 t2 hc j c hj hne heq => ?_, fun i2 es hc j c hj hne => ?_, fun i2 cs2 e2 x2 hc j cs3 e3 x3 t3 hj hφj => ?_, hS.size⟩
  · rw [hget] at hc
    split at hc
    · rename_i hj; injection hc with hc; subst hj hc
      obtain ⟨arr, inf, ⟨fz, q1, _⟩, q⟩ := hS.blk _ _ hi
      exact ⟨arr, inf, ⟨fz, q1, fun hh => by cases hh⟩, q⟩
    · exact hS.blk j c hc
  · rw [hget] at hc
    split at hc
    · rename_i hj; subst hj; exact hS.lt _ _ hi
    · exact hS.lt j c hc
  · rw [hget] at hc
    split at hc
    · injection hc with hc; subst hc; exact fun v hv => (hS.bel i _ hi) v hv
    · exact hS.bel j c hc
  · rw [hget] at hc
    split at hc
    · injection hc with hc; injection hc with _ _ h3 h4; subst h4; cases hx
    · exact hS.low j cs2 e2 x2 t2 hc hx
  · rw [hget] at hc
    split at hc
    · cases hc
    · exact hS.lowm j es hc
  · rw [hget] at hc hj
    split at hc
    · injection hc with hc; injection hc with _ _ h3 h4; cases h4
    · rename_i hi2
      split at hj
      · rename_i hj2; subst hj2; exact hS.excl i2 cs2 e2 t2 hc _ _ hi (fun e => hi2 e.symm) heq
      · exact hS.excl i2 cs2 e2 t2 hc j c hj hne heq
  · rw [hget] at hc hj
    split at hc
    · cases hc
    · rename_i hi2
      split at hj
      · rename_i hj2; subst hj2; exact hS.exclm i2 es hc _ _ hi (fun e => hi2 e.symm)
      · exact hS.exclm i2 es hc j c hj hne
  · rw [hget] at hc hj
    split at hc
    · injection hc with hc; injection hc with _ _ h3 h4; cases h4
    · split at hj
      · rename_i hj2
        subst hj2
        injection hj with hj
        injection hj with h1 h2 h3 h4
        subst h1 h4
        exact ⟨(hS.tip i2 cs2 e2 x2 hc _ _ _ _ _ hi hφj).1, fun hc => by cases hc⟩
      · exact hS.tip i2 cs2 e2 x2 hc j cs3 e3 x3 t3 hj hφj

/-- A row grows in place: the longer row has an id of its own. -/
theorem Sim.grow (hS : Sim P N r h w) {i : Nat} {cs new : List Value} {e : TypeId} {x : List Nat} (hi : h.get i = some (.cells cs e x true)) (hn : h.n < 1000000) (hbel : ∀ v ∈ new, Bel h.n v)
    {w' : World} {arr arr' : Array Value} (hq : w.heap[r.φ i]? = some (.cells arr e (0, 0))) (hw : w'.heap[r.φ i]? = some (.cells arr' e (0, 0))) (hsz : arr'.size = arr.size) (hle : cs.length + new.length ≤ arr.size)
    (hold : ∀ k, k < cs.length → arr'[k]? = arr[k]?) (hnew : ∀ (k : Nat) (x y : Value), new[k]? = some x → arr'[cs.length + k]? = some y → VR r x y) (hoth : ∀ k, k ≠ r.φ i → w'.heap[k]? = w.heap[k]?) (hs : w'.heap.size = w.heap.size) :
    Sim P N (r.upd h.n (r.φ i) (r.κ i)) ((h.set i (.cells cs e [] false)).push (.cells (cs ++ new) e (i :: x) true)) w' := by
  have hin : i < h.n := hS.lt i _ hi
  have hin2 : i < 1000000 := by omega
  have hget := AH.get_set (h := h) (b := .cells cs e [] false) hin2
  have hn1 : (h.set i (.cells cs e [] false)).n = h.n := rfl
  have hg2 := AH.get_push (h := h.set i (.cells cs e [] false)) (b := .cells (cs ++ new) e (i :: x) true) (by rw [hn1]; exact hn)
  rw [hn1] at hg2
  have he := r.ext_upd h.n (r.φ i) (r.κ i)
  have hφ : (r.upd h.n (r.φ i) (r.κ i)).φ h.n = r.φ i := by simp [Ren.upd]
  have hκ : (r.upd h.n (r.φ i) (r.κ i)).κ h.n = r.κ i := by simp [Ren.upd]
  have hold2 : ∀ j c, h.get j = some c → (r.upd h.n (r.φ i) (r.κ i)).φ j = r.φ j ∧ j < h.n := fun j c hc => ⟨(he j (hS.lt j c hc)).1, hS.lt j c hc⟩
  obtain ⟨arr0, inf, ⟨fz, p1, p1f⟩, p2, p3, p4, p5⟩ := hS.blk i _ hi
  rw [hq] at p1
  injection p1 with p1
  injection p1 with p1
  subst p1
  -- an old row, in the new world
  have hrow : ∀ j c, h.get j = some c → BlkR P (r.upd h.n (r.φ i) (r.κ i)) j w' c := fun j c hc => by
    by_cases hj : r.φ j = r.φ i
    · cases c with
      | map es =>
        by_cases hji : j = i
        · subst hji; rw [hi] at hc; cases hc
        · exact absurd hj (fun hh => hS.exclm j es hc i _ hi (fun e => hji e.symm) hh.symm)
      | cells cs2 e2 x2 t2 =>
        obtain ⟨arr2, inf2, ⟨fz2, b1, b1f⟩, b2, b3, b4, b5⟩ := hS.blk j _ hc
        rw [hj, hq] at b1
        injection b1 with b1
        injection b1 with b1 b1e
        subst b1 b1e
        have hlen := (hS.tip i cs e x hi j cs2 _ x2 t2 hc hj).1
        obtain ⟨e1, e2⟩ := he j (hS.lt j _ hc)
        refine ⟨arr', inf2, ⟨_, by rw [e1, hj]; exact hw, fun _ => rfl⟩, b2, by rw [e2, hsz]; exact b3, by rw [hsz]; exact b4, fun k u v hu hv => ?_⟩
        have hk : k < cs.length := Nat.lt_of_lt_of_le (List.getElem?_eq_some_iff.1 hu).1 hlen
        rw [hold k hk] at hv
        exact (b5 k u v hu hv).ext he (hS.bel j _ hc u (List.mem_of_getElem? hu))
    · exact (hS.blk j c hc).ext he (hS.lt j c hc) (hS.bel j c hc) (hoth _ hj)
  have hweak := hS.weaken hi hin2
  refine ⟨fun j c hc => ?_, fun j c hc => ?_, fun j c hc => ?_, fun j cs2 e2 x2 t2 hc hx => ?_, fun j es hc => ?_, fun i2 cs2 e2 t2 hc j c hj hne heq => ?_, fun i2 es hc j c hj hne => ?_, fun i2 cs2 e2 x2 hc j cs3 e3 x3 t3 hj hφj => ?_, by rw [hs]; exact hS.size⟩
  · rw [hg2] at hc
    split at hc
    · rename_i hj
      injection hc with hc
      subst hj hc
      refine ⟨arr', inf, ⟨_, by rw [hφ]; exact hw, fun _ => rfl⟩, p2, by rw [hκ, hsz]; exact p3, by rw [hsz]; simpa using hle, fun k u v hu hv => ?_⟩
      rw [List.getElem?_append] at hu
      split at hu
      · rename_i hk
        rw [hold k hk] at hv
        exact (p5 k u v hu hv).ext he (hS.bel i _ hi u (List.mem_of_getElem? hu))
      · rename_i hk
        have := hnew (k - cs.length) u v hu (by rw [show cs.length + (k - cs.length) = k by omega]; exact hv)
        exact this.ext he (hbel u (List.mem_of_getElem? hu))
    · rw [hget] at hc
      split at hc
      · rename_i hj; injection hc with hc; subst hj hc
        obtain ⟨arr2, inf2, ⟨fz2, q1, _⟩, q⟩ := hrow _ _ hi
        exact ⟨arr2, inf2, ⟨fz2, q1, fun hh => by cases hh⟩, q⟩
      · exact hrow j c hc
  · rw [hg2] at hc
    show j < h.n + 1
    split at hc
    · omega
    · have := hweak.lt j c hc; rw [hn1] at this; omega
  · rw [hg2] at hc
    split at hc
    · injection hc with hc; subst hc
      intro v hv
      rcases List.mem_append.1 hv with hv | hv
      · exact (hS.bel i _ hi v hv).mono (Nat.le_succ _)
      · exact (hbel v hv).mono (Nat.le_succ _)
    · exact (hweak.bel j c hc).mono (Nat.le_succ _)
  · rw [hg2] at hc
    split at hc
    · rename_i hj; subst hj; rw [hφ]; exact hS.low i cs e x true hi rfl
    · have := hweak.lt j _ hc
      rw [(he j (by rw [hn1] at this; exact this)).1]
      exact hweak.low j cs2 e2 x2 t2 hc hx
  · rw [hg2] at hc
    split at hc
    · cases hc
    · have := hweak.lt j _ hc
      rw [(he j (by rw [hn1] at this; exact this)).1]
      exact hweak.lowm j es hc
  · rw [hg2] at hc hj
    split at hc
    · rename_i hi2n
      injection hc with hc; injection hc with _ _ h3 h4
      subst hi2n h3
      rw [if_neg hne] at hj
      have hlj := hweak.lt j _ hj
      rw [hn1] at hlj
      rw [hφ, (he j hlj).1] at heq
      by_cases hji : j = i
      · simp [hji]
      · rw [hget, if_neg hji] at hj
        exact List.mem_cons_of_mem _ (hS.excl i cs e x hi j c hj hji heq)
    · rename_i hi2n
      have hl2 := hweak.lt i2 _ hc
      rw [hn1] at hl2
      rw [(he i2 hl2).1] at heq
      rw [hget] at hc
      split at hc
      · injection hc with hc; injection hc with _ _ h3 h4; cases h4
      · rename_i hii
        split at hj
        · rename_i hjn
          subst hjn
          rw [hφ] at heq
          exact absurd ((hS.tip i cs e x hi i2 cs2 e2 t2 true hc heq.symm).2 rfl) hii
        · have hlj := hweak.lt j _ hj
          rw [hn1] at hlj
          rw [(he j hlj).1] at heq
          exact hweak.excl i2 cs2 e2 t2 (by rw [hget, if_neg hii]; exact hc) j c hj hne heq
  · rw [hg2] at hc hj
    split at hc
    · cases hc
    · rename_i hi2n
      have hl2 := hweak.lt i2 _ hc
      rw [hn1] at hl2
      rw [(he i2 hl2).1]
      split at hj
      · rename_i hjn
        subst hjn
        rw [hφ]
        by_cases hii : i = i2
        · subst hii; rw [hget] at hc; simp at hc
        · exact hweak.exclm i2 es hc i (.cells cs e [] false) (by rw [hget]; simp) hii
      · have hlj := hweak.lt j _ hj
        rw [hn1] at hlj
        rw [(he j hlj).1]
        exact hweak.exclm i2 es hc j c hj hne
  · rw [hg2] at hc hj
    split at hc
    · rename_i hi2n
      subst hi2n
      injection hc with hc
      injection hc with hc1
      subst hc1
      rw [hφ] at hφj
      split at hj
      · rename_i hjn; subst hjn; injection hj with hj; injection hj with hj1; subst hj1; exact ⟨Nat.le_refl _, fun _ => rfl⟩
      · rename_i hjn
        rw [hget] at hj
        split at hj
        · rename_i hji; injection hj with hj; injection hj with h1 h2 h3 h4; subst h1 h4; exact ⟨by simp, fun hc => by cases hc⟩
        · rename_i hji
          rw [(hold2 j _ hj).1] at hφj
          obtain ⟨t1, t2⟩ := hS.tip i cs e x hi j cs3 e3 x3 t3 hj hφj
          exact ⟨by simp; omega, fun hc => absurd (t2 hc) hji⟩
    · rename_i hi2n
      have hl2 := hweak.lt i2 _ hc
      rw [hn1] at hl2
      rw [(he i2 hl2).1] at hφj
      split at hj
      · rename_i hjn
        subst hjn
        rw [hφ] at hφj
        rw [hget] at hc
        split at hc
        · injection hc with hc; injection hc with _ _ h3 h4; cases h4
        · rename_i hii
          exact absurd ((hS.tip i cs e x hi i2 cs2 e2 x2 true hc hφj.symm).2 rfl) hii
      · have hlj := hweak.lt j _ hj
        rw [hn1] at hlj
        rw [(he j hlj).1] at hφj
        exact hweak.tip i2 cs2 e2 x2 hc j cs3 e3 x3 t3 hj hφj

theorem nextcap_le (need s : Nat) (h : s < need) : Builtin.nextslicecap need s ≤ 4 * need + 1000 := by
  unfold Builtin.nextslicecap
  split
  · omega
  · split
    · omega
    · have g : ∀ (k c : Nat), c < need → Builtin.growBy need k c ≤ 4 * need + 1000 := by
        intro k
        induction k with
        | zero => intro c hc; unfold Builtin.growBy; omega
        | succ k ih =>
          intro c hc
          unfold Builtin.growBy
          split
          · omega
          · by_cases h2 : c + (c + 768) / 4 < need
            · exact ih _ h2
            · cases k with
              | zero => unfold Builtin.growBy; omega
              | succ k => unfold Builtin.growBy; rw [if_pos (by omega)]; omega
      exact g 4 s h
end
end Go.Proofs.YtledghdlcdgepaaGreatDoor
