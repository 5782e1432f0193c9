/- A verified abstract interpreter, part 23: the meet of two states. -/
import Derived.Test.YtledghdlcdgepaaGreatDoorE22
noncomputable section
namespace Go.Proofs.YtledghdlcdgepaaGreatDoor
set_option linter.unusedVariables false
set_option linter.unusedSimpArgs false
open Go.RowKit

def dsB (n s m : Nat) : List (FuncId × List Value) → List (FuncId × List Value) → Bool
  | [], [] => true
  | (f, x) :: l, (g, y) :: k => match Nat.beq f g, veqs (vrn n s m 60) x y with
    | true, true => dsB n s m l k
    | _, _ => false
  | _, _ => false
theorem dsB_ok {n s m : Nat} {r : Ren} {n' : Nat} : ∀ (l k : List (FuncId × List Value)) (es : List Deferred), dsB n s m l k = true → DRs r n' k es → DRs (r.sh s m) n l es
  | [], [], [], _, _ => trivial
  | [], [], _ :: _, _, h => h.elim
  | [], _ :: _, es, h, _ => by simp [dsB] at h
  | _ :: _, [], es, h, _ => by simp [dsB] at h
  | _ :: _, _ :: _, [], _, h => h.elim
  | (f, x) :: l, (g, y) :: k, e :: es, h, hd => by
    unfold dsB at h
    split at h
    · rename_i c1 c2
      obtain ⟨⟨cap, args, h1, h2, h3, h4⟩, h5⟩ := hd
      obtain ⟨q1, q2⟩ := veqs_sh c2
      refine ⟨⟨cap, args, by rw [nat_beq_true.1 c1]; exact h1, h2, ⟨by rw [← h3.1]; exact q1, fun j u v hu hv => ?_⟩, fun u hu => ?_⟩, dsB_ok l k es h h5⟩
      · have hj : j < y.length := by rw [← q1]; exact (List.getElem?_eq_some_iff.1 hu).1
        exact (q2 j u _ hu (List.getElem?_eq_getElem hj)).2 r v (h3.2 j _ v (List.getElem?_eq_getElem hj) hv)
      · obtain ⟨j, hj, rfl⟩ := List.mem_iff_getElem.1 hu
        exact (q2 j _ _ (List.getElem?_eq_getElem hj) (List.getElem?_eq_getElem (by rw [← q1]; exact hj))).1
    · cases h

/-- What c and o agree on, ids of c shifted. -/
def meetSt (s m : Nat) (c o : St) : Option St := match Nat.ble s m, dsB c.h.n s m c.ds o.ds with
  | true, true => some ⟨filT (fun k v => match o.s.get k with
      | some v' => vrn c.h.n s m 60 v v'
      | none => false) 1 0 c.s, ⟨filT (fun i b => match Nat.blt i c.h.n, o.h.get (sh s m i) with
      | true, some b' => blkB c.h.n s m b b'
      | _, _ => false) 1 0 c.h.t, c.h.n⟩, c.ds⟩
  | _, _ => none

theorem meet_ok {P : Program} {N : Nat → Prop} {r : Ren} {nt s m : Nat} {c o st : St} {a : Act} {w : World} (hm : meetSt s m c o = some st) (hB : SB P N r nt o a w) : SB P N (r.sh s m) nt st a w ∧ st.h.n = c.h.n := by
  unfold meetSt at hm
  split at hm
  · rename_i c1 c2
    injection hm with hm
    subst hm
    refine ⟨⟨⟨hB.sa.sz, fun k v hk => ?_, hB.sa.sim.shift (by simpa using c1) fun i b hi => ?_⟩, dsB_ok _ _ _ c2 hB.df⟩, rfl⟩
    · obtain ⟨_, h2⟩ := filT_get _ _ _ _ _ hk
      rw [Nat.one_mul, Nat.add_zero] at h2
      split at h2
      · rename_i v' hv'
        obtain ⟨_, x, h3, h4⟩ := hB.sa.sl k v' hv'
        obtain ⟨h5, h6⟩ := vrn_ok _ _ _ h2
        exact ⟨h5, x, h3, h6 r x h4⟩
      · cases h2
    · obtain ⟨_, h2⟩ := filT_get _ _ _ _ _ hi
      rw [Nat.one_mul, Nat.add_zero] at h2
      split at h2
      · rename_i b' c3 hb'
        exact ⟨blt_iff.1 c3, b', hb', h2⟩
      · cases h2
  · cases hm
theorem sh_ext {r : Ren} {s m n : Nat} (h : n ≤ s) : r.ext (r.sh s m) n := fun i hi => by
  have : sh s m i = i := by rw [sh_eq, if_pos (by omega)]
  simp [Ren.sh, this]
end Go.Proofs.YtledghdlcdgepaaGreatDoor
