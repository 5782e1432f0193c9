/- The invariant of Solve's loops over memory. -/
import Derived.Test.YtkdgeahfmmfopaaA9
namespace Go.Proofs.Ytkdgeahfmmfopaa
set_option linter.unusedVariables false
set_option linter.unusedSimpArgs false
open Go.RowKit

structure Inv (n m : Nat) (l : List Con) (B G8 GH : Nat) (LV : Value) (w0 wr : World) (st : St) (v hv : Value) : Prop where
  ov : wr.ownsRow B 3 1 v (n + 1) (ints st.v)
  oh : wr.ownsRow B 52 3 hv st.hb.length (bdCells st.hb)
  od : wr.ownsRow B 4 1 (.slice (some ⟨GH, 0, none⟩) m m) m (bools st.held)
  ol : wr.ownsRow B 40 5 LV m (conCells l)
  bx : Blk wr G8 26 #[.int .i64 (n : Int), LV, .slice (some ⟨GH, 0, none⟩) m m, .slice none 0 0]
  be : Below B w0 wr
  bw : B ≤ wr.heap.size
  vl : st.v.length = n + 1
  vb : ∀ z ∈ st.v, 0 ≤ z ∧ z ≤ 1048576
  hbo : ∀ b ∈ st.hb, BdOk (n + 1) b
  dl : st.held.length = m

theorem Inv.next {n m : Nat} {l : List Con} {B G8 GH : Nat} {LV : Value} {w0 wr w' : World} {st : St} {v hv : Value} (h : Inv n m l B G8 GH LV w0 wr st v hv) (hb : Below wr.heap.size wr w') : Inv n m l B G8 GH LV w0 w' st v hv :=
  ⟨own_below h.ov hb (Nat.le_refl _), own_below h.oh hb (Nat.le_refl _), own_below h.od hb (Nat.le_refl _), own_below h.ol hb (Nat.le_refl _), h.bx.below hb h.bx.lt, h.be.trans (hb.mono h.bw), Nat.le_trans h.bw hb.size, h.vl, h.vb, h.hbo, h.dl⟩

/-- The world behind an accepted constraint. -/
theorem Inv.accept {n m : Nat} {l : List Con} {B G8 GH : Nat} {LV : Value} {w0 wr : World} {st : St} {v hv v' hv' : Value} {p : List Int} {L : List Bd} {i : Nat} (h : Inv n m l B G8 GH LV w0 wr st v hv)
    (ov : wr.ownsRow B 3 1 v' (n + 1) (ints p)) (oh : wr.ownsRow B 52 3 hv' L.length (bdCells L)) (vl : p.length = n + 1) (vb : ∀ z ∈ p, 0 ≤ z ∧ z ≤ 1048576) (hbo : ∀ b ∈ L, BdOk (n + 1) b) :
    Inv n m l B G8 GH LV w0 (wr.setCell ⟨GH, i, none⟩ (.bool true)) ⟨p, L, st.held.set i true⟩ v' hv' := by
  have hn1 := own_own_ne ov h.od (by decide) GH rfl
  have hn2 := own_own_ne oh h.od (by decide) GH rfl
  have hn3 := own_own_ne h.ol h.od (by decide) GH rfl
  have hG : B ≤ GH := (h.od.lt GH rfl).1
  have hn4 : G8 ≠ GH := by
    rintro rfl
    exact own_blk_ne h.od h.bx (by decide) rfl
  refine ⟨own_far ov hn1 _, own_far oh hn2 _, ?_, own_far h.ol hn3 _, h.bx.far (p := ⟨GH, i, none⟩) hn4 _, h.be.setCell (p := ⟨GH, i, none⟩) hG _, by simpa [World.setCell] using h.bw, vl, vb, hbo, by simpa using h.dl⟩
  have := (h.od.stored i (.bool true)).1
  rwa [show (bools st.held).set i (.bool true) = bools (st.held.set i true) by simp [bools, List.map_set]] at this

theorem iIn_none {s : Int} {l : List Con} {st : St} {k : Nat} (h : iIn s l st k = none) : ∀ j, iIn s l st (k + j) = none := by
  intro j
  induction j with
  | zero => exact h
  | succ j ih => rw [Nat.add_succ]; simp only [iIn, ih]
theorem iOut_none {l : List Con} {st : St} {k : Nat} (h : iOut l st k = none) : ∀ j, iOut l st (k + j) = none := by
  intro j
  induction j with
  | zero => exact h
  | succ j ih => rw [Nat.add_succ]; simp only [iOut, ih]

theorem boundsOf_ok {n : Nat} {c : Con} (h : validB n c = true) : ∀ b ∈ boundsOf c, BdOk (n + 1) b := by
  simp only [validB, decide_eq_true_eq] at h
  obtain ⟨h1, h2, h3, h4, h5, h6, h7, h8, h9, h10⟩ := h
  intro b hb
  unfold boundsOf at hb
  have e1 : BdOk (n + 1) ⟨c.B + 1, c.A + 1, c.C⟩ := ⟨by simp; omega, by simp; omega, by simp; omega, by simp; omega, h7, h8⟩
  have e2 : BdOk (n + 1) ⟨c.A + 1, c.B + 1, -c.C⟩ := ⟨by simp; omega, by simp; omega, by simp; omega, by simp; omega, by simp; omega, by simp; omega⟩
  split at hb
  · simp at hb; subst hb; exact e1
  · split at hb
    · simp at hb; subst hb; exact e2
    · simp at hb
      rcases hb with rfl | rfl
      · exact e1
      · exact e2
theorem boundsOf_length (c : Con) : (boundsOf c).length ≤ 2 := by
  unfold boundsOf
  split
  · simp
  · split <;> simp
theorem bdCells_append (a b : List Bd) : bdCells (a ++ b) = bdCells a ++ bdCells b := by simp [bdCells]
theorem flat_bd (L : List Bd) : Flat (bdCells L) := by
  intro u hu
  simp only [bdCells, List.mem_flatMap, Bd.cells] at hu
  obtain ⟨b, _, hb⟩ := hu
  simp at hb
  rcases hb with rfl | rfl | rfl <;> rfl
theorem flat_con (L : List Con) : Flat (conCells L) := by
  intro u hu
  simp only [conCells, List.mem_flatMap, Con.cells] at hu
  obtain ⟨b, _, hb⟩ := hu
  simp at hb
  rcases hb with rfl | rfl | rfl | rfl | rfl <;> rfl
theorem reads_len {w : World} {B size n : Nat} {A : Option Addr} {xs : List Value} (h : Reads w B size A n xs) : xs.length = n * size := h.1

theorem iRaise_bound {n : Nat} {vs : List Int} {L : List Bd} (hl : vs.length = n) (hv : ∀ z ∈ vs, 0 ≤ z ∧ z ≤ 1048576) (hL : ∀ b ∈ L, BdOk n b) :
    ∀ {f r p q}, p.length = n → (∀ z ∈ p, 0 ≤ z ∧ z ≤ 1048576) → iGo n L f r p = some q → q.length = n ∧ ∀ z ∈ q, 0 ≤ z ∧ z ≤ 1048576 := by
  intro f
  induction f with
  | zero => intro r p q _ _ h; simp [iGo] at h
  | succ f ih =>
    intro r p q hp hb h
    have hql : (sw p L L.length).1.length = n := by rw [sw_length]; exact hp
    have hqb := sw_bound n p L hp hb hL L.length
    have hgood : badB (sw p L L.length).1 = false → ∀ z ∈ (sw p L L.length).1, 0 ≤ z ∧ z ≤ 1048576 := by
      intro hg z hz
      simp only [badB, Bool.or_eq_false_iff, decide_eq_false_iff_not] at hg
      refine ⟨(hqb z hz).1, ?_⟩
      obtain ⟨j, hj, rfl⟩ := List.getElem_of_mem hz
      have := maxUpTo_le (M := 1048576) (Int.not_lt.1 hg.2) j hj
      rwa [List.getElem?_eq_getElem hj] at this
    simp only [iGo] at h
    split at h
    · cases h
    · rename_i hbad
      have hbad' : badB (sw p L L.length).1 = false := by simpa using hbad
      split at h
      · injection h with h
        subst h
        exact ⟨hql, hgood hbad'⟩
      · split at h
        · cases h
        · exact ih hql (hgood hbad') h
end Go.Proofs.Ytkdgeahfmmfopaa
