/- FontBuilt: the state of the law's font, and its seven changes. -/
import Derived.Test.YtagokefbbdlpcaaG6
import Derived.Test.YtagokefbbdlpcaaR3
import Derived.Test.YtagokefbbdlpcaaK8
namespace Go.Proofs.Ytagokefbbdlpcaa
set_option linter.unusedVariables false
set_option linter.unusedSimpArgs false
open Go.RowKit

theorem fm_own {w : World} {H : Nat} {f : Fnt} {A1 A2 A3 : Option Addr} {c1 c2 c3 : Nat} (h1 : w.ownsRow H 54 3 (.slice A1 f.adv.length c1) f.adv.length (acells f.adv)) (h2 : w.ownsRow H 48 3 (.slice A2 f.ker.length c2) f.ker.length (kcells f.ker)) (h3 : w.ownsRow H 50 4 (.slice A3 f.lig.length c3) f.lig.length (lcells f.lig)) :
    FM w f A1 c1 A2 c2 A3 c3 := by
  obtain ⟨_, _, _, m1⟩ := own_sl h1
  obtain ⟨_, _, _, m2⟩ := own_sl h2
  obtain ⟨_, _, _, m3⟩ := own_sl h3
  exact ⟨Reads.of_own h1, Reads.of_own h2, Reads.of_own h3, m1, m2, m3⟩

/-- The law's font: its variable, three rows of its own, the source. -/
structure FB (w0 : World) (B1 g fb : Nat) (f : Fnt) (A1 : Option Addr) (c1 : Nat) (A2 : Option Addr) (c2 : Nat) (A3 : Option Addr) (c3 : Nat) (w : World) : Prop where
  blk : Blk w fb 38 (f.cs A1 c1 A2 c2 A3 c3)
  o1 : w.ownsRow B1 54 3 (.slice A1 f.adv.length c1) f.adv.length (acells f.adv)
  o2 : w.ownsRow B1 48 3 (.slice A2 f.ker.length c2) f.ker.length (kcells f.ker)
  o3 : w.ownsRow B1 50 4 (.slice A3 f.lig.length c3) f.lig.length (lcells f.lig)
  src : SrcIs w g w0.heap.size
  bel : Below w0.heap.size w0 w
  gl : g < B1
  g0 : w0.heap.size ≤ g
  lf : B1 ≤ fb

section
variable {w0 w w' : World} {B1 g fb : Nat} {f : Fnt} {A1 A2 A3 : Option Addr} {c1 c2 c3 : Nat}

theorem FB.fm (h : FB w0 B1 g fb f A1 c1 A2 c2 A3 c3 w) : FM w f A1 c1 A2 c2 A3 c3 := fm_own h.o1 h.o2 h.o3
theorem FB.call (h : FB w0 B1 g fb f A1 c1 A2 c2 A3 c3 w) (hs : SrcIs w' g w0.heap.size) (hg : w.grownBy w' (some g)) : FB w0 B1 g fb f A1 c1 A2 c2 A3 c3 w' :=
  ⟨blk_gb h.blk hg (by have := h.gl; have := h.lf; omega), own_gb h.o1 hg h.gl, own_gb h.o2 hg h.gl, own_gb h.o3 hg h.gl, hs,
   h.bel.grown hg h.bel.size (fun k hk => by cases hk; exact h.g0), h.gl, h.g0, h.lf⟩
theorem FB.below (h : FB w0 B1 g fb f A1 c1 A2 c2 A3 c3 w) (hb : Below w.heap.size w w') : FB w0 B1 g fb f A1 c1 A2 c2 A3 c3 w' :=
  h.call (h.src.belowH hb h.src.lt) (gb_below (World.grownBy.refl _ _) hb)
theorem FB.drew (h : FB w0 B1 g fb f A1 c1 A2 c2 A3 c3 w) : FB w0 B1 g fb f A1 c1 A2 c2 A3 c3 w.drew := h.below (Below.refl _ _).drew
theorem FB.drewN (h : FB w0 B1 g fb f A1 c1 A2 c2 A3 c3 w) (n : Nat) : FB w0 B1 g fb f A1 c1 A2 c2 A3 c3 (w.drewN n) := h.below (below_drewN (Below.refl _ _) n)
theorem FB.alloc (h : FB w0 B1 g fb f A1 c1 A2 c2 A3 c3 w) (o : Obj) : FB w0 B1 g fb f A1 c1 A2 c2 A3 c3 (w.alloc o) := h.below ((Below.refl _ _).alloc (Nat.le_refl _) _)
theorem FB.cells (h : FB w0 B1 g fb f A1 c1 A2 c2 A3 c3 w) :
    w.cell? ⟨fb, 0, none⟩ = some (.int .i64 f.u) ∧ w.cell? ⟨fb, 1, none⟩ = some (.int .i64 f.a) ∧ w.cell? ⟨fb, 2, none⟩ = some (.int .i64 f.d) ∧ w.cell? ⟨fb, 3, none⟩ = some (.int .i64 f.g) ∧ w.cell? ⟨fb, 4, none⟩ = some (.int .i64 f.df) ∧
    w.cell? ⟨fb, 5, none⟩ = some (.slice A1 f.adv.length c1) ∧ w.cell? ⟨fb, 6, none⟩ = some (.slice A2 f.ker.length c2) ∧ w.cell? ⟨fb, 7, none⟩ = some (.slice A3 f.lig.length c3) := box_cells h.blk (Below.refl _ _)

/-- A store into one of the variable's numbers. -/
theorem FB.put (h : FB w0 B1 g fb f A1 c1 A2 c2 A3 c3 w) (i : Nat) (u : Value) (f' : Fnt) (hcs : (f.cs A1 c1 A2 c2 A3 c3).setIfInBounds i u = f'.cs A1 c1 A2 c2 A3 c3) (ha : f'.adv = f.adv) (hk : f'.ker = f.ker) (hl : f'.lig = f.lig) :
    FB w0 B1 g fb f' A1 c1 A2 c2 A3 c3 (w.setCell ⟨fb, i, none⟩ u) := by
  have hgf : g < fb := by have := h.gl; have := h.lf; omega
  have hS : Below fb w (w.setCell ⟨fb, i, none⟩ u) := (Below.refl _ _).setCell (p := ⟨fb, i, none⟩) (Nat.le_refl _) _
  refine ⟨?_, ?_, ?_, ?_, h.src.belowH hS hgf, h.bel.setCell (p := ⟨fb, i, none⟩) (show w0.heap.size ≤ fb by have := h.g0; omega) _, h.gl, h.g0, h.lf⟩
  · rw [← hcs]; exact h.blk.set_ i u
  · rw [ha]; exact own_far (i := i) h.o1 (own_blk_ne h.o1 h.blk (by decide)) _
  · rw [hk]; exact own_far (i := i) h.o2 (own_blk_ne h.o2 h.blk (by decide)) _
  · rw [hl]; exact own_far (i := i) h.o3 (own_blk_ne h.o3 h.blk (by decide)) _

/-- The font behind its change. -/
structure FE (w0 : World) (fb : Nat) (f : Fnt) (A1 : Option Addr) (c1 : Nat) (A2 : Option Addr) (c2 : Nat) (A3 : Option Addr) (c3 : Nat) (w : World) : Prop where
  blk : Blk w fb 38 (f.cs A1 c1 A2 c2 A3 c3)
  fm : FM w f A1 c1 A2 c2 A3 c3
  bel : Below w0.heap.size w0 w
theorem FB.fe (h : FB w0 B1 g fb f A1 c1 A2 c2 A3 c3 w) : FE w0 fb f A1 c1 A2 c2 A3 c3 w := ⟨h.blk, h.fm, h.bel⟩
theorem FE.cells (h : FE w0 fb f A1 c1 A2 c2 A3 c3 w) :
    w.cell? ⟨fb, 0, none⟩ = some (.int .i64 f.u) ∧ w.cell? ⟨fb, 1, none⟩ = some (.int .i64 f.a) ∧ w.cell? ⟨fb, 2, none⟩ = some (.int .i64 f.d) ∧ w.cell? ⟨fb, 3, none⟩ = some (.int .i64 f.g) ∧ w.cell? ⟨fb, 4, none⟩ = some (.int .i64 f.df) ∧
    w.cell? ⟨fb, 5, none⟩ = some (.slice A1 f.adv.length c1) ∧ w.cell? ⟨fb, 6, none⟩ = some (.slice A2 f.ker.length c2) ∧ w.cell? ⟨fb, 7, none⟩ = some (.slice A3 f.lig.length c3) := box_cells h.blk (Below.refl _ _)

/-- Behind an append to a row: all but that row is as it was. -/
theorem FB.app1 (h : FB w0 B1 g fb f A1 c1 A2 c2 A3 c3 w) (x : Adv) {A : Option Addr} {c n : Nat} (hn : n = f.adv.length + 1) (ho : w'.ownsRow B1 54 3 (.slice A n c) n (acells f.adv ++ x.cells)) (hg : w.grownBy w' (Value.slice A1 f.adv.length c1).ownBlock) (hB : B1 ≤ w.heap.size) :
    FE w0 fb { f with adv := f.adv ++ [x] } A c A2 c2 A3 c3 (w'.setCell ⟨fb, 5, none⟩ (.slice A n c)) := by
  subst hn
  have hK := blk_own h.blk h.o1 (by decide) hg
  have hO2 := own_keep2 h.o2 h.o1 (by decide) hg
  have hO3 := own_keep2 h.o3 h.o1 (by decide) hg
  have hbel : Below w0.heap.size w0 w' := h.bel.grown hg h.bel.size (fun k hk => by have := (h.o1.lt k hk).1; have := h.gl; have := h.g0; omega)
  have e : acells (f.adv ++ [x]) = acells f.adv ++ x.cells := by simp [acells]
  have hl : (f.adv ++ [x]).length = f.adv.length + 1 := by simp
  refine ⟨?_, fm_own ?_ (own_far (i := 5) hO2 (own_blk_ne hO2 hK (by decide)) _) (own_far (i := 5) hO3 (own_blk_ne hO3 hK (by decide)) _), hbel.setCell (p := ⟨fb, 5, none⟩) (show w0.heap.size ≤ fb by have := h.g0; have := h.gl; have := h.lf; omega) _⟩
  · have := hK.set_ 5 (.slice A (f.adv.length + 1) c)
    simpa [Fnt.cs] using this
  · have := own_far (i := 5) ho (own_blk_ne ho hK (by decide)) (.slice A (f.adv.length + 1) c)
    rw [← e] at this
    rw [← hl] at this
    rw [← hl]
    exact this
theorem FB.app2 (h : FB w0 B1 g fb f A1 c1 A2 c2 A3 c3 w) (x : Ker) {A : Option Addr} {c n : Nat} (hn : n = f.ker.length + 1) (ho : w'.ownsRow B1 48 3 (.slice A n c) n (kcells f.ker ++ x.cells)) (hg : w.grownBy w' (Value.slice A2 f.ker.length c2).ownBlock) (hB : B1 ≤ w.heap.size) :
    FE w0 fb { f with ker := f.ker ++ [x] } A1 c1 A c A3 c3 (w'.setCell ⟨fb, 6, none⟩ (.slice A n c)) := by
  subst hn
  have hK := blk_own h.blk h.o2 (by decide) hg
  have hO1 := own_keep2 h.o1 h.o2 (by decide) hg
  have hO3 := own_keep2 h.o3 h.o2 (by decide) hg
  have hbel : Below w0.heap.size w0 w' := h.bel.grown hg h.bel.size (fun k hk => by have := (h.o2.lt k hk).1; have := h.gl; have := h.g0; omega)
  have e : kcells (f.ker ++ [x]) = kcells f.ker ++ x.cells := by simp [kcells]
  have hl : (f.ker ++ [x]).length = f.ker.length + 1 := by simp
  refine ⟨?_, fm_own (own_far (i := 6) hO1 (own_blk_ne hO1 hK (by decide)) _) ?_ (own_far (i := 6) hO3 (own_blk_ne hO3 hK (by decide)) _), hbel.setCell (p := ⟨fb, 6, none⟩) (show w0.heap.size ≤ fb by have := h.g0; have := h.gl; have := h.lf; omega) _⟩
  · have := hK.set_ 6 (.slice A (f.ker.length + 1) c)
    simpa [Fnt.cs] using this
  · have := own_far (i := 6) ho (own_blk_ne ho hK (by decide)) (.slice A (f.ker.length + 1) c)
    rw [← e] at this
    rw [← hl] at this
    rw [← hl]
    exact this
/-- A store of the first ligature's glyph. -/
theorem FB.glyph (h : FB w0 B1 g fb f A1 c1 A2 c2 A3 c3 w) {x : Lig} {t : List Lig} (hx : f.lig = x :: t) (z : Int) {g3 : Nat} (hA : A3 = some ⟨g3, 0, none⟩) :
    FE w0 fb { f with lig := { x with g := z } :: t } A1 c1 A2 c2 A3 c3 (w.setCell ⟨g3, 2, none⟩ (.int .i64 z)) := by
  subst hA
  have h3 := h.o3
  have hn1 := own_own_ne h.o1 h.o3 (by decide) g3 rfl
  have hn2 := own_own_ne h.o2 h.o3 (by decide) g3 rfl
  have hn3 : fb ≠ g3 := fun e => own_blk_ne h.o3 h.blk (by decide) (by rw [e]; rfl)
  have hlt := (h.o3.lt g3 rfl).1
  have hfar : fb ≠ (⟨g3, 2, none⟩ : Addr).block := hn3
  refine ⟨?_, fm_own (own_far (i := 2) h.o1 hn1 _) (own_far (i := 2) h.o2 hn2 _) ?_, h.bel.setCell (p := ⟨g3, 2, none⟩) (show w0.heap.size ≤ g3 by have := h.g0; have := h.gl; omega) _⟩
  · have := h.blk.far hfar (.int .i64 z)
    simpa [Fnt.cs, hx] using this
  · rcases h3.2 with ⟨h0, _⟩ | ⟨g', cap, cur, hv, hg, hh, hn, hm, hc, ht⟩
    · cases h0
    · injection hv with hv1 hv2 hv3
      injection hv1 with hv1
      injection hv1 with hv1
      subst hv1 hv3
      have hb : Blk w g3 50 cur := hh
      have hb2 := hb.set_ 2 (.int .i64 z)
      have hlen : ({ x with g := z } :: t).length = f.lig.length := by rw [hx]; rfl
      refine ⟨by rw [show lcells ({ x with g := z } :: t) = ({ x with g := z } :: t).flatMap Lig.cells from rfl, flat_len Lig.cells 4 (fun _ => rfl)], .inr ⟨g3, c3, cur.setIfInBounds 2 (.int .i64 z), by rw [hlen], hg, hb2, by rw [hlen]; exact hn, hm, by simpa using hc, ?_⟩⟩
      show (cur.setIfInBounds 2 (Value.int IntKind.i64 z)).toList.take (({ x with g := z } :: t).length * 4) = _
      rw [hlen, Array.toList_setIfInBounds, List.take_set, ht, hx]
      simp [lcells, Lig.cells]
theorem FB.glyph_cell {g3 : Nat} (h : FB w0 B1 g fb f A1 c1 A2 c2 (some ⟨g3, 0, none⟩) c3 w) {x : Lig} {t : List Lig} (hx : f.lig = x :: t) :
    w.cell? ⟨g3, 2, none⟩ = some (.int .i64 x.g) ∧ w.frozen? ⟨g3, 2, none⟩ = false := by
  obtain ⟨y, b, off, hy, hA, _, hc⟩ := elem_at (cells := Lig.cells) (size := 4) (fun _ => rfl) (by omega) h.fm.r3 (Below.refl w.heap.size w) 0 (by rw [hx]; simp)
  injection hA with hA
  injection hA with hb hoff _
  subst hb hoff
  rw [hx] at hy
  injection hy with hy
  subst hy
  refine ⟨by simpa using hc 2 _ (by omega) rfl, ?_⟩
  rcases h.o3.2 with ⟨h0, _⟩ | ⟨g', cap, cur, hv, hg, hh, _⟩
  · cases h0
  · injection hv with hv1 hv2 hv3
    injection hv1 with hv1
    injection hv1 with hv1
    subst hv1
    exact (show Blk w g3 50 cur from hh).frozen 2
end

def SZ : Array Value := #[.int .i64 0, .int .i64 1, .int .i64 2, .int .i64 16, .int .i64 999, .int .i64 1000, .int .i64 1001]
theorem sz_at (k : Nat) (hk : k < 7) : ∃ z : Int, SZ[k]? = some (.int .i64 z) := by
  match k, hk with
  | 0, _ => exact ⟨_, rfl⟩
  | 1, _ => exact ⟨_, rfl⟩
  | 2, _ => exact ⟨_, rfl⟩
  | 3, _ => exact ⟨_, rfl⟩
  | 4, _ => exact ⟨_, rfl⟩
  | 5, _ => exact ⟨_, rfl⟩
  | 6, _ => exact ⟨_, rfl⟩
  | k + 7, h => omega
end Go.Proofs.Ytagokefbbdlpcaa
