/- Words for the round of ConstraintIncremental. -/
import Derived.Test.YtkdgeahfmmfopaaE3
import Derived.Test.YtkdgeahfmmfopaaC3
import Derived.Test.YtkdgeahfmmfopaaP6
namespace Go.Proofs.Ytkdgeahfmmfopaa
set_option linter.unusedVariables false
set_option linter.unusedSimpArgs false
open Go.RowKit

/-- A slice value that reads as these cells, out of blocks between g and M, but for P. -/
def SlX (g P M : Nat) (w : World) (size n : Nat) (v : Value) (xs : List Value) : Prop :=
  SlR w size n v xs ∧ (0 < n → ∀ b, v.ownBlock = some b → g < b ∧ b < M ∧ b ≠ P)

theorem SlX.step {g P M size n : Nat} {w w' : World} {v : Value} {xs : List Value} (h : SlX g P M w size n v xs) (hk : ∀ b, g < b → b < M → b ≠ P → w'.heap[b]? = w.heap[b]?) (hs : w.heap.size ≤ w'.heap.size) : SlX g P M w' size n v xs := by
  refine ⟨?_, h.2⟩
  obtain ⟨⟨A, c, rfl, h1, h2, h3, h4, h5⟩, hb⟩ := h
  refine ⟨A, c, rfl, h1, h2, h3, h4, fun hn => ?_⟩
  obtain ⟨ad, rfl, hlt, hc⟩ := h5 hn
  obtain ⟨b1, b2, b3⟩ := hb hn ad.block rfl
  exact ⟨ad, rfl, by omega, fun j u hu => (World.cell?_of_block (a := ad.add j) (by rw [block_of_add]; exact hk _ b1 b2 b3)).trans (hc j u hu)⟩

theorem SlX.mk' {g lo : Nat} {w : World} {size n : Nat} {v : Value} {xs : List Value} (h : SlR w size n v xs) (hf : ∀ g, v.ownBlock = some g → lo + 1 ≤ g) (hg : g < lo) : SlX g lo w.heap.size w size n v xs := by
  refine ⟨h, fun hn b hb => ⟨by have := hf b hb; omega, ?_, by have := hf b hb; omega⟩⟩
  obtain ⟨A, c, rfl, h1, h2, h3, h4, h5⟩ := h
  obtain ⟨ad, rfl, hlt, _⟩ := h5 hn
  simp [Value.ownBlock] at hb
  omega

theorem own_far4 {w : World} {base e size n G : Nat} {v : Value} {xs : List Value} {cs : Array Value} (h : w.ownsRow base e size v n xs) (hk : Blk w G 26 cs) (he : e ≠ 26) (u0 u1 u2 u3 : Value) :
    ((((w.setCell ⟨G, 0, none⟩ u0).setCell ⟨G, 1, none⟩ u1).setCell ⟨G, 2, none⟩ u2).setCell ⟨G, 3, none⟩ u3).ownsRow base e size v n xs :=
  own_set4 h (own_blk_ne h hk he) _ _ _ _

theorem heap_set4 {w : World} {G b : Nat} (hb : b ≠ G) (u0 u1 u2 u3 : Value) : ((((w.setCell ⟨G, 0, none⟩ u0).setCell ⟨G, 1, none⟩ u1).setCell ⟨G, 2, none⟩ u2).setCell ⟨G, 3, none⟩ u3).heap[b]? = w.heap[b]? := by
  rw [Below.heap_setCell _ _ _ _ hb, Below.heap_setCell _ _ _ _ hb, Below.heap_setCell _ _ _ _ hb, Below.heap_setCell _ _ _ _ hb]
theorem size_set4 {w : World} {G : Nat} (u0 u1 u2 u3 : Value) : ((((w.setCell ⟨G, 0, none⟩ u0).setCell ⟨G, 1, none⟩ u1).setCell ⟨G, 2, none⟩ u2).setCell ⟨G, 3, none⟩ u3).heap.size = w.heap.size := by simp [World.setCell]

/-- What holds at the head of a round: the system in block P, the list of constraints that it holds, the source of numbers in block g. -/
structure Rd (w0 : World) (g B P M : Nat) (vars : Int) (l : List Con) (h : List Bool) (x : List Int) (A1 : Option Addr) (c1 : Nat) (A2 : Option Addr) (c2 : Nat) (A3 : Option Addr) (c3 : Nat) (s7 : Value) (wr : World) : Prop where
  own : wr.ownsRow (P + 1) 40 5 s7 l.length (conCells l)
  blk : Blk wr P 26 #[.int .i64 vars, .slice A1 l.length c1, .slice A2 h.length c2, .slice A3 x.length c3]
  s1 : SlX g P M wr 5 l.length (.slice A1 l.length c1) (conCells l)
  s2 : SlX g P M wr 1 h.length (.slice A2 h.length c2) (bools h)
  s3 : SlX g P M wr 1 x.length (.slice A3 x.length c3) (ints x)
  src : SrcIs wr g B
  gP : g < P
  PM : P < M
  Mw : M ≤ wr.heap.size
  be : Below w0.heap.size w0 wr
  wg : w0.heap.size ≤ g
  sol : iSolve vars l = .ok h x

section
variable {w0 wr w' : World} {g B P M : Nat} {vars : Int} {l : List Con} {h : List Bool} {x : List Int} {A1 : Option Addr} {c1 : Nat} {A2 : Option Addr} {c2 : Nat} {A3 : Option Addr} {c3 : Nat} {s7 : Value}

theorem Rd.src_step (k : Rd w0 g B P M vars l h x A1 c1 A2 c2 A3 c3 s7 wr) (hg : wr.grownBy w' (some g)) (hs : SrcIs w' g B) : Rd w0 g B P M vars l h x A1 c1 A2 c2 A3 c3 s7 w' := by
  have hk : ∀ b, g < b → b < M → b ≠ P → w'.heap[b]? = wr.heap[b]? := fun b h1 h2 _ => hg.block b (by have := k.Mw; omega) (fun e => by injection e with e; omega)
  exact ⟨own_gb k.own hg (by have := k.gP; omega), blk_gb k.blk hg (by have := k.gP; omega), k.s1.step hk hg.size, k.s2.step hk hg.size, k.s3.step hk hg.size, hs, k.gP, k.PM, Nat.le_trans k.Mw hg.size,
    k.be.grown hg k.be.size (fun b e => by injection e with e; subst e; exact k.wg), k.wg, k.sol⟩

theorem Rd.below (k : Rd w0 g B P M vars l h x A1 c1 A2 c2 A3 c3 s7 wr) (hb : Below wr.heap.size wr w') : Rd w0 g B P M vars l h x A1 c1 A2 c2 A3 c3 s7 w' := by
  have hk : ∀ b, g < b → b < M → b ≠ P → w'.heap[b]? = wr.heap[b]? := fun b h1 h2 _ => hb.block b (by have := k.Mw; omega)
  exact ⟨own_below k.own hb (Nat.le_refl _), k.blk.below hb k.blk.lt, k.s1.step hk hb.size, k.s2.step hk hb.size, k.s3.step hk hb.size, k.src.belowH hb k.src.lt, k.gP, k.PM, Nat.le_trans k.Mw hb.size,
    k.be.trans (hb.mono k.be.size), k.wg, k.sol⟩

theorem Rd.set4 (k : Rd w0 g B P M vars l h x A1 c1 A2 c2 A3 c3 s7 wr) {G : Nat} {cs : Array Value} (hG : M ≤ G) (hq : Blk wr G 26 cs) (u0 u1 u2 u3 : Value) :
    Rd w0 g B P M vars l h x A1 c1 A2 c2 A3 c3 s7 ((((wr.setCell ⟨G, 0, none⟩ u0).setCell ⟨G, 1, none⟩ u1).setCell ⟨G, 2, none⟩ u2).setCell ⟨G, 3, none⟩ u3) := by
  have hPG : P ≠ G := by have := k.PM; omega
  have hk : ∀ b, g < b → b < M → b ≠ P → ((((wr.setCell ⟨G, 0, none⟩ u0).setCell ⟨G, 1, none⟩ u1).setCell ⟨G, 2, none⟩ u2).setCell ⟨G, 3, none⟩ u3).heap[b]? = wr.heap[b]? := fun b h1 h2 _ => heap_set4 (by omega) _ _ _ _
  have hsz : wr.heap.size ≤ ((((wr.setCell ⟨G, 0, none⟩ u0).setCell ⟨G, 1, none⟩ u1).setCell ⟨G, 2, none⟩ u2).setCell ⟨G, 3, none⟩ u3).heap.size := by rw [size_set4]; exact Nat.le_refl _
  have hbl : Below G wr ((((wr.setCell ⟨G, 0, none⟩ u0).setCell ⟨G, 1, none⟩ u1).setCell ⟨G, 2, none⟩ u2).setCell ⟨G, 3, none⟩ u3) := below_set4' (Below.refl _ _) (Nat.le_refl _) _ _ _ _
  have hgG : g < G := by have := k.gP; have := k.PM; omega
  refine ⟨own_far4 k.own hq (by decide) _ _ _ _, ?_, k.s1.step hk hsz, k.s2.step hk hsz, k.s3.step hk hsz, k.src.belowH hbl hgG, k.gP, k.PM, Nat.le_trans k.Mw hsz, k.be.trans (hbl.mono (by have := k.wg; omega)), k.wg, k.sol⟩
  have := heap_set4 (w := wr) hPG u0 u1 u2 u3
  exact this.trans k.blk

theorem Rd.sysR (k : Rd w0 g B P M vars l h x A1 c1 A2 c2 A3 c3 s7 wr) : SysR wr (.agg #[.int .i64 vars, .slice A1 l.length c1, .slice A2 h.length c2, .slice A3 x.length c3]) vars l h x :=
  ⟨_, _, _, rfl, k.s1.1, k.s2.1, k.s3.1⟩

theorem Rd.cells (k : Rd w0 g B P M vars l h x A1 c1 A2 c2 A3 c3 s7 wr) : wr.cell? ⟨P, 0, none⟩ = some (.int .i64 vars) ∧ wr.cell? ⟨P, 1, none⟩ = some (.slice A1 l.length c1) ∧ wr.cell? ⟨P, 2, none⟩ = some (.slice A2 h.length c2) ∧ wr.cell? ⟨P, 3, none⟩ = some (.slice A3 x.length c3) ∧
    wr.frozen? ⟨P, 0, none⟩ = false ∧ wr.frozen? ⟨P, 1, none⟩ = false ∧ wr.frozen? ⟨P, 2, none⟩ = false ∧ wr.frozen? ⟨P, 3, none⟩ = false := by
  refine ⟨?_, ?_, ?_, ?_, k.blk.frozen 0, k.blk.frozen 1, k.blk.frozen 2, k.blk.frozen 3⟩ <;> (rw [k.blk.cell]; try rfl)

/-- The round's end: the system in block P is another one. -/
theorem Rd.store (k : Rd w0 g B P M vars l h x A1 c1 A2 c2 A3 c3 s7 wr) {l' : List Con} {h' : List Bool} {x' : List Int} {B1 : Option Addr} {d1 : Nat} {B2 : Option Addr} {d2 : Nat} {B3 : Option Addr} {d3 : Nat} {s7' : Value}
    (own' : wr.ownsRow (P + 1) 40 5 s7' l'.length (conCells l')) (hs : SysR wr (.agg #[.int .i64 vars, .slice B1 l'.length d1, .slice B2 h'.length d2, .slice B3 x'.length d3]) vars l' h' x')
    (hf : FreshV (P + 1) (.agg #[.int .i64 vars, .slice B1 l'.length d1, .slice B2 h'.length d2, .slice B3 x'.length d3])) (hsol : iSolve vars l' = .ok h' x') :
    Rd w0 g B P wr.heap.size vars l' h' x' B1 d1 B2 d2 B3 d3 s7' ((((wr.setCell ⟨P, 0, none⟩ (.int .i64 vars)).setCell ⟨P, 1, none⟩ (.slice B1 l'.length d1)).setCell ⟨P, 2, none⟩ (.slice B2 h'.length d2)).setCell ⟨P, 3, none⟩ (.slice B3 x'.length d3)) := by
  obtain ⟨v1, v2, v3, hv, a1, a2, a3⟩ := hs
  injection hv with hv
  injection hv with hv
  injection hv with _ hv
  injection hv with e1 hv
  injection hv with e2 hv
  injection hv with e3 _
  subst e1 e2 e3
  have f1 := SlX.mk' (g := g) (lo := P) a1 (fun g hg => hf _ (by simp) g hg) k.gP
  have f2 := SlX.mk' (g := g) (lo := P) a2 (fun g hg => hf _ (by simp) g hg) k.gP
  have f3 := SlX.mk' (g := g) (lo := P) a3 (fun g hg => hf _ (by simp) g hg) k.gP
  have hk : ∀ b, g < b → b < wr.heap.size → b ≠ P → ((((wr.setCell ⟨P, 0, none⟩ (.int .i64 vars)).setCell ⟨P, 1, none⟩ (.slice B1 l'.length d1)).setCell ⟨P, 2, none⟩ (.slice B2 h'.length d2)).setCell ⟨P, 3, none⟩ (.slice B3 x'.length d3)).heap[b]? = wr.heap[b]? := fun b h1 h2 h3 => heap_set4 h3 _ _ _ _
  have hsz : wr.heap.size ≤ ((((wr.setCell ⟨P, 0, none⟩ (.int .i64 vars)).setCell ⟨P, 1, none⟩ (.slice B1 l'.length d1)).setCell ⟨P, 2, none⟩ (.slice B2 h'.length d2)).setCell ⟨P, 3, none⟩ (.slice B3 x'.length d3)).heap.size := by rw [size_set4]; exact Nat.le_refl _
  have hbl : Below P wr ((((wr.setCell ⟨P, 0, none⟩ (.int .i64 vars)).setCell ⟨P, 1, none⟩ (.slice B1 l'.length d1)).setCell ⟨P, 2, none⟩ (.slice B2 h'.length d2)).setCell ⟨P, 3, none⟩ (.slice B3 x'.length d3)) := below_set4' (Below.refl _ _) (Nat.le_refl _) _ _ _ _
  exact ⟨own_set4 own' (own_lt own' (by omega)) _ _ _ _, blk_set4 k.blk _ _ _ _, f1.step hk hsz, f2.step hk hsz, f3.step hk hsz, k.src.belowH hbl k.gP, k.gP, k.blk.lt, hsz, k.be.trans (hbl.mono (by have := k.wg; have := k.gP; omega)), k.wg, hsol⟩
end

theorem solvedF_dat {vars : Int} {l : List Con} {r : Sol} {w w' : World} {e : Ending} (h : SolvedAsF vars l r w e w') :
    ∃ B1 d1 B2 d2 B3 d3, e = .returned (.tuple #[.agg #[.int .i64 (dat vars l r).1, .slice B1 (dat vars l r).2.1.length d1, .slice B2 (dat vars l r).2.2.1.length d2, .slice B3 (dat vars l r).2.2.2.1.length d3], .int .i64 (dat vars l r).2.2.2.2]) ∧
      SysR w' (.agg #[.int .i64 (dat vars l r).1, .slice B1 (dat vars l r).2.1.length d1, .slice B2 (dat vars l r).2.2.1.length d2, .slice B3 (dat vars l r).2.2.2.1.length d3]) (dat vars l r).1 (dat vars l r).2.1 (dat vars l r).2.2.1 (dat vars l r).2.2.2.1 ∧
      FreshV w.heap.size (.agg #[.int .i64 (dat vars l r).1, .slice B1 (dat vars l r).2.1.length d1, .slice B2 (dat vars l r).2.2.1.length d2, .slice B3 (dat vars l r).2.2.2.1.length d3]) ∧ Below w.heap.size w w' := by
  cases r with
  | err k =>
    refine ⟨none, 0, none, 0, none, 0, h.1, zero_sys w', fun u hu g hg => ?_, h.2⟩
    simp [dat] at hu
    rcases hu with rfl | rfl | rfl | rfl <;> cases hg
  | ok a b =>
    obtain ⟨v, h1, ⟨⟨v1, v2, v3, rfl, ⟨B1, d1, rfl, r1⟩, ⟨B2, d2, rfl, r2⟩, ⟨B3, d3, rfl, r3⟩⟩, hf⟩, h3⟩ := h
    exact ⟨B1, d1, B2, d2, B3, d3, h1, ⟨_, _, _, rfl, ⟨_, _, rfl, r1⟩, ⟨_, _, rfl, r2⟩, ⟨_, _, rfl, r3⟩⟩, hf, h3⟩

theorem iSolve_err_ne {vars : Int} {l : List Con} {k : Int} (h : iSolve vars l = .err k) : k ≠ 0 := by
  unfold iSolve at h
  split at h
  · injection h with h; omega
  · split at h
    · injection h with h; omega
    · split at h
      · injection h with h; omega
      · split at h
        · injection h with h; omega
        · cases h

theorem dat_ok {vars : Int} {l : List Con} (h : (dat vars l (iSolve vars l)).2.2.2.2 = 0) : ∃ a b, iSolve vars l = .ok a b ∧ dat vars l (iSolve vars l) = (vars, l, a, b, 0) := by
  cases hr : iSolve vars l with
  | err k => rw [hr] at h; exact absurd h (iSolve_err_ne hr)
  | ok a b => exact ⟨a, b, rfl, rfl⟩
theorem SysR.set4 {w : World} {v : Value} {vars : Int} {l : List Con} {h : List Bool} {x : List Int} (k : SysR w v vars l h x) {base G : Nat} (hf : FreshV base v) (hG : G < base) (u0 u1 u2 u3 : Value) :
    SysR ((((w.setCell ⟨G, 0, none⟩ u0).setCell ⟨G, 1, none⟩ u1).setCell ⟨G, 2, none⟩ u2).setCell ⟨G, 3, none⟩ u3) v vars l h x := by
  obtain ⟨v1, v2, v3, rfl, a1, a2, a3⟩ := k
  exact ⟨v1, v2, v3, rfl, a1.far4 (fun g hg => by have := hf v1 (by simp) g hg; omega) _ _ _ _, a2.far4 (fun g hg => by have := hf v2 (by simp) g hg; omega) _ _ _ _, a3.far4 (fun g hg => by have := hf v3 (by simp) g hg; omega) _ _ _ _⟩
theorem fresh_less {base base' : Nat} {a : Array Value} (h : FreshV base (.agg a)) (hb : base' ≤ base) : FreshV base' (.agg a) := fun u hu g hg => Nat.le_trans hb (h u hu g hg)
theorem blk4_cells {w : World} {G : Nat} {z0 z1 z2 z3 : Value} (h : Blk w G 26 #[z0, z1, z2, z3]) : w.cell? ⟨G, 0, none⟩ = some z0 ∧ w.cell? ⟨G, 1, none⟩ = some z1 ∧ w.cell? ⟨G, 2, none⟩ = some z2 ∧ w.cell? ⟨G, 3, none⟩ = some z3 := by
  refine ⟨?_, ?_, ?_, ?_⟩ <;> (rw [h.cell]; try rfl)
theorem set4_blk {wr : World} {G : Nat} {z0 z1 z2 z3 : Value} (h : Blk wr G 26 #[z0, z1, z2, z3]) (u0 u1 u2 u3 : Value) : Blk ((((wr.setCell ⟨G, 0, none⟩ u0).setCell ⟨G, 1, none⟩ u1).setCell ⟨G, 2, none⟩ u2).setCell ⟨G, 3, none⟩ u3) G 26 #[u0, u1, u2, u3] := blk_set4 h _ _ _ _
end Go.Proofs.Ytkdgeahfmmfopaa
