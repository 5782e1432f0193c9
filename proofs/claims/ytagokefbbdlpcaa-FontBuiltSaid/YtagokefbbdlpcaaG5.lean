/- The source's font: the state of its making, the plain part (it is valid). -/
import Derived.Test.YtagokefbbdlpcaaG4
namespace Go.Proofs.Ytagokefbbdlpcaa
set_option linter.unusedVariables false
set_option linter.unusedSimpArgs false
open Go.RowKit

theorem adv_info : (Try.prog.info? 54).map (fun i => (i.zero, i.size, i.bytes)) = some (some (.agg #[.int .i32 0, .int .i32 0, .int .i64 0]), 3, 16) := by kernel_rfl
theorem ker_info : (Try.prog.info? 48).map (fun i => (i.zero, i.size, i.bytes)) = some (some (.agg #[.int .i32 0, .int .i32 0, .int .i64 0]), 3, 16) := by kernel_rfl
theorem lig_info : (Try.prog.info? 50).map (fun i => (i.zero, i.size, i.bytes)) = some (some (.agg #[.int .i32 0, .int .i32 0, .int .i64 0, .int .i64 0]), 4, 24) := by kernel_rfl

def fontZ : Array Value := #[.int .i64 0, .int .i64 0, .int .i64 0, .int .i64 0, .int .i64 0, .slice none 0 0, .slice none 0 0, .slice none 0 0]
def Fnt.cv (f : Fnt) (v1 v2 v3 : Value) : Array Value := #[.int .i64 f.u, .int .i64 f.a, .int .i64 f.d, .int .i64 f.g, .int .i64 f.df, v1, v2, v3]

/-- The making of a font: the variable, the result's variable, the alphabet, three rows of its own, the source. -/
structure FS (w0 : World) (g B r fb ab : Nat) (f : Fnt) (v1 v2 v3 : Value) (w : World) : Prop where
  blk : Blk w fb 38 (f.cv v1 v2 v3)
  res : Blk w r 38 fontZ
  alp : Blk w ab 21 AB
  o1 : w.ownsRow w0.heap.size 54 3 v1 f.adv.length (acells f.adv)
  o2 : w.ownsRow w0.heap.size 48 3 v2 f.ker.length (kcells f.ker)
  o3 : w.ownsRow w0.heap.size 50 4 v3 f.lig.length (lcells f.lig)
  src : SrcIs w g B
  gb : w0.grownBy w (some g)
  gl : g < w0.heap.size
  lf : w0.heap.size ≤ fb
  lr : w0.heap.size ≤ r
  la : w0.heap.size ≤ ab
  nr : fb ≠ r

section
variable {w0 w w' : World} {g B r fb ab : Nat} {f : Fnt} {v1 v2 v3 : Value}

theorem FS.call (h : FS w0 g B r fb ab f v1 v2 v3 w) (hs : SrcIs w' g B) (hg : w.grownBy w' (some g)) : FS w0 g B r fb ab f v1 v2 v3 w' :=
  ⟨blk_gb h.blk hg (by have := h.gl; have := h.lf; omega), blk_gb h.res hg (by have := h.gl; have := h.lr; omega), blk_gb h.alp hg (by have := h.gl; have := h.la; omega),
   own_gb h.o1 hg h.gl, own_gb h.o2 hg h.gl, own_gb h.o3 hg h.gl, hs, gb_trans h.gb hg, h.gl, h.lf, h.lr, h.la, h.nr⟩

theorem FS.drew (h : FS w0 g B r fb ab f v1 v2 v3 w) : FS w0 g B r fb ab f v1 v2 v3 w.drew :=
  h.call (h.src.belowH ((Below.refl w.heap.size w).drew) h.src.lt) (gb_below (World.grownBy.refl _ _) (Below.refl w.heap.size w).drew)

theorem FS.ab_cell (h : FS w0 g B r fb ab f v1 v2 v3 w) (i : Nat) (hi : i < 89) : ∃ p : Int, w.cell? ⟨ab, i, none⟩ = some (.int .i32 p) ∧ AB[i]? = some (.int .i32 p) ∧ 0 ≤ p ∧ p ≤ 1114111 := by
  obtain ⟨p, hp, p0, p1⟩ := ab_at i hi
  exact ⟨p, by rw [h.alp.cell]; exact hp, hp, p0, p1⟩
theorem FS.ab_keep (h : FS w0 g B r fb ab f v1 v2 v3 w) {i : Nat} {p : Value} (hp : AB[i]? = some p) : w.cell? ⟨ab, i, none⟩ = some p := by
  rw [h.alp.cell]; exact hp

theorem own_keep2 {base e e' s s' n n' : Nat} {v v' : Value} {xs xs' : List Value} (h : w.ownsRow base e s v n xs) (h' : w.ownsRow base e' s' v' n' xs') (hne : e ≠ e') (hg : w.grownBy w' v'.ownBlock) : w'.ownsRow base e s v n xs := by
  refine h.kept hg ?_
  cases hv : v.ownBlock with
  | none => exact .inl rfl
  | some k => exact .inr (fun e => own_own_ne h h' hne k e.symm hv)

theorem FS.alloc (h : FS w0 g B r fb ab f v1 v2 v3 w) (o : Obj) : FS w0 g B r fb ab f v1 v2 v3 (w.alloc o) :=
  ⟨h.blk.alloc _, h.res.alloc _, h.alp.alloc _, h.o1.alloc _, h.o2.alloc _, h.o3.alloc _, h.src.belowH ((Below.refl w.heap.size w).alloc (Nat.le_refl _) _) h.src.lt, gb_below h.gb ((Below.refl w0.heap.size w).alloc h.gb.size _), h.gl, h.lf, h.lr, h.la, h.nr⟩

theorem blk_own {base e s n b t : Nat} {v : Value} {xs : List Value} {cs : Array Value} (hb : Blk w b t cs) (h : w.ownsRow base e s v n xs) (hne : e ≠ t) (hg : w.grownBy w' v.ownBlock) : Blk w' b t cs :=
  hb.grown hg (fun e => own_blk_ne h hb hne e.symm)

/-- Behind an append to a row v of type e that the making owns: all but that row is as it was. -/
theorem own_src {base e s n : Nat} {v : Value} {xs : List Value} (h : w.ownsRow base e s v n xs) (hb : base ≤ w.heap.size) (hg : w.grownBy w' v.ownBlock) : Below base w w' :=
  (Below.refl _ _).grown hg hb (fun k hk => (h.lt k hk).1)

theorem FS.app1 (h : FS w0 g B r fb ab f v1 v2 v3 w) (x : Adv) {v' : Value} (ho : w'.ownsRow w0.heap.size 54 3 v' (f.adv.length + 1) (acells f.adv ++ x.cells)) (hg : w.grownBy w' v1.ownBlock) :
    FS w0 g B r fb ab { f with adv := f.adv ++ [x] } v' v2 v3 (w'.setCell ⟨fb, 5, none⟩ v') := by
  have hB := own_src h.o1 h.gb.size hg
  have hK := blk_own h.blk h.o1 (by decide) hg
  have hR := blk_own h.res h.o1 (by decide) hg
  have hA := blk_own h.alp h.o1 (by decide) hg
  have hS : Below w0.heap.size w (w'.setCell ⟨fb, 5, none⟩ v') := hB.setCell (p := ⟨fb, 5, none⟩) h.lf _
  have hO2 := own_keep2 h.o2 h.o1 (by decide) hg
  have hO3 := own_keep2 h.o3 h.o1 (by decide) hg
  have e : acells (f.adv ++ [x]) = acells f.adv ++ x.cells := by simp [acells]
  refine ⟨?_, hR.far (p := ⟨fb, 5, none⟩) (fun e => h.nr e.symm) _, hA.far (p := ⟨fb, 5, none⟩) (hA.ne_ hK (by decide)) _, ?_, own_far (i := 5) hO2 (own_blk_ne hO2 hK (by decide)) _, own_far (i := 5) hO3 (own_blk_ne hO3 hK (by decide)) _,
    h.src.belowH hS h.gl, gb_below h.gb hS, h.gl, h.lf, h.lr, h.la, h.nr⟩
  · have := hK.set_ 5 v'
    simpa [Fnt.cv] using this
  · have := own_far (i := 5) ho (own_blk_ne ho hK (by decide)) v'
    simpa [e] using this

theorem FS.app2 (h : FS w0 g B r fb ab f v1 v2 v3 w) (x : Ker) {v' : Value} (ho : w'.ownsRow w0.heap.size 48 3 v' (f.ker.length + 1) (kcells f.ker ++ x.cells)) (hg : w.grownBy w' v2.ownBlock) :
    FS w0 g B r fb ab { f with ker := f.ker ++ [x] } v1 v' v3 (w'.setCell ⟨fb, 6, none⟩ v') := by
  have hB := own_src h.o2 h.gb.size hg
  have hK := blk_own h.blk h.o2 (by decide) hg
  have hR := blk_own h.res h.o2 (by decide) hg
  have hA := blk_own h.alp h.o2 (by decide) hg
  have hS : Below w0.heap.size w (w'.setCell ⟨fb, 6, none⟩ v') := hB.setCell (p := ⟨fb, 6, none⟩) h.lf _
  have hO1 := own_keep2 h.o1 h.o2 (by decide) hg
  have hO3 := own_keep2 h.o3 h.o2 (by decide) hg
  have e : kcells (f.ker ++ [x]) = kcells f.ker ++ x.cells := by simp [kcells]
  refine ⟨?_, hR.far (p := ⟨fb, 6, none⟩) (fun e => h.nr e.symm) _, hA.far (p := ⟨fb, 6, none⟩) (hA.ne_ hK (by decide)) _, own_far (i := 6) hO1 (own_blk_ne hO1 hK (by decide)) _, ?_, own_far (i := 6) hO3 (own_blk_ne hO3 hK (by decide)) _,
    h.src.belowH hS h.gl, gb_below h.gb hS, h.gl, h.lf, h.lr, h.la, h.nr⟩
  · have := hK.set_ 6 v'
    simpa [Fnt.cv] using this
  · have := own_far (i := 6) ho (own_blk_ne ho hK (by decide)) v'
    simpa [e] using this

theorem FS.app3 (h : FS w0 g B r fb ab f v1 v2 v3 w) (x : Lig) {v' : Value} (ho : w'.ownsRow w0.heap.size 50 4 v' (f.lig.length + 1) (lcells f.lig ++ x.cells)) (hg : w.grownBy w' v3.ownBlock) :
    FS w0 g B r fb ab { f with lig := f.lig ++ [x] } v1 v2 v' (w'.setCell ⟨fb, 7, none⟩ v') := by
  have hB := own_src h.o3 h.gb.size hg
  have hK := blk_own h.blk h.o3 (by decide) hg
  have hR := blk_own h.res h.o3 (by decide) hg
  have hA := blk_own h.alp h.o3 (by decide) hg
  have hS : Below w0.heap.size w (w'.setCell ⟨fb, 7, none⟩ v') := hB.setCell (p := ⟨fb, 7, none⟩) h.lf _
  have hO1 := own_keep2 h.o1 h.o3 (by decide) hg
  have hO2 := own_keep2 h.o2 h.o3 (by decide) hg
  have e : lcells (f.lig ++ [x]) = lcells f.lig ++ x.cells := by simp [lcells]
  refine ⟨?_, hR.far (p := ⟨fb, 7, none⟩) (fun e => h.nr e.symm) _, hA.far (p := ⟨fb, 7, none⟩) (hA.ne_ hK (by decide)) _, own_far (i := 7) hO1 (own_blk_ne hO1 hK (by decide)) _, own_far (i := 7) hO2 (own_blk_ne hO2 hK (by decide)) _, ?_,
    h.src.belowH hS h.gl, gb_below h.gb hS, h.gl, h.lf, h.lr, h.la, h.nr⟩
  · have := hK.set_ 7 v'
    simpa [Fnt.cv] using this
  · have := own_far (i := 7) ho (own_blk_ne ho hK (by decide)) v'
    simpa [e] using this
end

/-! ### It is valid -/
def lastT : Int → List Adv → Int
  | p, [] => p
  | _, x :: t => lastT x.t t
theorem advOrd_snoc (l : List Adv) (x : Adv) : ∀ p, advOrd p (l ++ [x]) = (advOrd p l && decide (lastT p l < x.f ∧ x.f ≤ x.t)) := by
  induction l with
  | nil => intro p; rw [Bool.eq_iff_iff]; simp [advOrd, lastT]; exact decide_eq_true_iff.symm
  | cons y t ih => intro p; rw [Bool.eq_iff_iff]; simp [advOrd, lastT, ih, and_assoc]; intro _ _ _; exact decide_eq_true_iff.symm
theorem lastT_snoc (l : List Adv) (x : Adv) : ∀ p, lastT p (l ++ [x]) = x.t := by
  induction l with
  | nil => intro p; rfl
  | cons y t ih => intro p; exact ih _
theorem pw_snoc {α : Type} (p : α → α → Bool) (x : α) : ∀ l : List α, pw p l = true → (∀ k, l.getLast? = some k → p k x = true) → pw p (l ++ [x]) = true
  | [], _, _ => rfl
  | [y], _, h => by simp [pw, h y rfl]
  | y :: z :: t, hl, h => by
    simp only [pw, Bool.and_eq_true] at hl
    have ih := pw_snoc p x (z :: t) hl.2 (fun k hk => h k (by simpa [List.getLast?_cons_cons] using hk))
    simp only [List.cons_append] at ih ⊢
    simp only [pw, Bool.and_eq_true]
    exact ⟨hl.1, ih⟩

structure AInv (at_ : Int) (l : List Adv) : Prop where
  ord : advOrd (-1) l = true
  las : lastT (-1) l = at_
  ok : l.all advOk = true
theorem AInv.nil : AInv (-1) [] := ⟨rfl, rfl, rfl⟩
theorem AInv.snoc {at_ a b w : Int} {l : List Adv} (h : AInv at_ l) (h1 : at_ < a) (h2 : 0 ≤ a) (h3 : a ≤ b) (h4 : b ≤ 1114111) (h5 : 0 ≤ w) (h6 : w ≤ 4096) : AInv b (l ++ [⟨a, b, w⟩]) := by
  refine ⟨?_, lastT_snoc _ _ _, ?_⟩
  · rw [advOrd_snoc, h.ord, h.las]; simp; omega
  · simp only [List.all_append, h.ok, List.all_cons, List.all_nil, Bool.and_true, Bool.true_and, advOk, inB, Bool.and_eq_true, decide_eq_true_eq]; omega
structure KInv (x y : Int) (l : List Ker) : Prop where
  ord : kerOrd l = true
  las : ∀ k, l.getLast? = some k → k.a = x ∧ k.b = y
  ok : l.all kerOk = true
theorem KInv.nil (x y : Int) : KInv x y [] := ⟨rfl, fun k hk => by simp at hk, rfl⟩
theorem KInv.snoc {x y p q d : Int} {l : List Ker} (h : KInv x y l) (h1 : x < p ∨ x = p ∧ y < q) (h2 : 0 ≤ p ∧ p ≤ 1114111) (h3 : 0 ≤ q ∧ q ≤ 1114111) (h4 : -1000 ≤ d ∧ d ≤ 1000) : KInv p q (l ++ [⟨p, q, d⟩]) := by
  refine ⟨pw_snoc _ _ _ h.ord (fun k hk => ?_), fun k hk => ?_, ?_⟩
  · obtain ⟨e1, e2⟩ := h.las k hk
    simp only [kerLt, ltB, decide_eq_true_eq]; omega
  · simp at hk; subst hk; exact ⟨rfl, rfl⟩
  · simp only [List.all_append, h.ok, List.all_cons, List.all_nil, Bool.and_true, Bool.true_and, kerOk, inB, Bool.and_eq_true, decide_eq_true_eq]; omega
structure LInv (x y : Int) (l : List Lig) : Prop where
  ord : ligOrd l = true
  las : ∀ k, l.getLast? = some k → k.a = x ∧ k.b = y
  ok : l.all ligOk = true
theorem LInv.nil (x y : Int) : LInv x y [] := ⟨rfl, fun k hk => by simp at hk, rfl⟩
theorem LInv.snoc {x y p q g d : Int} {l : List Lig} (h : LInv x y l) (h1 : x < p ∨ x = p ∧ y < q) (h2 : 0 ≤ p ∧ p ≤ 1114111) (h3 : 0 ≤ q ∧ q ≤ 1114111) (h4 : 1114112 ≤ g ∧ g ≤ 2097151) (h5 : 0 ≤ d ∧ d ≤ 4096) : LInv p q (l ++ [⟨p, q, g, d⟩]) := by
  refine ⟨pw_snoc _ _ _ h.ord (fun k hk => ?_), fun k hk => ?_, ?_⟩
  · obtain ⟨e1, e2⟩ := h.las k hk
    simp only [ligLt, ltB, decide_eq_true_eq]; omega
  · simp at hk; subst hk; exact ⟨rfl, rfl⟩
  · simp only [List.all_append, h.ok, List.all_cons, List.all_nil, Bool.and_true, Bool.true_and, ligOk, inB, Bool.and_eq_true, decide_eq_true_eq]; omega

theorem built_vld {u a d g df at_ x y x' y' : Int} {l : List Adv} {m : List Ker} {n : List Lig} (hl : AInv at_ l) (hm : KInv x y m) (hn : LInv x' y' n) (l1 : l.length ≤ 4) (l2 : m.length ≤ 5) (l3 : n.length ≤ 4)
    (hu : 16 ≤ u ∧ u ≤ 200) (ha : 1 ≤ a ∧ a ≤ 100) (hd : 0 ≤ d ∧ d < 40) (hg : 0 ≤ g ∧ g < 30) (hdf : 0 ≤ df ∧ df < 120) : vld ⟨u, a, d, g, df, l, m, n⟩ = 0 := by
  have h1 : longB ⟨u, a, d, g, df, l, m, n⟩ = false := by simp [longB]; omega
  have h2 : rangesB ⟨u, a, d, g, df, l, m, n⟩ = true := by
    simp only [rangesB, hl.ok, hm.ok, hn.ok, Bool.and_true, headOk, inB, Bool.and_eq_true, decide_eq_true_eq]; omega
  have h3 : ordB ⟨u, a, d, g, df, l, m, n⟩ = true := by simp [ordB, hl.ord, hm.ord, hn.ord]
  simp [vld, h1, h2, h3]
end Go.Proofs.Ytagokefbbdlpcaa
