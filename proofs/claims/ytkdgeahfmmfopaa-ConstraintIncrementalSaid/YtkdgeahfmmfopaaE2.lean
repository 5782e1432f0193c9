/- New, Add, Remove of the constraint solver and Without of the reference walked. -/
import Derived.Test.YtkdgeahfmmfopaaE1
import Derived.Test.YtkdgeahfmmfopaaB4
import Derived.Deep.RegionHeld3
import Derived.IntWalk
namespace Go.Proofs.Ytkdgeahfmmfopaa
set_option linter.unusedVariables false
set_option linter.unusedSimpArgs false
open Go.RowKit

theorem solvedF_form {vars : Int} {l : List Con} {r : Sol} {w w' : World} {e : Ending} (h : SolvedAsF vars l r w e w') :
    ∃ (x : Int) (A : Option Addr) (n c : Nat) (A2 : Option Addr) (n2 c2 : Nat) (A3 : Option Addr) (n3 c3 : Nat) (k : Int), e = .returned (.tuple #[.agg #[.int .i64 x, .slice A n c, .slice A2 n2 c2, .slice A3 n3 c3], .int .i64 k]) := by
  cases r with
  | err k => exact ⟨_, _, _, _, _, _, _, _, _, _, k, h.1⟩
  | ok hd vs =>
    obtain ⟨v, rfl, ⟨⟨v1, v2, v3, rfl, ⟨_, _, rfl, _⟩, ⟨_, _, rfl, _⟩, ⟨_, _, rfl, _⟩⟩, _⟩, _⟩ := h
    exact ⟨_, _, _, _, _, _, _, _, _, _, 0, rfl⟩

theorem solvedF_below {vars : Int} {l : List Con} {r : Sol} {w w' : World} {e : Ending} (h : SolvedAsF vars l r w e w') : Below w.heap.size w w' := by
  cases r with
  | err k => exact h.2
  | ok hd vs => obtain ⟨v, _, _, hb⟩ := h; exact hb

theorem SlR.far {w : World} {size n : Nat} {v : Value} {xs : List Value} (h : SlR w size n v xs) {G : Nat} (hG : ∀ g, v.ownBlock = some g → g ≠ G) (i : Nat) (u : Value) : SlR (w.setCell ⟨G, i, none⟩ u) size n v xs := by
  obtain ⟨A, c, rfl, h1, h2, h3, h4, h5⟩ := h
  refine ⟨A, c, rfl, h1, h2, h3, h4, fun hn => ?_⟩
  obtain ⟨ad, rfl, hb, hc⟩ := h5 hn
  refine ⟨ad, rfl, by simpa [World.setCell] using hb, fun j u' hu => ?_⟩
  rw [World.cell?_setCell_other _ _ _ _ (fun e => hG ad.block rfl (by have := congrArg Addr.block e; rw [block_of_add] at this; exact this.symm))]
  exact hc j u' hu
theorem SlR.far4 {w : World} {size n : Nat} {v : Value} {xs : List Value} (h : SlR w size n v xs) {G : Nat} (hG : ∀ g, v.ownBlock = some g → g ≠ G) (u0 u1 u2 u3 : Value) :
    SlR ((((w.setCell ⟨G, 0, none⟩ u0).setCell ⟨G, 1, none⟩ u1).setCell ⟨G, 2, none⟩ u2).setCell ⟨G, 3, none⟩ u3) size n v xs :=
  (((h.far hG 0 u0).far hG 1 u1).far hG 2 u2).far hG 3 u3

/-- The answer handed on by a caller whose result cells lie in block G. -/
theorem solvedF_up {vars : Int} {l : List Con} {r : Sol} {w w0 w1 : World} {e : Ending} {G : Nat} (h : SolvedAsF vars l r w0 e w1)
    (hb : Below w.heap.size w w0) (hG : w.heap.size ≤ G) (hG2 : G < w0.heap.size) (u0 u1 u2 u3 : Value) :
    SolvedAsF vars l r w e ((((w1.setCell ⟨G, 0, none⟩ u0).setCell ⟨G, 1, none⟩ u1).setCell ⟨G, 2, none⟩ u2).setCell ⟨G, 3, none⟩ u3) := by
  have hb1 := solvedF_below h
  have hb2 : Below w.heap.size w ((((w1.setCell ⟨G, 0, none⟩ u0).setCell ⟨G, 1, none⟩ u1).setCell ⟨G, 2, none⟩ u2).setCell ⟨G, 3, none⟩ u3) :=
    below_set4' (hb.trans (hb1.mono hb.size)) hG _ _ _ _
  cases r with
  | err k => exact ⟨h.1, hb2⟩
  | ok hd vs =>
    obtain ⟨v, rfl, ⟨⟨v1, v2, v3, rfl, a1, a2, a3⟩, hf⟩, _⟩ := h
    have hne : ∀ u ∈ [v1, v2, v3], ∀ g, u.ownBlock = some g → g ≠ G := fun u hu g hg => by
      have := hf u (by simp at hu ⊢; exact .inr hu) g hg
      omega
    refine ⟨_, rfl, ⟨⟨v1, v2, v3, rfl, a1.far4 (hne v1 (by simp)) _ _ _ _, a2.far4 (hne v2 (by simp)) _ _ _ _, a3.far4 (hne v3 (by simp)) _ _ _ _⟩, fun u hu g hg => ?_⟩, hb2⟩
    have := hf u hu g hg
    have := hb.size
    omega

theorem res4 {w w0 w1 : World} {B : Nat} (hk : Blk w0 B 26 sysZ) (hb : Below w0.heap.size w0 w1) :
    w1.cell? ⟨B, 0, none⟩ = some (.int .i64 0) ∧ w1.cell? ⟨B, 1, none⟩ = some (.slice none 0 0) ∧ w1.cell? ⟨B, 2, none⟩ = some (.slice none 0 0) ∧ w1.cell? ⟨B, 3, none⟩ = some (.slice none 0 0) ∧
    w1.frozen? ⟨B, 0, none⟩ = false ∧ w1.frozen? ⟨B, 1, none⟩ = false ∧ w1.frozen? ⟨B, 2, none⟩ = false ∧ w1.frozen? ⟨B, 3, none⟩ = false := by
  have hk := hk.below hb hk.lt
  refine ⟨?_, ?_, ?_, ?_, hk.frozen 0, hk.frozen 1, hk.frozen 2, hk.frozen 3⟩ <;> (rw [hk.cell]; try rfl)

theorem new2_any (vars : Int) (w : World) : Calls Try.prog 19 #[.int .i64 vars] w (SolvedAsF vars [] (iSolve vars []) w) := by
  go_enter Try.func19, Try.ntmps19
  go_wp2_with fail
  refine (solve_anyF vars none 0 0 0 [] _ rfl Reads.none_ (Nat.zero_le _) (fun _ => ⟨rfl, rfl⟩)).mono ?_
  intro e w1 hs
  obtain ⟨x, A, n, c, A2, n2, c2, A3, n3, c3, k, rfl⟩ := solvedF_form hs
  obtain ⟨q0, q1, q2, q3, f0, f1, f2, f3⟩ := res4 (w := w) (Blk.new w 26 sysZ) (solvedF_below hs)
  have HS := Lib.hid hs
  clear hs
  go_wp2
  exact bodyPost_ret (v := .tuple #[.agg #[.int .i64 x, .slice A n c, .slice A2 n2 c2, .slice A3 n3 c3], .int .i64 k]) (by simp [results, Try.results19, go_sem, q0, q1, q2, q3]) rfl
    (solvedF_up HS.out ((Below.refl _ _).alloc (Nat.le_refl _) _) (Nat.le_refl _) (by simp) _ _ _ _)

set_option maxRecDepth 100000 in
theorem rem_err (vars : Int) (A : Option Addr) (n c : Nat) (v2 v3 : Value) (i : Int) (w : World) (hi : i < 0 ∨ (n : Int) ≤ i) :
    Calls Try.prog 20 #[.agg #[.int .i64 vars, .slice A n c, v2, v3], .int .i64 i] w fun e w' => e = .returned (.tuple #[zeroSys, .int .i64 7]) ∧ Below w.heap.size w w' := by
  by_cases h0 : i < 0
  · have hd : decide (i < 0) = true := by simpa using h0
    go_enter Try.func20, Try.ntmps20
    go_wp2
    exact bodyPost_ret (v := .tuple #[zeroSys, .int .i64 7]) (by simp [results, Try.results20, go_sem, zeroSys]) rfl ⟨rfl, (((Below.refl w.heap.size w).alloc (Nat.le_refl _) _).alloc (by simp) _)⟩
  · have hd : decide (i < 0) = false := by simpa using h0
    have hn : (n : Int) ≤ i := by omega
    go_enter Try.func20, Try.ntmps20
    go_wp2
    exact bodyPost_ret (v := .tuple #[zeroSys, .int .i64 7]) (by simp [results, Try.results20, go_sem, zeroSys]) rfl ⟨rfl, (((Below.refl w.heap.size w).alloc (Nat.le_refl _) _).alloc (by simp) _)⟩

set_option maxRecDepth 100000 in
theorem rem_any (vars : Int) (l : List Con) (n c i : Nat) (LV v2 v3 : Value) (A : Option Addr) (w : World) (hL : SlR w 5 n (.slice A n c) (conCells l)) (hl : l.length = n) (hn : n ≤ 1000) (hi : i < n) :
    Calls Try.prog 20 #[.agg #[.int .i64 vars, .slice A n c, v2, v3], .int .i64 (i : Int)] w (SolvedAsF vars (l.eraseIdx i) (iSolve vars (l.eraseIdx i)) w) := by
  have hd : decide ((i : Int) < 0) = false := by simp
  have hnc : (i : Int) < (n : Int) := by omega
  obtain ⟨A', c', hv, hle, hm, hnil, hr⟩ := hL
  injection hv with hv1 hv2 hv3
  subst hv1 hv3
  have HN := Lib.hid hnil
  have HR := Lib.hid hr
  clear hnil hr hv2
  have hk := Blk.new w 26 #[.int .i64 vars, .slice A n c, v2, v3]
  have c0 : (w.alloc (.cells #[.int .i64 vars, .slice A n c, v2, v3] 26)).cell? ⟨w.heap.size, 0, none⟩ = some (.int .i64 vars) := by rw [hk.cell]; rfl
  have c1 : (w.alloc (.cells #[.int .i64 vars, .slice A n c, v2, v3] 26)).cell? ⟨w.heap.size, 1, none⟩ = some (.slice A n c) := by rw [hk.cell]; rfl
  go_enter Try.func20, Try.ntmps20
  go_wp2
  have HK0 := Lib.hid (Blk.new (w.alloc (.cells #[.int .i64 vars, .slice A n c, v2, v3] 26)) 26 sysZ)
  have HR0 := Lib.hid ((HR.out.alloc (Nat.le_refl _) (.cells #[.int .i64 vars, .slice A n c, v2, v3] 26)).alloc (by simp) (.cells sysZ 26))
  have HB0 := Lib.hid (((Below.refl w.heap.size w).alloc (Nat.le_refl _) (.cells #[.int .i64 vars, .slice A n c, v2, v3] 26)).alloc (by simp) (.cells sysZ 26))
  have d0 : ((w.alloc (.cells #[.int .i64 vars, .slice A n c, v2, v3] 26)).alloc (.cells sysZ 26)).cell? ⟨w.heap.size, 0, none⟩ = some (.int .i64 vars) := by rw [World.cell?_alloc_lt _ _ _ (by simp)]; exact c0
  have d1 : ((w.alloc (.cells #[.int .i64 vars, .slice A n c, v2, v3] 26)).alloc (.cells sysZ 26)).cell? ⟨w.heap.size, 1, none⟩ = some (.slice A n c) := by rw [World.cell?_alloc_lt _ _ _ (by simp)]; exact c1
  have hz : w.heap.size + 2 = ((w.alloc (.cells #[.int .i64 vars, .slice A n c, v2, v3] 26)).alloc (.cells sysZ 26)).heap.size := by simp
  rw [show (w.alloc (.cells #[.int .i64 vars, .slice A n c, v2, v3] 26)).heap.size = w.heap.size + 1 by simp] at HK0
  generalize (w.alloc (Obj.cells #[.int .i64 vars, .slice A n c, v2, v3] 26)).alloc (Obj.cells sysZ 26) = W0 at *
  clear hk c0 c1
  have HZ := Lib.hid hz
  clear hz
  have hwrap : IntKind.i64.wrap ((i : Int) + 1) = (i : Int) + 1 := IntWalk.i64_in _ (by omega)
  go_region_held3 (fun w' => w'.cell? ⟨w.heap.size, 0, none⟩ = some (.int .i64 vars) ∧ w'.cell? ⟨w.heap.size, 1, none⟩ = some (.slice A n c)) (go_keep)
    (first
      | (go_at_call 24; refine (clone_con A n c w.heap.size (conCells l) _ HN.out HR0.out.drew (by have := HZ.out; simp; omega) (flat_con l) (by omega)).mono ?_; rintro e w1 ⟨u1, rfl, hown1, hb1⟩
         have HBW1 := Lib.hid (show Below W0.heap.size W0 w1 from ((Below.refl _ _).drew.trans hb1))
         obtain ⟨g1, k1, rfl, hg1, hg1', hnk1⟩ := own_form hown1 (by omega)
         have hg1z : W0.heap.size ≤ g1 := hg1
         have HO1 := Lib.hid hown1
         have k0 := (HBW1.out.cell (p := ⟨w.heap.size, 0, none⟩) (by have := HZ.out; simp; omega)).trans d0
         have k1 := (HBW1.out.cell (p := ⟨w.heap.size, 1, none⟩) (by have := HZ.out; simp; omega)).trans d1
         clear hown1 hb1 hg1)
      | (go_at_call 32; refine (del_any _ g1 n _ i l _ HO1.out hi hl).mono ?_; rintro e w2 ⟨rfl, hown2, hgr2⟩
         have HBW2 := Lib.hid (HBW1.out.grown hgr2 HBW1.out.size (fun k hk => by cases hk; exact hg1z))
         have k0 := (HBW2.out.cell (p := ⟨w.heap.size, 0, none⟩) (by have := HZ.out; simp; omega)).trans d0
         have k1 := (HBW2.out.cell (p := ⟨w.heap.size, 1, none⟩) (by have := HZ.out; simp; omega)).trans d1
         obtain ⟨A2, c2, hv2, hle2, _, hnil2, hr2⟩ := own_slr hown2
         injection hv2 with hv21 hv22 hv23
         subst hv21 hv23
         have HR2 := Lib.hid hr2
         have HN2 := Lib.hid hnil2
         clear hown2 hgr2 hnil2 hr2 hv22)
      | (go_at_call 10; refine (solve_anyF vars _ (n - 1) _ _ (l.eraseIdx i) _ (by rw [List.length_eraseIdx_of_lt (by omega), hl]) HR2.out (Nat.le_refl _) HN2.out).mono ?_
         intro e w3 hs
         obtain ⟨x, A4, n4, c4, A5, n5, c5, A6, n6, c6, k, rfl⟩ := solvedF_form hs
         obtain ⟨q0, q1, q2, q3, f0, f1, f2, f3⟩ := res4 (w := w) (HK0.out.below HBW2.out HK0.out.lt) (solvedF_below hs)
         have HBW3 := Lib.hid (HBW2.out.trans ((solvedF_below hs).mono HBW2.out.size))
         have k0 := (HBW3.out.cell (p := ⟨w.heap.size, 0, none⟩) (by have := HZ.out; simp; omega)).trans d0
         have k1 := (HBW3.out.cell (p := ⟨w.heap.size, 1, none⟩) (by have := HZ.out; simp; omega)).trans d1
         have HS := Lib.hid hs
         clear hs)
      | fail)
  clear hwrap
  go_wp2
  have hz2 : w.heap.size + 1 < w2.heap.size := by have := HZ.out; have := HBW2.out.size; omega
  exact bodyPost_ret (v := .tuple #[.agg #[.int .i64 x, .slice A4 n4 c4, .slice A5 n5 c5, .slice A6 n6 c6], .int .i64 k]) (by simp [results, Try.results20, go_sem, q0, q1, q2, q3]) rfl
    (solvedF_up HS.out (HB0.out.trans (HBW2.out.mono HB0.out.size)) (by omega) hz2 _ _ _ _)

theorem addS4 {w1 : World} {H n c : Nat} {vars cA cB cR cC cS : Int} {A : Option Addr} (h : w1.cell? ⟨H, 0, none⟩ = some (.int .i64 vars) ∧ w1.cell? ⟨H, 1, none⟩ = some (.slice A n c) ∧ w1.cell? ⟨H + 1, 0, none⟩ = some (.int .i64 cA) ∧ w1.cell? ⟨H + 1, 1, none⟩ = some (.int .i64 cB) ∧ w1.cell? ⟨H + 1, 2, none⟩ = some (.int .i64 cR) ∧ w1.cell? ⟨H + 1, 3, none⟩ = some (.int .i64 cC) ∧ w1.cell? ⟨H + 1, 4, none⟩ = some (.int .i64 cS)) (u0 u1 u2 u3 : Value) :
    let w2 := ((((w1.setCell ⟨H + 1 + 1, 0, none⟩ u0).setCell ⟨H + 1 + 1, 1, none⟩ u1).setCell ⟨H + 1 + 1, 2, none⟩ u2).setCell ⟨H + 1 + 1, 3, none⟩ u3)
    w2.cell? ⟨H, 0, none⟩ = some (.int .i64 vars) ∧ w2.cell? ⟨H, 1, none⟩ = some (.slice A n c) ∧ w2.cell? ⟨H + 1, 0, none⟩ = some (.int .i64 cA) ∧ w2.cell? ⟨H + 1, 1, none⟩ = some (.int .i64 cB) ∧ w2.cell? ⟨H + 1, 2, none⟩ = some (.int .i64 cR) ∧ w2.cell? ⟨H + 1, 3, none⟩ = some (.int .i64 cC) ∧ w2.cell? ⟨H + 1, 4, none⟩ = some (.int .i64 cS) := by
  have k : ∀ (q : Addr), q.block < H + 1 + 1 → ((((w1.setCell ⟨H + 1 + 1, 0, none⟩ u0).setCell ⟨H + 1 + 1, 1, none⟩ u1).setCell ⟨H + 1 + 1, 2, none⟩ u2).setCell ⟨H + 1 + 1, 3, none⟩ u3).cell? q = w1.cell? q := fun q hq => by
    rw [World.cell?_setCell_other _ _ _ _ (by rintro rfl; simp at hq), World.cell?_setCell_other _ _ _ _ (by rintro rfl; simp at hq), World.cell?_setCell_other _ _ _ _ (by rintro rfl; simp at hq), World.cell?_setCell_other _ _ _ _ (by rintro rfl; simp at hq)]
  intro w2
  refine ⟨?_, ?_, ?_, ?_, ?_, ?_, ?_⟩ <;> (show World.cell? _ _ = _; rw [k _ (by simp; try omega)]; simp [h])

theorem conCells_snoc (l : List Con) (cA cB cR cC cS : Int) : conCells (l ++ [⟨cA, cB, cR, cC, cS⟩]) = conCells l ++ (#[.int .i64 cA, .int .i64 cB, .int .i64 cR, .int .i64 cC, .int .i64 cS] : Array Value).toList := by simp [conCells, Con.cells]

theorem addS {W0 w1 : World} {H n c : Nat} {vars cA cB cR cC cS : Int} {A : Option Addr} {v2 v3 : Value} (h1 : Blk W0 H 26 #[.int .i64 vars, .slice A n c, v2, v3]) (h2 : Blk W0 (H + 1) 40 #[.int .i64 cA, .int .i64 cB, .int .i64 cR, .int .i64 cC, .int .i64 cS])
    (hb : Below W0.heap.size W0 w1) : w1.cell? ⟨H, 0, none⟩ = some (.int .i64 vars) ∧ w1.cell? ⟨H, 1, none⟩ = some (.slice A n c) ∧ w1.cell? ⟨H + 1, 0, none⟩ = some (.int .i64 cA) ∧ w1.cell? ⟨H + 1, 1, none⟩ = some (.int .i64 cB) ∧ w1.cell? ⟨H + 1, 2, none⟩ = some (.int .i64 cR) ∧ w1.cell? ⟨H + 1, 3, none⟩ = some (.int .i64 cC) ∧ w1.cell? ⟨H + 1, 4, none⟩ = some (.int .i64 cS) := by
  have k1 := h1.below hb h1.lt
  have k2 := h2.below hb h2.lt
  refine ⟨?_, ?_, ?_, ?_, ?_, ?_, ?_⟩ <;> first | (rw [k1.cell]; rfl) | (rw [k2.cell]; rfl)

set_option maxRecDepth 100000 in
set_option maxHeartbeats 400000 in
theorem add_any (vars : Int) (l : List Con) (n c : Nat) (v2 v3 : Value) (A : Option Addr) (cc : Con) (w : World) (hL : SlR w 5 n (.slice A n c) (conCells l)) (hl : l.length = n) (hn : n ≤ 1000) :
    Calls Try.prog 22 #[.agg #[.int .i64 vars, .slice A n c, v2, v3], cc.val] w (SolvedAsF vars (l ++ [cc]) (iSolve vars (l ++ [cc])) w) := by
  obtain ⟨i0, hi0, hz0, hz1, hz2⟩ := info_parts con_info
  obtain ⟨A', c', hv, hle, hm, hnil, hr⟩ := hL
  injection hv with hv1 hv2 hv3
  subst hv1 hv3
  have HN := Lib.hid hnil
  have HR := Lib.hid hr
  clear hnil hr hv2
  obtain ⟨cA, cB, cR, cC, cS⟩ := cc
  unfold Con.val
  dsimp only
  have hk := Blk.new w 26 #[.int .i64 vars, .slice A n c, v2, v3]
  have hk2 := Blk.new (w.alloc (.cells #[.int .i64 vars, .slice A n c, v2, v3] 26)) 40 #[.int .i64 cA, .int .i64 cB, .int .i64 cR, .int .i64 cC, .int .i64 cS]
  have hk3 := Blk.new ((w.alloc (.cells #[.int .i64 vars, .slice A n c, v2, v3] 26)).alloc (.cells #[.int .i64 cA, .int .i64 cB, .int .i64 cR, .int .i64 cC, .int .i64 cS] 40)) 26 sysZ
  rw [show ((w.alloc (.cells #[.int .i64 vars, .slice A n c, v2, v3] 26)).alloc (.cells #[.int .i64 cA, .int .i64 cB, .int .i64 cR, .int .i64 cC, .int .i64 cS] 40)).heap.size = w.heap.size + 1 + 1 by simp] at hk3
  rw [show (w.alloc (.cells #[.int .i64 vars, .slice A n c, v2, v3] 26)).heap.size = w.heap.size + 1 by simp] at hk2
  have hk2' := hk2.alloc (.cells sysZ 26)
  have hk' := (hk.alloc (.cells #[.int .i64 cA, .int .i64 cB, .int .i64 cR, .int .i64 cC, .int .i64 cS] 40)).alloc (.cells sysZ 26)
  have HR0 := Lib.hid (((HR.out.alloc (Nat.le_refl _) (.cells #[.int .i64 vars, .slice A n c, v2, v3] 26)).alloc (by simp) (.cells #[.int .i64 cA, .int .i64 cB, .int .i64 cR, .int .i64 cC, .int .i64 cS] 40)).alloc (by simp; omega) (.cells sysZ 26))
  have HB0 := Lib.hid ((((Below.refl w.heap.size w).alloc (Nat.le_refl _) (.cells #[.int .i64 vars, .slice A n c, v2, v3] 26)).alloc (by simp) (.cells #[.int .i64 cA, .int .i64 cB, .int .i64 cR, .int .i64 cC, .int .i64 cS] 40)).alloc (by simp; omega) (.cells sysZ 26))
  have HZ := Lib.hid (show w.heap.size + 3 = (((w.alloc (.cells #[.int .i64 vars, .slice A n c, v2, v3] 26)).alloc (.cells #[.int .i64 cA, .int .i64 cB, .int .i64 cR, .int .i64 cC, .int .i64 cS] 40)).alloc (.cells sysZ 26)).heap.size by simp)
  have HK := Lib.hid hk'
  have HK2 := Lib.hid hk2'
  have HK3 := Lib.hid hk3
  clear hk hk2 hk3 hk' hk2'
  go_enter Try.func22, Try.ntmps22
  go_wp2
  generalize ((w.alloc (.cells #[.int .i64 vars, .slice A n c, v2, v3] 26)).alloc (.cells #[.int .i64 cA, .int .i64 cB, .int .i64 cR, .int .i64 cC, .int .i64 cS] 40)).alloc (.cells sysZ 26) = W0 at *
  have c0 : W0.cell? ⟨w.heap.size, 0, none⟩ = some (.int .i64 vars) := by rw [HK.out.cell]; rfl
  have c1 : W0.cell? ⟨w.heap.size, 1, none⟩ = some (.slice A n c) := by rw [HK.out.cell]; rfl
  have e0 : W0.cell? ⟨w.heap.size + 1, 0, none⟩ = some (.int .i64 cA) := by rw [HK2.out.cell]; rfl
  have e1 : W0.cell? ⟨w.heap.size + 1, 1, none⟩ = some (.int .i64 cB) := by rw [HK2.out.cell]; rfl
  have e2 : W0.cell? ⟨w.heap.size + 1, 2, none⟩ = some (.int .i64 cR) := by rw [HK2.out.cell]; rfl
  have e3 : W0.cell? ⟨w.heap.size + 1, 3, none⟩ = some (.int .i64 cC) := by rw [HK2.out.cell]; rfl
  have e4 : W0.cell? ⟨w.heap.size + 1, 4, none⟩ = some (.int .i64 cS) := by rw [HK2.out.cell]; rfl
  have HBX := Lib.hid (Below.refl W0.heap.size W0).drew
  go_region_held3 (fun w' => w'.cell? ⟨w.heap.size, 0, none⟩ = some (.int .i64 vars) ∧ w'.cell? ⟨w.heap.size, 1, none⟩ = some (.slice A n c) ∧ w'.cell? ⟨w.heap.size + 1, 0, none⟩ = some (.int .i64 cA) ∧ w'.cell? ⟨w.heap.size + 1, 1, none⟩ = some (.int .i64 cB) ∧ w'.cell? ⟨w.heap.size + 1, 2, none⟩ = some (.int .i64 cR) ∧ w'.cell? ⟨w.heap.size + 1, 3, none⟩ = some (.int .i64 cC) ∧ w'.cell? ⟨w.heap.size + 1, 4, none⟩ = some (.int .i64 cS)) (first | with_reducible assumption | with_reducible exact addS4 (by assumption) _ _ _ _ | go_keep)
    (first
      | (go_at_call 24; refine (clone_con A n c w.heap.size (conCells l) _ HN.out (by first | exact HR0.out.drew | exact HR0.out.drew.alloc (by have := HZ.out; simp; omega) _) (by have := HZ.out; simp; omega) (flat_con l) (by omega)).mono ?_; rintro e w1 ⟨u1, rfl, hown1, hb1⟩
         have HO1 := Lib.hid hown1
         have HB1 := Lib.hid hb1
         have HBX := Lib.hid (show Below W0.heap.size W0 w1 by first | exact (Below.refl _ _).drew.trans hb1 | exact ((Below.refl _ _).drew.alloc (Nat.le_refl _) _).trans (hb1.mono (by simp)))
         have HSK := addS HK.out HK2.out HBX.out
         clear hown1 hb1)
      | (first
           | (refine step_append_any _ (by rfl) (.tmp 10) (.tmp 12) _ (by rfl) W0.drew.heap.size 40 i0 _ 5 40 Try.underlying22 hi0 hz0 hz1 hz2 rfl (by omega) _ n (conCells l) (by rfl)
                (HO1.out.alloc _) _ _ 1 1 _ (by rfl) (reads_new w1 #[.int .i64 cA, .int .i64 cB, .int .i64 cR, .int .i64 cC, .int .i64 cS] 40 5 1 rfl) (by intro u hu; simp at hu; rcases hu with rfl | rfl | rfl | rfl | rfl <;> rfl) (by simp only [maxLen]; omega) (by omega) (by have := HBX.out.size; simp; omega) ?_
              intro v13 w13 hown13 hg13 hat13
              have HBX := Lib.hid ((HBX.out.alloc HBX.out.size _).grown hg13 (by have := HBX.out.size; simp; omega) (fun k hk => (HO1.out.lt k hk).1))
              clear HSK
              have HSK := addS HK.out HK2.out HBX.out
              obtain ⟨A13, k13, rfl, hle13, _, hnil13, hr13⟩ := own_slr hown13
              rw [← conCells_snoc] at hr13
              have HR13 := Lib.hid hr13
              have HN13 := Lib.hid hnil13
              clear hown13 hg13 hat13 hr13 hnil13)
           | (refine step_append_any _ (by rfl) (.tmp 10) (.tmp 12) _ (by rfl) W0.drew.heap.size 40 i0 _ 5 40 Try.underlying22 hi0 hz0 hz1 hz2 rfl (by omega) _ n (conCells l) (by rfl)
                (own_base HO1.out (by simp)) _ _ 1 1 _ (by rfl) ((reads_new W0.drew #[.int .i64 cA, .int .i64 cB, .int .i64 cR, .int .i64 cC, .int .i64 cS] 40 5 1 rfl).below HB1.out) (by intro u hu; simp at hu; rcases hu with rfl | rfl | rfl | rfl | rfl <;> rfl) (by simp only [maxLen]; omega) (by omega) (by have := HBX.out.size; simp; omega) ?_
              intro v13 w13 hown13 hg13 hat13
              have HBX := Lib.hid (HBX.out.grown hg13 (by have := HBX.out.size; simp; omega) (fun k hk => by have := (HO1.out.lt k hk).1; simp at this; omega))
              clear HSK
              have HSK := addS HK.out HK2.out HBX.out
              obtain ⟨A13, k13, rfl, hle13, _, hnil13, hr13⟩ := own_slr hown13
              rw [← conCells_snoc] at hr13
              have HR13 := Lib.hid hr13
              have HN13 := Lib.hid hnil13
              clear hown13 hg13 hat13 hr13 hnil13))
      | (go_at_call 10; refine (solve_anyF vars _ (n + 1) _ _ (l ++ [⟨cA, cB, cR, cC, cS⟩]) _ (by simp [hl]) HR13.out (Nat.le_refl _) HN13.out).mono ?_
         intro e w3 hs
         obtain ⟨x, A4, n4, c4, A5, n5, c5, A6, n6, c6, k, rfl⟩ := solvedF_form hs
         obtain ⟨q0, q1, q2, q3, f0, f1, f2, f3⟩ := res4 (w := w) (HK3.out.below HBX.out HK3.out.lt) (solvedF_below hs)
         have HBS := Lib.hid HBX.out
         have HBX := Lib.hid (HBX.out.trans ((solvedF_below hs).mono HBX.out.size))
         clear HSK
         have HSK := addS HK.out HK2.out HBX.out
         have HS := Lib.hid hs
         clear hs)
      | fail)
  all_goals
    go_wp2
    have hz2 : w.heap.size + 1 + 1 < w13.heap.size := by have := HZ.out; have := HBS.out.size; omega
    exact bodyPost_ret (v := .tuple #[.agg #[.int .i64 x, .slice A4 n4 c4, .slice A5 n5 c5, .slice A6 n6 c6], .int .i64 k]) (by simp [results, Try.results22, go_sem, q0, q1, q2, q3]) rfl
      (solvedF_up HS.out (HB0.out.trans (HBS.out.mono HB0.out.size)) (by omega) hz2 _ _ _ _)
end Go.Proofs.Ytkdgeahfmmfopaa
