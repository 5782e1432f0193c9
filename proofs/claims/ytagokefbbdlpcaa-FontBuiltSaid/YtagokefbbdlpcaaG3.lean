/- Rune of the source of numbers, the plain font, the check of the font statements walked. -/
import Derived.Test.YtagokefbbdlpcaaG2
import Derived.Outline
namespace Go.Proofs.Ytagokefbbdlpcaa
set_option linter.unusedVariables false
set_option linter.unusedSimpArgs false
open Go.RowKit

def AB : Array Value := (rcells ALPH).toArray
theorem ab_at (i : Nat) (h : i < 89) : ∃ p : Int, AB[i]? = some (.int .i32 p) ∧ 0 ≤ p ∧ p ≤ 1114111 := by
  have hl : i < ALPH.length := by rw [alph_len]; exact h
  refine ⟨ALPH[i], by simpa [AB] using rcells_at ALPH i hl, ?_⟩
  have := List.all_eq_true.1 alph_bd _ (List.getElem_mem hl)
  simpa using this

def AlphIs (w : World) (e : Ending) (w' : World) : Prop :=
  ∃ b, e = .returned (.slice (some ⟨b, 0, none⟩) 89 89) ∧ w.heap.size ≤ b ∧ Blk w' b 21 AB ∧ Below w.heap.size w w'
set_option maxRecDepth 100000 in
set_option maxHeartbeats 1000000 in
theorem alph_any (w : World) : Calls Try.prog 43 #[] w (AlphIs w) := by
  go_enter Try.func43, Try.ntmps43
  go_wp2
  go_ret
  exact ⟨w.heap.size, rfl, Nat.le_refl _, Blk.new _ _ _, (Below.refl _ _).alloc (Nat.le_refl _) _⟩

def RuneIn (g B : Nat) (w : World) (e : Ending) (w' : World) : Prop :=
  ∃ r : Int, e = .returned (.int .i32 r) ∧ -2147483648 ≤ r ∧ r ≤ 2147483647 ∧ SrcIs w' g B ∧ w.grownBy w' (some g)

theorem w32_bd (x : Int) : -2147483648 ≤ wrap32 x ∧ wrap32 x ≤ 2147483647 := by
  unfold wrap32
  omega

theorem rune_any (g B : Nat) (w : World) (h : SrcIs w g B) : Calls Try.prog 26 #[.pointer (some ⟨g, 0, none⟩)] w (RuneIn g B w) := by
  have hg := h.lt
  go_enter Try.func26, Try.ntmps26
  go_wp2_with fail
  refine (alph_any _).mono ?_
  rintro e w1 ⟨b, rfl, hb, hblk, hbl⟩
  have hs1 := h.belowH hbl hg
  have HBL := Lib.hid hbl
  have HBK := Lib.hid hblk
  clear hbl hblk
  go_wp2_with fail
  refine (chance_any g B _ _ hs1 (by omega) (by omega)).mono ?_
  rintro e w2 ⟨c, rfl, hs2, hg2⟩
  have HG2 := Lib.hid (show w.grownBy w2 (some g) from gb_trans (gb_below (World.grownBy.refl _ _) HBL.out) hg2)
  have HBK2 := Lib.hid (blk_gb HBK.out hg2 (by omega))
  clear hg2
  cases c with
  | true =>
    go_wp2_with fail
    refine (raw_any g B _ hs2).mono ?_
    rintro e w3 ⟨x, rfl, x0, x1, hs3, hg3⟩
    go_wp2
    go_ret
    exact ⟨_, rfl, (w32_bd _).1, (w32_bd _).2, hs3, gb_trans HG2.out hg3⟩
  | false =>
    go_wp2_with fail
    refine (n_any g B _ _ hs2 (by omega) (by omega)).mono ?_
    rintro e w3 ⟨x, rfl, x0, x1, _, hs3, hg3⟩
    have x2 := x1 (by omega)
    clear x1
    obtain ⟨i, rfl⟩ := Int.eq_ofNat_of_zero_le x0
    obtain ⟨p, hp, p0, p1⟩ := ab_at i (by omega)
    have hbk3 := blk_gb HBK2.out hg3 (by omega)
    have hc : w3.cell? ⟨b, i, none⟩ = some (.int .i32 p) := by rw [hbk3.cell]; exact hp
    have hi : (i : Int) < 89 := by omega
    clear hbk3 hp
    go_wp2
    go_ret
    exact ⟨p, rfl, by omega, by omega, hs3, gb_trans HG2.out hg3⟩

def PL : Fnt := ⟨1000, 800, 200, 0, 500, [], [], []⟩
theorem pl_fm (w : World) : FM w PL none 0 none 0 none 0 := ⟨Reads.none_, Reads.none_, Reads.none_, by simp [PL], by simp [PL], by simp [PL]⟩

def PlainIs (w : World) (e : Ending) (w' : World) : Prop := e = .returned (PL.val none 0 none 0 none 0) ∧ Below w.heap.size w w'
theorem plain_any (w : World) : Calls Try.prog 47 #[] w (PlainIs w) := by
  have hb := Blk.new w 38 (PL.cs none 0 none 0 none 0)
  have c0 := hb.cell 0
  have c1 := hb.cell 1
  have c2 := hb.cell 2
  have c3 := hb.cell 3
  have c4 := hb.cell 4
  have c5 := hb.cell 5
  have c6 := hb.cell 6
  have c7 := hb.cell 7
  go_enter Try.func47, Try.ntmps47
  go_wp2
  exact bodyPost_ret (v := PL.val none 0 none 0 none 0) (by simp [results, Try.results47, go_sem, PL, Fnt.val]) rfl
    ⟨rfl, (Below.refl _ _).alloc (Nat.le_refl _) _⟩

theorem pl_vld : vld PL = 0 := by decide
theorem pl_adv : iAdv PL 16 97 = 8 := by
  have h1 : mute 97 = false := by kernel_rfl
  have h2 : useB PL 16 = true := by decide
  simp [iAdv, h1, h2]
  decide
theorem pl_asc : iAsc PL 10 = 8 := by decide
theorem pl_hei : iHei PL 10 = 10 := by decide
end Go.Proofs.Ytagokefbbdlpcaa
