/- ConstraintRaw walked. -/
import Derived.Test.YtkdgeahfmmfopaaC1
namespace Go.Proofs.Ytkdgeahfmmfopaa
set_option linter.unusedVariables false
set_option linter.unusedSimpArgs false
open Go.RowKit

theorem sys_form {w : World} {v : Value} {vars : Int} {l : List Con} {h : List Bool} {x : List Int} (k : SysR w v vars l h x) :
    ∃ A1 c1 A2 c2 A3 c3, v = .agg #[.int .i64 vars, .slice A1 l.length c1, .slice A2 h.length c2, .slice A3 x.length c3] := by
  obtain ⟨v1, v2, v3, rfl, ⟨A1, c1, rfl, _⟩, ⟨A2, c2, rfl, _⟩, ⟨A3, c3, rfl, _⟩⟩ := k
  exact ⟨A1, c1, A2, c2, A3, c3, rfl⟩

set_option maxRecDepth 100000 in
theorem raw_any (vars : Int) (A : Option Addr) (n c : Nat) (l : List Con) (w : World) (hl : l.length = n) (hn : n ≤ maxLen) (hr : Reads w w.heap.size 5 A n (conCells l)) (hA : A = none → n = 0 ∧ c = 0) :
    Calls Try.prog 3 #[.int .i64 vars, .slice A n c] w fun e w' => e = .returned (.bool true) ∧ Below w.heap.size w w' := by
  unfold maxLen at hn
  by_cases h40 : 40 < n
  · have hd : (40 : Int) < (n : Int) := by omega
    go_enter Try.func3, Try.ntmps3
    go_wp2
    go_ret
    exact ⟨rfl, Below.refl _ _⟩
  · have hd : (n : Int) ≤ (40 : Int) := by omega
    have HR := Lib.hid hr
    have HL := Lib.hid hl
    have HA := Lib.hid hA
    clear hr hl hA
    go_enter Try.func3, Try.ntmps3
    go_wp2_with fail
    refine (solve_any vars A n c w.heap.size l _ HL.out HR.out (Nat.le_refl _) HA.out).mono ?_
    intro e w1 hs1
    obtain ⟨va, rfl, hva, hb1⟩ := solved_dat hs1
    obtain ⟨A1, c1, A2, c2, A3, c3, rfl⟩ := sys_form hva
    have hva' := hva
    clear hs1
    generalize hD : dat vars l (iSolve vars l) = D at *
    have hsm := dat_small vars l
    rw [hD] at hsm
    obtain ⟨m1, m2, m3⟩ := hsm
    obtain ⟨Dv, Dl, Dh, Dx, Dk⟩ := D
    dsimp only at *
    have HVA := Lib.hid hva
    have HD := Lib.hid hD
    have HB1 := Lib.hid hb1
    clear hva hva' hD hb1
    go_wp2_with fail
    refine (rsolve_any vars A n c w.heap.size l _ HL.out (by exact (HR.out.below HB1.out).alloc HB1.out.size _) (by have := HB1.out.size; simp; omega)).mono ?_
    intro e w2 hs2
    rw [← solve_eq] at hs2
    obtain ⟨vb, rfl, hvb, hb2⟩ := solved_dat hs2
    obtain ⟨B1, d1, B2, d2, B3, d3, rfl⟩ := sys_form hvb
    rw [HD.out] at hvb ⊢
    dsimp only at *
    clear hs2
    have hblk := (Blk.new w1 26 #[.int .i64 Dv, .slice A1 Dl.length c1, .slice A2 Dh.length c2, .slice A3 Dx.length c3]).below hb2 (by simp)
    have t0 : w2.cell? ⟨w1.heap.size, 0, none⟩ = some (.int .i64 Dv) := by rw [hblk.cell]; rfl
    have t1 : w2.cell? ⟨w1.heap.size, 1, none⟩ = some (.slice A1 Dl.length c1) := by rw [hblk.cell]; rfl
    have t2 : w2.cell? ⟨w1.heap.size, 2, none⟩ = some (.slice A2 Dh.length c2) := by rw [hblk.cell]; rfl
    have t3 : w2.cell? ⟨w1.heap.size, 3, none⟩ = some (.slice A3 Dx.length c3) := by rw [hblk.cell]; rfl
    have hsz : w1.heap.size < w2.heap.size := hblk.lt
    have hB12 : Below w1.heap.size w1 w2 := ((Below.refl _ _).alloc (Nat.le_refl _) _).trans (hb2.mono (by simp))
    have HVA2 := Lib.hid (HVA.out.below hB12)
    have HVB := Lib.hid hvb
    have HB2 := Lib.hid (HB1.out.trans (hB12.mono HB1.out.size))
    clear hblk hvb hb2 hB12
    go_wp2_with fail
    refine (same_eq _ _ Dv Dl Dh Dx _ (HVA2.out.below ((Below.refl _ _).alloc (Nat.le_refl _) _)) (HVB.out.below ((Below.refl _ _).alloc (Nat.le_refl _) _)) (by omega) (by omega) (by omega)).mono ?_
    rintro e w3 ⟨rfl, hb3⟩
    have HB3 := Lib.hid (HB2.out.trans (((Below.refl w.heap.size w2).alloc (HB2.out.size) _).trans (hb3.mono (by have := HB2.out.size; simp; omega))))
    clear hb3
    go_wp2_with fail
    refine (awake_any _).mono ?_
    rintro e w4 ⟨rfl, hb4⟩
    have HB4 := Lib.hid (HB3.out.trans (hb4.mono HB3.out.size))
    clear hb4
    go_wp2
    go_ret
    exact ⟨rfl, HB4.out⟩
end Go.Proofs.Ytkdgeahfmmfopaa
