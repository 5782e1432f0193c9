/- ConstraintSolves walked. -/
import Derived.Test.YtkdgeahfmmfopaaC2
import Derived.Test.YtkdgeahfmmfopaaRawWalk
namespace Go.Proofs.Ytkdgeahfmmfopaa
set_option linter.unusedVariables false
set_option linter.unusedSimpArgs false
open Go.RowKit

set_option maxRecDepth 100000 in
theorem solves_any (A : Option Addr) (n c : Nat) (zs : List Int) (w : World) (hnc : n ≤ c) (hc : c ≤ maxLen) (hr : Reads w w.heap.size 1 A n (ints zs)) (hz : ∀ z ∈ zs, (Lit.int .i64 z).wf = true) :
    Calls Try.prog 4 #[.slice A n c] w fun e w' => e = .returned (.bool true) ∧ Below w.heap.size w w' := by
  have HR := Lib.hid hr
  have HZ := Lib.hid hz
  clear hr hz
  go_enter Try.func4, Try.ntmps4
  go_wp2_with fail
  refine (new_any w.heap.size A n c zs _ (Nat.le_refl _) hnc hc HR.out HZ.out).mono ?_
  rintro e w1 ⟨g, rfl, hg0, hs1, hb1⟩
  have hgl1 := hs1.lt
  have HB1 := Lib.hid hb1
  clear hb1
  go_wp2_with fail
  refine (range_any g w.heap.size _ _ _ hs1 (by omega) (by omega) (by omega)).mono ?_
  rintro e w2 ⟨vars, rfl, hv1, hv2, hs2, hg2⟩
  have HB2 := Lib.hid (HB1.out.grown hg2 HB1.out.size (fun k hk => by cases hk; exact hg0))
  clear hg2
  go_wp2_with fail
  refine (build_any g w.heap.size vars 12 _ hs2 hv1 (by omega) (by omega)).mono ?_
  rintro e w3 ⟨l, v3, rfl, hown3, hl3, hval3, hs3, hg3⟩
  have HB3 := Lib.hid (HB2.out.grown hg3 HB2.out.size (fun k hk => by cases hk; exact hg0))
  obtain ⟨A3, c3, rfl, hle3, hm3, hnil3, hr3⟩ := own_slr hown3
  have HR3 := Lib.hid hr3
  have HN3 := Lib.hid hnil3
  clear hg3 hown3 hr3 hnil3 hs3
  obtain ⟨N, hN⟩ : ∃ N, N = l.length := ⟨_, rfl⟩
  have HN := Lib.hid hN
  rw [← hN] at HR3 HN3 hl3 hle3 ⊢
  clear hN
  go_wp2_with fail
  refine (solve_any vars A3 N c3 w3.heap.size l _ HN.out.symm HR3.out (Nat.le_refl _) HN3.out).mono ?_
  intro e w4 hs4
  obtain ⟨va, rfl, hva, hb4⟩ := solved_dat hs4
  obtain ⟨A1, c1, A2, c2, A5, c5, rfl⟩ := sys_form hva
  clear hs4
  generalize hD : dat vars l (iSolve vars l) = D at *
  have hsm := dat_small vars l
  rw [hD] at hsm
  obtain ⟨m1, m2, m3⟩ := hsm
  obtain ⟨Dv, Dl, Dh, Dx, Dk⟩ := D
  dsimp only at *
  have HVA := Lib.hid hva
  have HD := Lib.hid hD
  have HB34 := Lib.hid hb4
  have HB4 := Lib.hid (HB3.out.trans (hb4.mono HB3.out.size))
  clear hva hD hb4
  go_wp2_with fail
  refine (rsolve_any vars A3 N c3 w3.heap.size l _ HN.out.symm (by exact (HR3.out.below HB34.out).alloc HB34.out.size _) (by have := HB34.out.size; simp; omega)).mono ?_
  intro e w5 hs5
  rw [← solve_eq] at hs5
  obtain ⟨vb, rfl, hvb, hb5⟩ := solved_dat hs5
  obtain ⟨B1, d1, B2, d2, B3, d3, rfl⟩ := sys_form hvb
  rw [HD.out] at hvb ⊢
  dsimp only at *
  clear hs5
  have hblk := (Blk.new w4 26 #[.int .i64 Dv, .slice A1 Dl.length c1, .slice A2 Dh.length c2, .slice A5 Dx.length c5]).below hb5 (by simp)
  have t0 : w5.cell? ⟨w4.heap.size, 0, none⟩ = some (.int .i64 Dv) := by rw [hblk.cell]; rfl
  have t1 : w5.cell? ⟨w4.heap.size, 1, none⟩ = some (.slice A1 Dl.length c1) := by rw [hblk.cell]; rfl
  have t2 : w5.cell? ⟨w4.heap.size, 2, none⟩ = some (.slice A2 Dh.length c2) := by rw [hblk.cell]; rfl
  have t3 : w5.cell? ⟨w4.heap.size, 3, none⟩ = some (.slice A5 Dx.length c5) := by rw [hblk.cell]; rfl
  have hsz : w4.heap.size < w5.heap.size := hblk.lt
  have hB45 : Below w4.heap.size w4 w5 := ((Below.refl _ _).alloc (Nat.le_refl _) _).trans (hb5.mono (by simp))
  have HVA2 := Lib.hid (HVA.out.below hB45)
  have HVB := Lib.hid hvb
  have HB5 := Lib.hid (HB4.out.trans (hB45.mono HB4.out.size))
  clear hblk hvb hb5 hB45
  go_wp2_with fail
  refine (same_eq _ _ Dv Dl Dh Dx _ (HVA2.out.below ((Below.refl _ _).alloc (Nat.le_refl _) _)) (HVB.out.below ((Below.refl _ _).alloc (Nat.le_refl _) _)) (by omega) (by omega) (by omega)).mono ?_
  rintro e w6 ⟨rfl, hb6⟩
  have HB6 := Lib.hid (HB5.out.trans (((Below.refl w.heap.size w5).alloc (HB5.out.size) _).trans (hb6.mono (by have := HB5.out.size; simp; omega))))
  clear hb6
  go_wp2_with fail
  refine (awake_any _).mono ?_
  rintro e w7 ⟨rfl, hb7⟩
  have HB7 := Lib.hid (HB6.out.trans (hb7.mono HB6.out.size))
  clear hb7
  go_wp2
  go_ret
  exact ⟨rfl, HB7.out⟩
end Go.Proofs.Ytkdgeahfmmfopaa
