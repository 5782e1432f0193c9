/- ConstraintIncremental walked. -/
import Derived.Test.YtkdgeahfmmfopaaE4
import Derived.Test.YtkdgeahfmmfopaaRawWalk
import Derived.Deep.RegionHeld3
namespace Go.Proofs.Ytkdgeahfmmfopaa
set_option linter.unusedVariables false
set_option linter.unusedSimpArgs false
open Go.RowKit

theorem conS {w2 w3 : World} {g3 : Nat} {cA cB cR cC cS : Int} (hg : g3 < w2.heap.size) (hb : Below w2.heap.size w2 w3)
    (h : w2.cell? ⟨g3, 0, none⟩ = some (.int .i64 cA) ∧ w2.cell? ⟨g3, 1, none⟩ = some (.int .i64 cB) ∧ w2.cell? ⟨g3, 2, none⟩ = some (.int .i64 cR) ∧ w2.cell? ⟨g3, 3, none⟩ = some (.int .i64 cC) ∧ w2.cell? ⟨g3, 4, none⟩ = some (.int .i64 cS)) :
    w3.cell? ⟨g3, 0, none⟩ = some (.int .i64 cA) ∧ w3.cell? ⟨g3, 1, none⟩ = some (.int .i64 cB) ∧ w3.cell? ⟨g3, 2, none⟩ = some (.int .i64 cR) ∧ w3.cell? ⟨g3, 3, none⟩ = some (.int .i64 cC) ∧ w3.cell? ⟨g3, 4, none⟩ = some (.int .i64 cS) := by
  have e : ∀ b o, b < w2.heap.size → w3.cell? ⟨b, o, none⟩ = w2.cell? ⟨b, o, none⟩ := fun b o hlt => hb.cell (p := ⟨b, o, none⟩) hlt
  rw [e g3 0 hg, e g3 1 hg, e g3 2 hg, e g3 3 hg, e g3 4 hg]
  exact h
theorem conS_own {w : World} {base g3 c : Nat} {cA cB cR cC cS : Int} (h : w.ownsRow base 40 5 (.slice (some ⟨g3, 0, none⟩) 1 c) 1 (conCells [⟨cA, cB, cR, cC, cS⟩])) :
    w.cell? ⟨g3, 0, none⟩ = some (.int .i64 cA) ∧ w.cell? ⟨g3, 1, none⟩ = some (.int .i64 cB) ∧ w.cell? ⟨g3, 2, none⟩ = some (.int .i64 cR) ∧ w.cell? ⟨g3, 3, none⟩ = some (.int .i64 cC) ∧ w.cell? ⟨g3, 4, none⟩ = some (.int .i64 cS) := by
  have hcells := h.cells (g := g3) rfl
  refine ⟨?_, ?_, ?_, ?_, ?_⟩
  · have := hcells 0 _ rfl; simpa [Addr.add] using this
  · have := hcells 1 _ rfl; simpa [Addr.add] using this
  · have := hcells 2 _ rfl; simpa [Addr.add] using this
  · have := hcells 3 _ rfl; simpa [Addr.add] using this
  · have := hcells 4 _ rfl; simpa [Addr.add] using this

theorem incS {w2 w3 : World} {P g3 N hn xn c1 c2 c3 : Nat} {A1 A2 A3 : Option Addr} {nv cA cB cR cC cS : Int} (hP : P < w2.heap.size) (hg : g3 < w2.heap.size) (hb : Below w2.heap.size w2 w3)
    (h : w2.cell? ⟨P, 0, none⟩ = some (.int .i64 nv) ∧ w2.cell? ⟨P, 1, none⟩ = some (.slice A1 N c1) ∧ w2.cell? ⟨P, 2, none⟩ = some (.slice A2 hn c2) ∧ w2.cell? ⟨P, 3, none⟩ = some (.slice A3 xn c3) ∧ w2.cell? ⟨g3, 0, none⟩ = some (.int .i64 cA) ∧ w2.cell? ⟨g3, 1, none⟩ = some (.int .i64 cB) ∧ w2.cell? ⟨g3, 2, none⟩ = some (.int .i64 cR) ∧ w2.cell? ⟨g3, 3, none⟩ = some (.int .i64 cC) ∧ w2.cell? ⟨g3, 4, none⟩ = some (.int .i64 cS)) :
    w3.cell? ⟨P, 0, none⟩ = some (.int .i64 nv) ∧ w3.cell? ⟨P, 1, none⟩ = some (.slice A1 N c1) ∧ w3.cell? ⟨P, 2, none⟩ = some (.slice A2 hn c2) ∧ w3.cell? ⟨P, 3, none⟩ = some (.slice A3 xn c3) ∧ w3.cell? ⟨g3, 0, none⟩ = some (.int .i64 cA) ∧ w3.cell? ⟨g3, 1, none⟩ = some (.int .i64 cB) ∧ w3.cell? ⟨g3, 2, none⟩ = some (.int .i64 cR) ∧ w3.cell? ⟨g3, 3, none⟩ = some (.int .i64 cC) ∧ w3.cell? ⟨g3, 4, none⟩ = some (.int .i64 cS) := by
  have e : ∀ b o, b < w2.heap.size → w3.cell? ⟨b, o, none⟩ = w2.cell? ⟨b, o, none⟩ := fun b o hlt => hb.cell (p := ⟨b, o, none⟩) hlt
  rw [e P 0 hP, e P 1 hP, e P 2 hP, e P 3 hP, e g3 0 hg, e g3 1 hg, e g3 2 hg, e g3 3 hg, e g3 4 hg]
  exact h

theorem incS4 {w2 : World} {P g3 Q N hn xn c1 c2 c3 : Nat} {A1 A2 A3 : Option Addr} {nv cA cB cR cC cS : Int} (hP : P ≠ Q) (hg : g3 ≠ Q) (u0 u1 u2 u3 : Value)
    (h : w2.cell? ⟨P, 0, none⟩ = some (.int .i64 nv) ∧ w2.cell? ⟨P, 1, none⟩ = some (.slice A1 N c1) ∧ w2.cell? ⟨P, 2, none⟩ = some (.slice A2 hn c2) ∧ w2.cell? ⟨P, 3, none⟩ = some (.slice A3 xn c3) ∧ w2.cell? ⟨g3, 0, none⟩ = some (.int .i64 cA) ∧ w2.cell? ⟨g3, 1, none⟩ = some (.int .i64 cB) ∧ w2.cell? ⟨g3, 2, none⟩ = some (.int .i64 cR) ∧ w2.cell? ⟨g3, 3, none⟩ = some (.int .i64 cC) ∧ w2.cell? ⟨g3, 4, none⟩ = some (.int .i64 cS)) :
    ((((w2.setCell ⟨Q, 0, none⟩ u0).setCell ⟨Q, 1, none⟩ u1).setCell ⟨Q, 2, none⟩ u2).setCell ⟨Q, 3, none⟩ u3).cell? ⟨P, 0, none⟩ = some (.int .i64 nv) ∧ ((((w2.setCell ⟨Q, 0, none⟩ u0).setCell ⟨Q, 1, none⟩ u1).setCell ⟨Q, 2, none⟩ u2).setCell ⟨Q, 3, none⟩ u3).cell? ⟨P, 1, none⟩ = some (.slice A1 N c1) ∧ ((((w2.setCell ⟨Q, 0, none⟩ u0).setCell ⟨Q, 1, none⟩ u1).setCell ⟨Q, 2, none⟩ u2).setCell ⟨Q, 3, none⟩ u3).cell? ⟨P, 2, none⟩ = some (.slice A2 hn c2) ∧ ((((w2.setCell ⟨Q, 0, none⟩ u0).setCell ⟨Q, 1, none⟩ u1).setCell ⟨Q, 2, none⟩ u2).setCell ⟨Q, 3, none⟩ u3).cell? ⟨P, 3, none⟩ = some (.slice A3 xn c3) ∧ ((((w2.setCell ⟨Q, 0, none⟩ u0).setCell ⟨Q, 1, none⟩ u1).setCell ⟨Q, 2, none⟩ u2).setCell ⟨Q, 3, none⟩ u3).cell? ⟨g3, 0, none⟩ = some (.int .i64 cA) ∧ ((((w2.setCell ⟨Q, 0, none⟩ u0).setCell ⟨Q, 1, none⟩ u1).setCell ⟨Q, 2, none⟩ u2).setCell ⟨Q, 3, none⟩ u3).cell? ⟨g3, 1, none⟩ = some (.int .i64 cB) ∧ ((((w2.setCell ⟨Q, 0, none⟩ u0).setCell ⟨Q, 1, none⟩ u1).setCell ⟨Q, 2, none⟩ u2).setCell ⟨Q, 3, none⟩ u3).cell? ⟨g3, 2, none⟩ = some (.int .i64 cR) ∧ ((((w2.setCell ⟨Q, 0, none⟩ u0).setCell ⟨Q, 1, none⟩ u1).setCell ⟨Q, 2, none⟩ u2).setCell ⟨Q, 3, none⟩ u3).cell? ⟨g3, 3, none⟩ = some (.int .i64 cC) ∧ ((((w2.setCell ⟨Q, 0, none⟩ u0).setCell ⟨Q, 1, none⟩ u1).setCell ⟨Q, 2, none⟩ u2).setCell ⟨Q, 3, none⟩ u3).cell? ⟨g3, 4, none⟩ = some (.int .i64 cS) := by
  have e : ∀ b o, b ≠ Q → ((((w2.setCell ⟨Q, 0, none⟩ u0).setCell ⟨Q, 1, none⟩ u1).setCell ⟨Q, 2, none⟩ u2).setCell ⟨Q, 3, none⟩ u3).cell? ⟨b, o, none⟩ = w2.cell? ⟨b, o, none⟩ := fun b o hne => World.cell?_of_block (heap_set4 hne _ _ _ _)
  rw [e P 0 hP, e P 1 hP, e P 2 hP, e P 3 hP, e g3 0 hg, e g3 1 hg, e g3 2 hg, e g3 3 hg, e g3 4 hg]
  exact h

set_option maxRecDepth 100000 in
set_option maxHeartbeats 4000000 in
theorem incremental_any : LawAny 9 := by
  intro A n c zs w hnc hc hr hz
  obtain ⟨i0, hi0, hz0, hz1, hz2⟩ := info_parts con_info
  have HR := Lib.hid hr
  have HZ := Lib.hid hz
  clear hr hz
  go_enter Try.func9, Try.ntmps9
  go_wp2_with fail
  refine (new_any w.heap.size A n c zs _ (Nat.le_refl _) hnc hc HR.out HZ.out).mono ?_
  rintro e w1 ⟨g, rfl, hg0, hs1, hb1⟩
  have HB1 := Lib.hid hb1
  clear hb1
  go_wp2_with fail
  refine (range_any g w.heap.size _ _ _ hs1 (by omega) (by omega) (by omega)).mono ?_
  rintro e w2 ⟨vars, rfl, hv1, hv2, hs2, hg2⟩
  obtain ⟨nv, rfl⟩ := Int.eq_ofNat_of_zero_le (show 0 ≤ vars by omega)
  have HB2 := Lib.hid (HB1.out.grown hg2 HB1.out.size (fun k hk => by cases hk; exact hg0))
  clear hg2
  go_wp2_with fail
  refine (new2_any (nv : Int) _).mono ?_
  intro e w4 hs4
  have hsol := iSolve_empty nv (by omega)
  rw [hsol] at hs4
  obtain ⟨va, rfl, ⟨hva, hfr⟩, hb4⟩ := hs4
  obtain ⟨v1, v2, v3, rfl, a1, a2, a3⟩ := hva
  obtain ⟨A1, c1, rfl, q1⟩ := a1
  obtain ⟨A2, c2, rfl, q2⟩ := a2
  obtain ⟨A3, c3, rfl, q3⟩ := a3
  have hg4 : g < w4.heap.size := Nat.lt_of_lt_of_le hs2.lt hb4.size
  have HS4 := Lib.hid (hs2.belowH hb4 hs2.lt)
  have HB4 := Lib.hid (HB2.out.trans (hb4.mono HB2.out.size))
  have H1 := Lib.hid (show SlR w4 5 0 _ _ from ⟨A1, c1, rfl, q1⟩)
  have H2 := Lib.hid (show SlR w4 1 0 _ _ from ⟨A2, c2, rfl, q2⟩)
  have H3 := Lib.hid (show SlR w4 1 _ _ _ from ⟨A3, c3, rfl, q3⟩)
  have HF := Lib.hid hfr
  have HSOL := Lib.hid hsol
  have hg24 : g < w2.heap.size := hs2.lt
  clear hs1 hs2 hb4 q1 q2 q3 hfr hsol
  go_wp2
  have hP := Lib.hid (Blk.new w4 26 #[.int .i64 (nv : Int), .slice A1 0 c1, .slice A2 0 c2, .slice A3 nv c3])
  have HRD : Hid (Rd w g w.heap.size w4.heap.size (w4.heap.size + 1) nv [] [] (List.replicate nv 0) A1 c1 A2 c2 A3 c3 (.slice none 0 0) (w4.alloc (.cells #[.int .i64 (nv : Int), .slice A1 0 c1, .slice A2 0 c2, .slice A3 nv c3] 26))) := by
    have hbl : Below w4.heap.size w4 (w4.alloc (.cells #[.int .i64 (nv : Int), .slice A1 0 c1, .slice A2 0 c2, .slice A3 nv c3] 26)) := (Below.refl _ _).alloc (Nat.le_refl _) _
    obtain ⟨_, _, hw3, _, _, _, hr3⟩ := H3.out
    injection hw3 with hw31 hw32 hw33
    refine Lib.hid ⟨World.ownsRow_nil _ _ _ _, by simpa using hP.out, ⟨H1.out.below hbl (Nat.le_refl _), fun h => absurd h (by simp)⟩, ⟨H2.out.below hbl (Nat.le_refl _), fun h => absurd h (by simp)⟩, ⟨by simpa using H3.out.below hbl (Nat.le_refl _), fun hn b hb => ?_⟩, HS4.out.belowH hbl hg4, hg4, by omega, by simp, HB4.out.trans (hbl.mono HB4.out.size), hg0, HSOL.out⟩
    have hge := HF.out _ (by simp) b hb
    obtain ⟨ad, e1, e2, _⟩ := hr3.2 (by simpa using hn)
    rw [hw31, e1] at hb
    simp [Value.ownBlock] at hb
    omega
  clear hP H1 H2 H3 HS4 HB4 HF
  generalize w4.alloc (Obj.cells #[.int .i64 (nv : Int), .slice A1 0 c1, .slice A2 0 c2, .slice A3 nv c3] 26) = W at *
  generalize w4.heap.size = P at *
  go_loopw [7, 8] (fun s7 s8 wr => ∃ (k M : Nat) (l : List Con) (h : List Bool) (x : List Int) (A1 : Option Addr) (c1 : Nat) (A2 : Option Addr) (c2 : Nat) (A3 : Option Addr) (c3 : Nat), s8 = .int .i64 (k : Int) ∧ k ≤ 16 ∧ l.length ≤ k ∧ Rd w g w.heap.size P M nv l h x A1 c1 A2 c2 A3 c3 s7 wr) (fun _ s8 _ => 16 - (intOf s8).toNat)
  case atStart => exact ⟨0, _, _, _, _, _, _, _, _, _, _, rfl, by omega, Nat.le_refl _, HRD.out⟩
  case round =>
    obtain ⟨k, M, l, h, x, A1, c1, A2, c2, A3, c3, rfl, hk, hlk, hrd⟩ := hrel
    obtain ⟨A7, c7, rfl, hle7, hm7, hnil7, hr7⟩ := own_slr hrd.own
    have RD := Lib.hid hrd
    have R7 := Lib.hid hr7
    have N7 := Lib.hid hnil7
    obtain ⟨N, hN⟩ : ∃ N, N = l.length := ⟨_, rfl⟩
    have HN := Lib.hid hN
    have hgP := hrd.gP
    have hPM := hrd.PM
    have hMw := hrd.Mw
    have hwg := hrd.wg
    rw [← hN] at hlk hle7
    clear hrd hr7 hnil7
    by_cases hk16 : k < 16
    · have hk0 : (k : Int) < 16 := by omega
      have RD1 := Lib.hid (RD.out.below ((Below.refl wr.heap.size wr).alloc (Nat.le_refl _) (.cells sysZ 26)))
      have BQ1 := Lib.hid (Blk.new wr 26 sysZ)
      obtain ⟨Q, hQ⟩ : ∃ Q, Q = wr.heap.size := ⟨_, rfl⟩
      have HQ := Lib.hid hQ
      have hMQ : M ≤ Q := by omega
      rw [← hN]
      clear hN
      go_wp2_with fail
      refine (n_any g w.heap.size 3 _ RD1.out.src (by omega) (by omega)).mono ?_
      rintro e w1 ⟨r, rfl, r0, r1, _, hs1, hg1⟩
      have RD2 := Lib.hid (RD1.out.src_step hg1 hs1)
      have BQ2 := Lib.hid (BQ1.out.grown hg1 (by intro e; injection e with e; omega))
      have hq1 : Q < w1.heap.size := by rw [hQ]; exact BQ2.out.lt
      rw [← HQ.out] at *
      clear r1 hs1 hg1 hQ
      by_cases hr0 : r = 0
      · subst hr0
        go_wp2_with fail
        refine (range_any g w.heap.size _ _ _ RD2.out.src (by omega) (by omega) (by omega)).mono ?_
        rintro e w2 ⟨at_, rfl, a0, a1, hs2, hg2⟩
        have RD3 := Lib.hid (RD2.out.src_step hg2 hs2)
        have BQ3 := Lib.hid (BQ2.out.grown hg2 (by intro e; injection e with e; omega))
        obtain ⟨p0, p1, p2, p3, pf0, pf1, pf2, pf3⟩ := RD3.out.cells
        have hq2 : Q < w2.heap.size := BQ3.out.lt
        rw [← HN.out] at p1
        clear hs2 hg2
        by_cases hat : at_ < 0 ∨ (N : Int) ≤ at_
        · go_wp2_with fail
          refine (rem_err nv A1 N c1 _ _ at_ _ hat).mono ?_
          rintro e w3 ⟨rfl, hb3⟩
          obtain ⟨q0, q1, q2, q3, qf0, qf1, qf2, qf3⟩ := res4 (w := w) BQ3.out hb3
          have RD4 := Lib.hid (RD3.out.below hb3)
          have BQ4 := Lib.hid (BQ3.out.below hb3 hq2)
          clear hb3
          unfold zeroSys
          rcases hat with hat1 | hat1
          · have hd : decide (at_ < 0) = true := by simpa using hat1
            go_wp2
            go_roundw
            case rel => exact ⟨k + 1, M, l, h, x, A1, c1, A2, c2, A3, c3, by go_num, by omega, by rw [← HN.out]; omega, by have := RD4.out.set4 hMQ BQ4.out (.int .i64 0) (.slice none 0 0) (.slice none 0 0) (.slice none 0 0); rw [← HN.out] at this; exact this⟩
            case measure => simp [intOf]; omega
          · have hd : decide (at_ < 0) = false := by simp; omega
            go_wp2
            go_roundw
            case rel => exact ⟨k + 1, M, l, h, x, A1, c1, A2, c2, A3, c3, by go_num, by omega, by rw [← HN.out]; omega, by have := RD4.out.set4 hMQ BQ4.out (.int .i64 0) (.slice none 0 0) (.slice none 0 0) (.slice none 0 0); rw [← HN.out] at this; exact this⟩
            case measure => simp [intOf]; omega
        · obtain ⟨i, rfl⟩ := Int.eq_ofNat_of_zero_le (show 0 ≤ at_ by omega)
          have hiN : i < N := by omega
          go_wp2_with fail
          refine (rem_any nv l N c1 i (.bool true) _ _ A1 _ (by rw [HN.out]; exact RD3.out.s1.1) HN.out.symm (by omega) hiN).mono ?_
          intro e w3 hs3
          obtain ⟨B1, d1, B2, d2, B3, d3, rfl, hvb, hfb, hb3⟩ := solvedF_dat hs3
          obtain ⟨q0, q1, q2, q3, qf0, qf1, qf2, qf3⟩ := res4 (w := w) BQ3.out hb3
          have RD4 := Lib.hid (RD3.out.below hb3)
          have BQ4 := Lib.hid (BQ3.out.below hb3 hq2)
          obtain ⟨l', hl'⟩ : ∃ l', l' = l.eraseIdx i := ⟨_, rfl⟩
          have HL' := Lib.hid hl'
          rw [← hl'] at hvb hfb ⊢
          clear hs3 hl'
          generalize hD : dat nv l' (iSolve nv l') = D at *
          have hsm := dat_small nv l'
          rw [hD] at hsm
          obtain ⟨m1, m2, m3⟩ := hsm
          obtain ⟨Dv, Dl, Dh, Dx, Dk⟩ := D
          dsimp only at *
          have HVB := Lib.hid hvb
          have HFB := Lib.hid hfb
          have HD := Lib.hid hD
          have hq3 : Q < w3.heap.size := Nat.lt_of_lt_of_le hq2 hb3.size
          clear hvb hfb hD hb3
          have hd1 : decide ((i : Int) < 0) = false := by simp
          have hd2 : (i : Int) < (N : Int) := by omega
          go_wp2_with fail
          have RD5 := Lib.hid (RD4.out.set4 hMQ BQ4.out (.int .i64 Dv) (.slice B1 Dl.length d1) (.slice B2 Dh.length d2) (.slice B3 Dx.length d3))
          have BQ5 := Lib.hid (set4_blk BQ4.out (.int .i64 Dv) (.slice B1 Dl.length d1) (.slice B2 Dh.length d2) (.slice B3 Dx.length d3))
          have HV5 := Lib.hid (HVB.out.set4 HFB.out hq2 (.int .i64 Dv) (.slice B1 Dl.length d1) (.slice B2 Dh.length d2) (.slice B3 Dx.length d3))
          have hq5 : Q < ((((w3.setCell ⟨Q, 0, none⟩ (.int .i64 Dv)).setCell ⟨Q, 1, none⟩ (.slice B1 Dl.length d1)).setCell ⟨Q, 2, none⟩ (.slice B2 Dh.length d2)).setCell ⟨Q, 3, none⟩ (.slice B3 Dx.length d3)).heap.size := BQ5.out.lt
          generalize (((w3.setCell ⟨Q, 0, none⟩ (.int .i64 Dv)).setCell ⟨Q, 1, none⟩ (.slice B1 Dl.length d1)).setCell ⟨Q, 2, none⟩ (.slice B2 Dh.length d2)).setCell ⟨Q, 3, none⟩ (.slice B3 Dx.length d3) = w5 at *
          clear q0 q1 q2 q3 qf0 qf1 qf2 qf3 p0 p1 p2 p3 pf0 pf1 pf2 pf3 RD1 RD2 RD3 RD4 BQ1 BQ2 BQ3 BQ4
          refine (without_any l N c7 i A7 _ (by have := own_slr RD5.out.own; rw [HN.out]; exact this) HN.out.symm (by omega) hiN).mono ?_
          rintro e w6 ⟨v10, rfl, own10, hb6⟩
          have RDt := Lib.hid (RD5.out.below hb6)
          have BQt := Lib.hid (BQ5.out.below hb6 hq5)
          have HVt := Lib.hid (HV5.out.below hb6)
          obtain ⟨N', hN'⟩ : ∃ N', N' = l'.length := ⟨_, rfl⟩
          have hNN : N - 1 = N' := by rw [hN', HL'.out, List.length_eraseIdx_of_lt (by rw [← HN.out]; exact hiN), ← HN.out]
          have hNk : N' ≤ k + 1 := by omega
          rw [hNN, ← HL'.out] at own10
          have own10 := own_base own10 (base' := P + 1) (by omega)
          have HN' := Lib.hid hN'
          have hqt : Q < w6.heap.size := Nat.lt_of_lt_of_le hq5 hb6.size
          have HFt := Lib.hid (fresh_less HFB.out (base' := P + 1) (by omega))
          clear hb6 RD5 BQ5 HV5 hN' hNN HVB HFB
          obtain ⟨A10, c10, rfl, hle10, _, hnil10, hr10⟩ := own_slr own10
          have R10 := Lib.hid hr10
          have O10 := Lib.hid own10
          clear hnil10 hr10 own10
          go_wp2_with fail
          refine (rsolve_any nv A10 N' c10 _ l' _ HN'.out.symm R10.out (Nat.le_refl _)).mono ?_
          intro e w7 hs7
          rw [← solve_eq] at hs7
          obtain ⟨vb, rfl, hvb7, hb7⟩ := solved_dat hs7
          obtain ⟨E1, f1, E2, f2, E3, f3, rfl⟩ := sys_form hvb7
          rw [HD.out] at hvb7 ⊢
          dsimp only at *
          clear hs7
          have RD7 := Lib.hid (RDt.out.below hb7)
          have BQ7 := Lib.hid (BQt.out.below hb7 hqt)
          have HV7 := Lib.hid (HVt.out.below hb7)
          have HW7 := Lib.hid hvb7
          have O7 := Lib.hid (own_below O10.out hb7 (Nat.le_refl _))
          have hq7 : Q < w7.heap.size := Nat.lt_of_lt_of_le hqt hb7.size
          obtain ⟨t0, t1, t2, t3⟩ := blk4_cells BQ7.out
          clear hb7 hvb7 RDt BQt HVt O10 R10
          go_wp2_with fail
          refine (same_eq _ _ Dv Dl Dh Dx _ (HV7.out.below ((Below.refl _ _).alloc (Nat.le_refl _) _)) (HW7.out.below ((Below.refl _ _).alloc (Nat.le_refl _) _)) (by omega) (by omega) (by omega)).mono ?_
          rintro e w8 ⟨rfl, hb8⟩
          have hb78 : Below w7.heap.size w7 w8 := ((Below.refl _ _).alloc (Nat.le_refl _) _).trans (hb8.mono (by simp))
          have RD8 := Lib.hid (RD7.out.below hb78)
          have BQ8 := Lib.hid (BQ7.out.below hb78 hq7)
          have HV8 := Lib.hid (HV7.out.below hb78)
          have O8 := Lib.hid (own_below O7.out hb78 (Nat.le_refl _))
          clear hb8 hb78 t0 t1 t2 t3 RD7 BQ7 HV7 HW7 O7
          by_cases hkz : Dk = 0
          · obtain ⟨sa, sb, hsol', hdat⟩ := dat_ok (vars := nv) (l := l') (by rw [HD.out]; exact hkz)
            rw [HD.out] at hdat
            injection hdat with hdv hdat
            injection hdat with hdl hdat
            injection hdat with hdh hdat
            injection hdat with hdx hdk
            subst hdv hdl hdh hdx hdk
            have RD9 := Lib.hid (RD8.out.store (by rw [← HN'.out]; exact O8.out) HV8.out HFt.out hsol')
            have hd0 : ((0 : Int) == 0) = true := rfl
            obtain ⟨t0, t1, t2, t3⟩ := blk4_cells BQ8.out
            obtain ⟨p0, p1, p2, p3, pf0, pf1, pf2, pf3⟩ := RD8.out.cells
            clear hsol' hkz
            go_wp2
            go_roundw
            case rel => exact ⟨k + 1, _, _, _, _, _, _, _, _, _, _, by go_num, by omega, by rw [← HN'.out]; exact hNk, RD9.out⟩
            case measure => simp [intOf]; omega
          · have hd0 : (Dk == 0) = false := by simpa using hkz
            go_wp2
            go_roundw
            case rel => exact ⟨k + 1, M, l, h, x, A1, c1, A2, c2, A3, c3, by go_num, by omega, by rw [← HN.out]; omega, by have := RD8.out; rw [← HN.out] at this; exact this⟩
            case measure => simp [intOf]; omega
      · have hrb : (r == 0) = false := by simpa using hr0
        go_wp2_with fail
        refine (build_any g w.heap.size nv 1 _ RD2.out.src hv1 (by omega) (by omega)).mono ?_
        rintro e w2 ⟨l3, v3, rfl, hown3, hl3, hval3, hs2, hg2⟩
        have RD3 := Lib.hid (RD2.out.src_step hg2 hs2)
        have BQ3 := Lib.hid (BQ2.out.grown hg2 (by intro e; injection e with e; omega))
        have hq2 : Q < w2.heap.size := BQ3.out.lt
        clear hs2 hg2 hval3
        by_cases hl0 : l3.length = 0
        · obtain ⟨A13, c13, rfl, hle13, hm13, hnil13, hr13⟩ := own_slr hown3
          rw [hl0]
          clear hown3 hnil13 hr13
          go_wp2
          go_roundw
          case rel => exact ⟨k + 1, M, l, h, x, A1, c1, A2, c2, A3, c3, by go_num, by omega, by rw [← HN.out]; omega, by have := RD3.out; rw [← HN.out] at this; exact this⟩
          case measure => simp [intOf]; omega
        · have hl1 : l3.length = 1 := by omega
          obtain ⟨⟨cA, cB, cR, cC, cS⟩, rfl⟩ := List.length_eq_one_iff.1 hl1
          obtain ⟨g3, c13, rfl, hg3, hg3', hn13⟩ := own_form hown3 (by simp)
          have hcells := hown3.cells (g := g3) rfl
          have HO3 := Lib.hid hown3
          have z0 : w2.cell? ⟨g3, 0, none⟩ = some (.int .i64 cA) := by have := hcells 0 _ rfl; simpa [Addr.add] using this
          have z1 : w2.cell? ⟨g3, 1, none⟩ = some (.int .i64 cB) := by have := hcells 1 _ rfl; simpa [Addr.add] using this
          have z2 : w2.cell? ⟨g3, 2, none⟩ = some (.int .i64 cR) := by have := hcells 2 _ rfl; simpa [Addr.add] using this
          have z3 : w2.cell? ⟨g3, 3, none⟩ = some (.int .i64 cC) := by have := hcells 3 _ rfl; simpa [Addr.add] using this
          have z4 : w2.cell? ⟨g3, 4, none⟩ = some (.int .i64 cS) := by have := hcells 4 _ rfl; simpa [Addr.add] using this
          clear hcells hown3 hl0
          obtain ⟨p0, p1, p2, p3, pf0, pf1, pf2, pf3⟩ := RD3.out.cells
          rw [← HN.out] at p1
          have hSK := (show w2.cell? ⟨P, 0, none⟩ = some (.int .i64 nv) ∧ w2.cell? ⟨P, 1, none⟩ = some (.slice A1 N c1) ∧ w2.cell? ⟨P, 2, none⟩ = some (.slice A2 h.length c2) ∧ w2.cell? ⟨P, 3, none⟩ = some (.slice A3 x.length c3) ∧ w2.cell? ⟨g3, 0, none⟩ = some (.int .i64 cA) ∧ w2.cell? ⟨g3, 1, none⟩ = some (.int .i64 cB) ∧ w2.cell? ⟨g3, 2, none⟩ = some (.int .i64 cR) ∧ w2.cell? ⟨g3, 3, none⟩ = some (.int .i64 cC) ∧ w2.cell? ⟨g3, 4, none⟩ = some (.int .i64 cS) from ⟨p0, p1, p2, p3, z0, z1, z2, z3, z4⟩)
          have HSK0 := Lib.hid hSK
          have hP2 : P < w2.heap.size := by have := RD3.out.Mw; omega
          have hg3Q : g3 ≠ Q := by
            rintro rfl
            exact own_blk_ne HO3.out BQ3.out (by decide) rfl
          have hPQ : P ≠ Q := by omega
          have RD3d := Lib.hid (RD3.out.below (Below.refl w2.heap.size w2).drew)
          have BQ3d := Lib.hid (show Blk w2.drew Q 26 sysZ from BQ3.out.drew)
          clear p0 p1 p2 p3 z0 z1 z2 z3 z4
          go_wp2
          go_region_held3 (fun w' => w'.cell? ⟨P, 0, none⟩ = some (.int .i64 nv) ∧ w'.cell? ⟨P, 1, none⟩ = some (.slice A1 N c1) ∧ w'.cell? ⟨P, 2, none⟩ = some (.slice A2 h.length c2) ∧ w'.cell? ⟨P, 3, none⟩ = some (.slice A3 x.length c3) ∧ w'.cell? ⟨g3, 0, none⟩ = some (.int .i64 cA) ∧ w'.cell? ⟨g3, 1, none⟩ = some (.int .i64 cB) ∧ w'.cell? ⟨g3, 2, none⟩ = some (.int .i64 cR) ∧ w'.cell? ⟨g3, 3, none⟩ = some (.int .i64 cC) ∧ w'.cell? ⟨g3, 4, none⟩ = some (.int .i64 cS)) (first | with_reducible assumption | with_reducible exact incS4 hPQ hg3Q _ _ _ _ (by assumption) | go_keep)
            (first
              | (go_at_call 22; refine (add_any nv l N c1 _ _ A1 ⟨cA, cB, cR, cC, cS⟩ _ (by rw [HN.out]; exact RD3d.out.s1.1) HN.out.symm (by omega)).mono ?_
                 intro e w3 hs3
                 have HS3 := Lib.hid hs3
                 obtain ⟨B1, d1, B2, d2, B3, d3, rfl, hvb, hfb, hb3⟩ := solvedF_dat hs3
                 obtain ⟨q0, q1, q2, q3, qf0, qf1, qf2, qf3⟩ := res4 (w := w) BQ3d.out hb3
                 have HB3 := Lib.hid (show Below w2.heap.size w2 w3 from (Below.refl _ _).drew.trans hb3)
                 have HVB := Lib.hid hvb
                 have HFB := Lib.hid hfb
                 have hSK3 := incS hP2 hg3' HB3.out HSK0.out
                 clear hs3 hvb hfb hb3 hSK)
              | fail)
          have HSK2 := Lib.hid HSK0.out
          have RD5 := Lib.hid ((RD3.out.below HB3.out).set4 hMQ (BQ3.out.below HB3.out hq2) (.int .i64 (dat nv (l ++ [⟨cA, cB, cR, cC, cS⟩]) (iSolve nv (l ++ [⟨cA, cB, cR, cC, cS⟩]))).1) (.slice B1 (dat nv (l ++ [⟨cA, cB, cR, cC, cS⟩]) (iSolve nv (l ++ [⟨cA, cB, cR, cC, cS⟩]))).2.1.length d1) (.slice B2 (dat nv (l ++ [⟨cA, cB, cR, cC, cS⟩]) (iSolve nv (l ++ [⟨cA, cB, cR, cC, cS⟩]))).2.2.1.length d2) (.slice B3 (dat nv (l ++ [⟨cA, cB, cR, cC, cS⟩]) (iSolve nv (l ++ [⟨cA, cB, cR, cC, cS⟩]))).2.2.2.1.length d3))
          obtain ⟨l', hl'⟩ : ∃ l', l' = l ++ [⟨cA, cB, cR, cC, cS⟩] := ⟨_, rfl⟩
          have HL' := Lib.hid hl'
          rw [← hl'] at HVB HFB HS3 RD5 ⊢
          clear hl'
          generalize hD : dat nv l' (iSolve nv l') = D at *
          have hsm := dat_small nv l'
          rw [hD] at hsm
          obtain ⟨m1, m2, m3⟩ := hsm
          obtain ⟨Dv, Dl, Dh, Dx, Dk⟩ := D
          dsimp only at *
          have HD := Lib.hid hD
          have BQ5 := Lib.hid (set4_blk (BQ3.out.below HB3.out hq2) (.int .i64 Dv) (.slice B1 Dl.length d1) (.slice B2 Dh.length d2) (.slice B3 Dx.length d3))
          have HV5 := Lib.hid (HVB.out.set4 HFB.out (show Q < w2.drew.heap.size from hq2) (.int .i64 Dv) (.slice B1 Dl.length d1) (.slice B2 Dh.length d2) (.slice B3 Dx.length d3))
          have hO5 := own_far4 (own_below HO3.out HB3.out (Nat.le_refl _)) (BQ3.out.below HB3.out hq2) (by decide) (.int .i64 Dv) (.slice B1 Dl.length d1) (.slice B2 Dh.length d2) (.slice B3 Dx.length d3)
          have hq5 : Q < ((((w3.setCell ⟨Q, 0, none⟩ (.int .i64 Dv)).setCell ⟨Q, 1, none⟩ (.slice B1 Dl.length d1)).setCell ⟨Q, 2, none⟩ (.slice B2 Dh.length d2)).setCell ⟨Q, 3, none⟩ (.slice B3 Dx.length d3)).heap.size := BQ5.out.lt
          clear hD
          generalize (((w3.setCell ⟨Q, 0, none⟩ (.int .i64 Dv)).setCell ⟨Q, 1, none⟩ (.slice B1 Dl.length d1)).setCell ⟨Q, 2, none⟩ (.slice B2 Dh.length d2)).setCell ⟨Q, 3, none⟩ (.slice B3 Dx.length d3) = w5 at *
          have HSK5 := Lib.hid (conS_own hO5)
          have hg35 : g3 < w5.heap.size := (hO5.lt g3 rfl).2
          have hR75 := (own_slr RD5.out.own)
          obtain ⟨A7', c7', hv7', _, _, _, hR75⟩ := hR75
          injection hv7' with ha7 hb7 hc7
          subst ha7 hc7
          rw [← HN.out] at hR75
          have R75 := Lib.hid hR75
          clear hR75 hb7 hO5 q0 q1 q2 q3 qf0 qf1 qf2 qf3 RD1 RD2 RD3 BQ1 BQ2 BQ3 HO3 HSK0 HSK2 HB3 HS3 RD3d BQ3d pf0 pf1 pf2 pf3
          go_wp2
          have hSK5 := HSK5.out
          go_region_held3 (fun w' => w'.cell? ⟨g3, 0, none⟩ = some (.int .i64 cA) ∧ w'.cell? ⟨g3, 1, none⟩ = some (.int .i64 cB) ∧ w'.cell? ⟨g3, 2, none⟩ = some (.int .i64 cR) ∧ w'.cell? ⟨g3, 3, none⟩ = some (.int .i64 cC) ∧ w'.cell? ⟨g3, 4, none⟩ = some (.int .i64 cS)) (first | with_reducible assumption | go_keep)
            (first
              | (refine step_append_any _ (by rfl) (.const (.slice none 0 0)) (.tmp 73) _ (by rfl) w5.heap.size 40 i0 _ 5 40 Try.underlying22 hi0 hz0 hz1 hz2 rfl (by omega) (.slice none 0 0) 0 [] (by rfl)
                   (World.ownsRow_nil _ _ _ _) w5.heap.size A7 N c7 (conCells l) (by rfl) (by first | exact R75.out.drew | exact R75.out.drew.alloc (Nat.le_refl _) _) (flat_con' _) (by simp only [maxLen]; omega) (by omega) (by simp) ?_
                 intro v8 w8 hown8 hg8 hat8
                 have HO8 := Lib.hid hown8
                 have HG8 := Lib.hid ((Below.refl _ _).grown hg8 (Nat.le_refl _) (fun k hk => by cases hk))
                 have HB8 := Lib.hid (show Below w5.heap.size w5 w8 by first | exact ((Below.refl w5.heap.size w5).drew).grown hg8 (by simp) (fun k hk => by cases hk) | exact (((Below.refl w5.heap.size w5).drew).alloc (Nat.le_refl _) _).grown hg8 (by simp) (fun k hk => by cases hk))
                 have hSK8 := conS hg35 HB8.out HSK5.out
                 clear hown8 hg8 hat8 hSK5)
              | (refine step_append_any _ (by rfl) (.tmp 74) (.tmp 78) _ (by rfl) w5.heap.size 40 i0 _ 5 40 Try.underlying22 hi0 hz0 hz1 hz2 rfl (by omega) v8 (0 + N) _ (by rfl)
                   (HO8.out.alloc _) _ _ 1 1 _ (by rfl) (reads_new w8 #[.int .i64 cA, .int .i64 cB, .int .i64 cR, .int .i64 cC, .int .i64 cS] 40 5 1 rfl) (by intro u hu; simp at hu; rcases hu with rfl | rfl | rfl | rfl | rfl <;> rfl) (by simp only [maxLen]; omega) (by omega) (by have := HB8.out.size; simp; omega) ?_
                 intro v13 w13 hown13 hg13 hat13
                 have HO13 := Lib.hid hown13
                 have HB13 := Lib.hid ((HB8.out.alloc HB8.out.size _).grown hg13 (by have := HB8.out.size; simp; omega) (fun k hk => (HO8.out.lt k hk).1))
                 have hSK13 := conS hg35 HB13.out HSK5.out
                 clear hown13 hg13 hat13 hSK8)
              | (refine step_append_any _ (by rfl) (.tmp 74) (.tmp 78) _ (by rfl) w5.heap.size 40 i0 _ 5 40 Try.underlying22 hi0 hz0 hz1 hz2 rfl (by omega) v8 (0 + N) _ (by rfl)
                   HO8.out _ _ 1 1 _ (by rfl) ((reads_new w5.drew #[.int .i64 cA, .int .i64 cB, .int .i64 cR, .int .i64 cC, .int .i64 cS] 40 5 1 rfl).below HG8.out) (by intro u hu; simp at hu; rcases hu with rfl | rfl | rfl | rfl | rfl <;> rfl) (by simp only [maxLen]; omega) (by omega) HB8.out.size ?_
                 intro v13 w13 hown13 hg13 hat13
                 have HO13 := Lib.hid hown13
                 have HB13 := Lib.hid (HB8.out.grown hg13 HB8.out.size (fun k hk => (HO8.out.lt k hk).1))
                 have hSK13 := conS hg35 HB13.out HSK5.out
                 clear hown13 hg13 hat13 hSK8)
              | fail)
          all_goals
            have RDt := Lib.hid (RD5.out.below HB13.out)
            have BQt := Lib.hid (BQ5.out.below HB13.out hq5)
            have HVt := Lib.hid (HV5.out.below HB13.out)
            obtain ⟨N', hN'⟩ : ∃ N', N' = l'.length := ⟨_, rfl⟩
            have hNN : 0 + N + 1 = N' := by rw [hN', HL'.out, List.length_append, ← HN.out]; simp
            have hNk : N' ≤ k + 1 := by omega
            have own10 := HO13.out
            rw [hNN, List.nil_append, ← conCells_snoc, ← HL'.out] at own10
            have hPw5 : P + 1 ≤ w5.heap.size := by omega
            have own10 := own_base own10 (base' := P + 1) hPw5
            have HN' := Lib.hid hN'
            have hqt : Q < w13.heap.size := Nat.lt_of_lt_of_le hq5 HB13.out.size
            have HFt := Lib.hid (fresh_less HFB.out (base' := P + 1) (show P + 1 ≤ w2.drew.heap.size by simp; omega))
            clear RD5 BQ5 HV5 hN' hNN HVB HFB HO13 hSK13 HO8 HG8 HB8
            obtain ⟨A10, c10, rfl, hle10, _, hnil10, hr10⟩ := own_slr own10
            have R10 := Lib.hid hr10
            have O10 := Lib.hid own10
            clear hnil10 hr10 own10
            go_wp2_with fail
            refine (rsolve_any nv A10 N' c10 _ l' _ HN'.out.symm R10.out (Nat.le_refl _)).mono ?_
            intro e w7 hs7
            rw [← solve_eq] at hs7
            obtain ⟨vb, rfl, hvb7, hb7⟩ := solved_dat hs7
            obtain ⟨E1, f1, E2, f2, E3, f3, rfl⟩ := sys_form hvb7
            rw [HD.out] at hvb7 ⊢
            dsimp only at *
            clear hs7
            have RD7 := Lib.hid (RDt.out.below hb7)
            have BQ7 := Lib.hid (BQt.out.below hb7 hqt)
            have HV7 := Lib.hid (HVt.out.below hb7)
            have HW7 := Lib.hid hvb7
            have O7 := Lib.hid (own_below O10.out hb7 (Nat.le_refl _))
            have hq7 : Q < w7.heap.size := Nat.lt_of_lt_of_le hqt hb7.size
            obtain ⟨t0, t1, t2, t3⟩ := blk4_cells BQ7.out
            clear hb7 hvb7 RDt BQt HVt O10 R10
            go_wp2_with fail
            refine (same_eq _ _ Dv Dl Dh Dx _ (HV7.out.below ((Below.refl _ _).alloc (Nat.le_refl _) _)) (HW7.out.below ((Below.refl _ _).alloc (Nat.le_refl _) _)) (by omega) (by omega) (by omega)).mono ?_
            rintro e w8 ⟨rfl, hb8⟩
            have hb78 : Below w7.heap.size w7 w8 := ((Below.refl _ _).alloc (Nat.le_refl _) _).trans (hb8.mono (by simp))
            have RD8 := Lib.hid (RD7.out.below hb78)
            have BQ8 := Lib.hid (BQ7.out.below hb78 hq7)
            have HV8 := Lib.hid (HV7.out.below hb78)
            have O8 := Lib.hid (own_below O7.out hb78 (Nat.le_refl _))
            clear hb8 hb78 t0 t1 t2 t3 RD7 BQ7 HV7 HW7 O7
            by_cases hkz : Dk = 0
            · obtain ⟨sa, sb, hsol', hdat⟩ := dat_ok (vars := nv) (l := l') (by rw [HD.out]; exact hkz)
              rw [HD.out] at hdat
              injection hdat with hdv hdat
              injection hdat with hdl hdat
              injection hdat with hdh hdat
              injection hdat with hdx hdk
              subst hdv hdl hdh hdx hdk
              have RD9 := Lib.hid (RD8.out.store (by rw [← HN'.out]; exact O8.out) HV8.out HFt.out hsol')
              have hd0 : ((0 : Int) == 0) = true := rfl
              obtain ⟨t0, t1, t2, t3⟩ := blk4_cells BQ8.out
              obtain ⟨p0, p1, p2, p3, pf0, pf1, pf2, pf3⟩ := RD8.out.cells
              clear hsol' hkz
              go_wp2
              go_roundw
              case rel => exact ⟨k + 1, _, _, _, _, _, _, _, _, _, _, by go_num, by omega, by rw [← HN'.out]; exact hNk, RD9.out⟩
              case measure => simp [intOf]; omega
            · have hd0 : (Dk == 0) = false := by simpa using hkz
              go_wp2
              go_roundw
              case rel => exact ⟨k + 1, M, l, h, x, A1, c1, A2, c2, A3, c3, by go_num, by omega, by rw [← HN.out]; omega, by have := RD8.out; rw [← HN.out] at this; exact this⟩
              case measure => simp [intOf]; omega
    · have hsol := RD.out.sol
      have HSL := Lib.hid hsol
      rw [← hN]
      clear hN hsol
      go_wp2_with fail
      refine (solve_any nv A7 N c7 _ l _ HN.out.symm (by rw [HN.out]; exact R7.out) (Nat.le_refl _) (by rw [HN.out]; exact N7.out)).mono ?_
      intro e w5 hs5
      rw [HSL.out] at hs5
      obtain ⟨va, rfl, hva, hb5⟩ := hs5
      obtain ⟨E1, f1, E2, f2, E3, f3, rfl⟩ := sys_form hva
      have RD5 := Lib.hid (RD.out.below hb5)
      have HV5 := Lib.hid hva
      obtain ⟨p0, p1, p2, p3, pf0, pf1, pf2, pf3⟩ := RD5.out.cells
      have hP5 : P < w5.heap.size := RD5.out.blk.lt
      have hl5 : l.length ≤ 100000 := by rw [← HN.out]; omega
      obtain ⟨_, _, _, _, i5, i6⟩ := iSolve_ok HSL.out
      have hh5 : h.length ≤ 100000 := by omega
      have hx5 : x.length ≤ 100000 := by rw [i6]; simp; omega
      clear hva hb5 i5 i6
      go_wp2_with fail
      refine (same_eq _ _ nv l h x _ (RD5.out.sysR.below ((Below.refl _ _).alloc (Nat.le_refl _) _)) (HV5.out.below ((Below.refl _ _).alloc (Nat.le_refl _) _)) hl5 hh5 hx5).mono ?_
      rintro e w6 ⟨rfl, hb6⟩
      have HB6 := Lib.hid (RD5.out.be.trans (((Below.refl w.heap.size w5).alloc (RD5.out.be.size) _).trans (hb6.mono (by have := RD5.out.be.size; simp; omega))))
      clear hb6
      go_wp2_with fail
      refine (awake_any _).mono ?_
      rintro e w7 ⟨rfl, hb7⟩
      have HB7 := Lib.hid (HB6.out.trans (hb7.mono HB6.out.size))
      clear hb7
      go_wp2
      go_ret
      exact ⟨rfl, HB7.out⟩
end Go.Proofs.Ytkdgeahfmmfopaa
