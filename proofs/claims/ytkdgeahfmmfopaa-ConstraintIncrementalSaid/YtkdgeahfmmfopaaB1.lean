/- Solve of the constraint solver walked: the ways that refuse. -/
import Derived.Test.YtkdgeahfmmfopaaB0
import Derived.Deep.RegionWith
namespace Go.Proofs.Ytkdgeahfmmfopaa
set_option linter.unusedVariables false
set_option linter.unusedSimpArgs false
open Go.RowKit

abbrev sysZ : Array Value := #[.int .i64 0, .slice none 0 0, .slice none 0 0, .slice none 0 0]

theorem base_below {w wr : World} (hb : Below (w.heap.size + 1) (w.alloc (.cells sysZ 26)) wr) : Below w.heap.size w wr :=
  ((Below.refl _ _).alloc (Nat.le_refl _) _).trans (hb.mono (by omega))
theorem base_blk {w wr : World} (hb : Below (w.heap.size + 1) (w.alloc (.cells sysZ 26)) wr) : Blk wr w.heap.size 26 sysZ :=
  (Blk.new w 26 sysZ).below hb (by omega)

theorem solve_neg (vars : Int) (A : Option Addr) (n c : Nat) (l : List Con) (w : World) (h : vars < 0) :
    Calls Try.prog 10 #[.int .i64 vars, .slice A n c] w (SolvedAs vars l (iSolve vars l) w) := by
  have hs : iSolve vars l = .err 1 := by simp [iSolve, h]
  rw [hs]
  clear hs
  have hd : decide (vars < 0) = true := by simpa using h
  go_enter Try.func10, Try.ntmps10
  go_wp2
  exact bodyPost_ret (v := .tuple #[zeroSys, .int .i64 1]) (by simp [results, Try.results10, go_sem, zeroSys]) rfl ⟨rfl, (Below.refl w.heap.size w).alloc (Nat.le_refl _) _⟩

theorem solve_big (vars : Int) (A : Option Addr) (n c : Nat) (l : List Con) (w : World) (h : 64 < vars) :
    Calls Try.prog 10 #[.int .i64 vars, .slice A n c] w (SolvedAs vars l (iSolve vars l) w) := by
  have hs : iSolve vars l = .err 1 := by simp [iSolve, h]
  rw [hs]
  clear hs
  have hd : decide (vars < 0) = false := by simp; omega
  go_enter Try.func10, Try.ntmps10
  go_wp2
  exact bodyPost_ret (v := .tuple #[zeroSys, .int .i64 1]) (by simp [results, Try.results10, go_sem, zeroSys]) rfl ⟨rfl, (Below.refl w.heap.size w).alloc (Nat.le_refl _) _⟩

theorem solve_long (vars : Int) (A : Option Addr) (n c : Nat) (l : List Con) (w : World) (h0 : 0 ≤ vars) (h1 : vars ≤ 64) (hl : l.length = n) (h : 200 < n) :
    Calls Try.prog 10 #[.int .i64 vars, .slice A n c] w (SolvedAs vars l (iSolve vars l) w) := by
  have hs : iSolve vars l = .err 2 := by
    unfold iSolve
    rw [if_neg (by omega), if_pos (by omega)]
  rw [hs]
  clear hs hl
  have hd : decide (vars < 0) = false := by simp; omega
  have hn : (200 : Int) < (n : Int) := by omega
  go_enter Try.func10, Try.ntmps10
  go_wp2
  exact bodyPost_ret (v := .tuple #[zeroSys, .int .i64 2]) (by simp [results, Try.results10, go_sem, zeroSys]) rfl ⟨rfl, (Below.refl w.heap.size w).alloc (Nat.le_refl _) _⟩

theorem res_facts {w wr : World} (hb : Below (w.heap.size + 1) (w.alloc (.cells sysZ 26)) wr) : w.heap.size < wr.heap.size ∧
    wr.cell? ⟨w.heap.size, 0, none⟩ = some (.int .i64 0) ∧ wr.cell? ⟨w.heap.size, 1, none⟩ = some (.slice none 0 0) ∧ wr.cell? ⟨w.heap.size, 2, none⟩ = some (.slice none 0 0) ∧ wr.cell? ⟨w.heap.size, 3, none⟩ = some (.slice none 0 0) ∧
    wr.frozen? ⟨w.heap.size, 0, none⟩ = false ∧ wr.frozen? ⟨w.heap.size, 1, none⟩ = false ∧ wr.frozen? ⟨w.heap.size, 2, none⟩ = false ∧ wr.frozen? ⟨w.heap.size, 3, none⟩ = false := by
  have hk := base_blk hb
  refine ⟨Nat.lt_of_lt_of_le (by simp) hb.size, ?_, ?_, ?_, ?_, hk.frozen 0, hk.frozen 1, hk.frozen 2, hk.frozen 3⟩ <;> (rw [hk.cell]; try rfl)

theorem bcell {W w1 : World} (hb : Below W.heap.size W w1) : (∀ b o, b < W.heap.size → w1.cell? ⟨b, o, none⟩ = W.cell? ⟨b, o, none⟩) ∧ (∀ b o, b < W.heap.size → w1.frozen? ⟨b, o, none⟩ = W.frozen? ⟨b, o, none⟩) :=
  ⟨fun b o h => hb.cell (p := ⟨b, o, none⟩) h, fun b o h => hb.frozen (p := ⟨b, o, none⟩) h⟩

theorem below_set4 {b : Nat} {w w2 : World} (hb : Below b w w2) (u0 u1 u2 u3 : Value) : Below b w ((((w2.setCell ⟨b, 0, none⟩ u0).setCell ⟨b, 1, none⟩ u1).setCell ⟨b, 2, none⟩ u2).setCell ⟨b, 3, none⟩ u3) :=
  (((hb.setCell (p := ⟨b, 0, none⟩) (Nat.le_refl _) _).setCell (p := ⟨b, 1, none⟩) (Nat.le_refl _) _).setCell (p := ⟨b, 2, none⟩) (Nat.le_refl _) _).setCell (p := ⟨b, 3, none⟩) (Nat.le_refl _) _

theorem below_set4' {b G : Nat} {w w2 : World} (hb : Below b w w2) (hG : b ≤ G) (u0 u1 u2 u3 : Value) : Below b w ((((w2.setCell ⟨G, 0, none⟩ u0).setCell ⟨G, 1, none⟩ u1).setCell ⟨G, 2, none⟩ u2).setCell ⟨G, 3, none⟩ u3) :=
  (((hb.setCell (p := ⟨G, 0, none⟩) hG _).setCell (p := ⟨G, 1, none⟩) hG _).setCell (p := ⟨G, 2, none⟩) hG _).setCell (p := ⟨G, 3, none⟩) hG _
theorem blk_set4 {G t : Nat} {w : World} {z0 z1 z2 z3 : Value} (h : Blk w G t #[z0, z1, z2, z3]) (u0 u1 u2 u3 : Value) : Blk ((((w.setCell ⟨G, 0, none⟩ u0).setCell ⟨G, 1, none⟩ u1).setCell ⟨G, 2, none⟩ u2).setCell ⟨G, 3, none⟩ u3) G t #[u0, u1, u2, u3] := by
  have := (((h.set_ 0 u0).set_ 1 u1).set_ 2 u2).set_ 3 u3
  simpa using this
theorem own_set4 {w : World} {base e size n G : Nat} {v : Value} {xs : List Value} (h : w.ownsRow base e size v n xs) (hne : v.ownBlock ≠ some G) (u0 u1 u2 u3 : Value) : ((((w.setCell ⟨G, 0, none⟩ u0).setCell ⟨G, 1, none⟩ u1).setCell ⟨G, 2, none⟩ u2).setCell ⟨G, 3, none⟩ u3).ownsRow base e size v n xs :=
  own_far (own_far (own_far (own_far h hne u0) hne u1) hne u2) hne u3
theorem own_madeB (W : World) (base k : Nat) (hb : base ≤ W.heap.size) (hk : k ≤ 100000) : (W.alloc (.cells (madeCells #[.bool false] k) 4)).ownsRow base 4 1 (.slice (some ⟨W.heap.size, 0, none⟩) k k) k (bools (List.replicate k false)) := by
  have := World.ownsRow_lit (base := base) (e := 4) (size := 1) W (madeCells #[.bool false] k) k hb (by unfold maxLen; omega) (by rw [size_madeCells]; omega)
  rw [toList_madeCells_one] at this
  simpa [bools] using this
theorem own_base {w : World} {base base' e size n : Nat} {v : Value} {xs : List Value} (h : w.ownsRow base e size v n xs) (hb : base' ≤ base) : w.ownsRow base' e size v n xs := by
  refine ⟨h.1, ?_⟩
  rcases h.2 with h2 | ⟨g, cap, cur, hv, hg, r⟩
  · exact .inl h2
  · exact .inr ⟨g, cap, cur, hv, by omega, r⟩
theorem own_bel {w w' : World} {base e size n : Nat} {v : Value} {xs : List Value} (h : w.ownsRow base e size v n xs) (hb : Below w.drew.heap.size w.drew w') : w'.ownsRow base e size v n xs :=
  own_below (w := w.drew) h hb (Nat.le_refl _)
theorem own_lt {w : World} {base e size n g : Nat} {v : Value} {xs : List Value} (h : w.ownsRow base e size v n xs) (hg : g < base) : v.ownBlock ≠ some g := by
  intro hv
  have := (h.lt g hv).1
  omega

theorem fin_own {w5 : World} {H G8 e size n : Nat} {v : Value} {xs : List Value} {base : Nat} {cs : Array Value} (h : w5.ownsRow base e size v n xs) (hbx : Blk w5 G8 26 cs) (he : e ≠ 26) (hH : H < base) (u u0 u1 u2 u3 : Value) :
    (((((w5.setCell ⟨G8, 3, none⟩ u).setCell ⟨H, 0, none⟩ u0).setCell ⟨H, 1, none⟩ u1).setCell ⟨H, 2, none⟩ u2).setCell ⟨H, 3, none⟩ u3).ownsRow base e size v n xs :=
  own_set4 (own_far h (own_blk_ne h hbx he) _) (own_lt h hH) _ _ _ _

/-- The first k constraints are in range. -/
def ValidTo (vars : Int) (l : List Con) (k : Nat) : Prop := ∀ j, j < k → ∀ c, l[j]? = some c → validB vars c = true

set_option maxRecDepth 100000 in
set_option maxHeartbeats 4000000 in
theorem solve_loop1 (n : Nat) (A : Option Addr) (m c B : Nat) (l : List Con) (w : World) (h1 : n ≤ 64) (hl : l.length = m) (hm : m ≤ 200) (hr : Reads w B 5 A m (conCells l)) (hB : B ≤ w.heap.size) (hA : A = none → m = 0 ∧ c = 0) :
    Calls Try.prog 10 #[.int .i64 n, .slice A m c] w (SolvedAs n l (iSolve n l) w) := by
  have HR := Lib.hid hr
  have HL := Lib.hid hl
  have HA := Lib.hid hA
  clear hr hl hA
  have hd : decide ((n : Int) < 0) = false := by simp
  have hd2 : decide ((64 : Int) < (n : Int)) = false := by simp; omega
  have hn : (m : Int) ≤ (200 : Int) := by omega
  obtain ⟨j0, hj0, hy0, hy1, hy2⟩ := info_parts bool_info
  have hmk := fun W => run_make_rowN (P := Try.prog) 23 4 j0 (.bool false) Try.underlying23 hj0 hy0 .i64 .i64 m m (Nat.le_refl _) (by rw [hy2]; omega) (by omega) W
  rw [hy1] at hmk
  go_enter Try.func10, Try.ntmps10
  go_wp2
  go_loopw [30] (fun i wr => ∃ k : Nat, i = .int .i64 (k : Int) ∧ k ≤ m ∧ ValidTo n l k ∧ Below (w.heap.size + 1) (w.alloc (.cells sysZ 26)) wr) (fun i _ => m - (intOf i).toNat)
  case atStart => exact ⟨0, rfl, by omega, fun j hj => absurd hj (Nat.not_lt_zero _), Below.refl _ _⟩
  case round =>
    obtain ⟨k, rfl, hk, hval, hb⟩ := hrel
    have HVAL := Lib.hid hval
    clear hval
    by_cases hkm : k < m
    · obtain ⟨b2, off2, rfl, hb2, hc2⟩ := HR.out.plain (by omega) (by omega)
      have hlk : l[k]? = some (l[k]'(by have := HL.out; omega)) := List.getElem?_eq_getElem _
      have HMEM := Lib.hid hlk
      generalize l[k]'(by have := HL.out; omega) = cc at hlk HMEM
      have hcell : ∀ j u, cc.cells[j]? = some u → j < 5 → wr.cell? ⟨b2, off2 + (k * 5 + j), none⟩ = some u := fun j u hu hj =>
        ((base_below hb).cell (p := ⟨b2, off2 + (k * 5 + j), none⟩) (by simp; omega)).trans (hc2 _ _ (by rw [con_cells_at l k j cc hlk hj]; exact hu))
      have d0 : wr.cell? ⟨b2, off2 + k * 5, none⟩ = some (.int .i64 cc.A) := hcell 0 _ rfl (by omega)
      have d1 : wr.cell? ⟨b2, off2 + k * 5 + 1, none⟩ = some (.int .i64 cc.B) := hcell 1 _ rfl (by omega)
      have d2 : wr.cell? ⟨b2, off2 + k * 5 + 2, none⟩ = some (.int .i64 cc.R) := hcell 2 _ rfl (by omega)
      have d3 : wr.cell? ⟨b2, off2 + k * 5 + 3, none⟩ = some (.int .i64 cc.C) := hcell 3 _ rfl (by omega)
      have d4 : wr.cell? ⟨b2, off2 + k * 5 + 4, none⟩ = some (.int .i64 cc.S) := hcell 4 _ rfl (by omega)
      clear hcell hc2 hlk
      cases hv : validB n cc with
      | false =>
        go_wp2_with fail
        refine (valid_any n cc _).mono ?_
        rintro e w2 ⟨rfl, hb3⟩
        rw [hv]
        have hb4 : Below (w.heap.size + 1) (w.alloc (.cells sysZ 26)) w2 := (hb.alloc (by have := (res_facts hb).1; omega) _).trans (hb3.mono (by have := (res_facts hb).1; simp; omega))
        obtain ⟨hsz, q0, q1, q2, q3, r0, r1, r2, r3⟩ := res_facts hb4
        have HB4 := Lib.hid hb4
        clear hb4 hb3 hb d0 d1 d2 d3 d4
        have hs : iSolve n l = .err 1 := by
          unfold iSolve
          rw [if_neg (by omega), if_neg (by have := HL.out; omega), if_pos]
          rw [List.all_eq_false]
          exact ⟨cc, List.mem_of_getElem? HMEM.out, by simp [hv]⟩
        have HS := Lib.hid hs
        clear hs
        go_wp2
        exact bodyPost_ret (v := .tuple #[zeroSys, .int .i64 1]) (by simp [results, Try.results10, go_sem, zeroSys, q0, q1, q2, q3, r0, r1, r2, r3]) rfl (by
          rw [HS.out]
          exact ⟨rfl, below_set4 (base_below HB4.out) _ _ _ _⟩)
      | true =>
        go_wp2_with (go_at_call 23; refine (valid_any n cc _).mono ?_; rintro e w2 ⟨rfl, hb3⟩)
        go_roundw
        case rel =>
          refine ⟨k + 1, by go_num, by omega, fun j hj c hc => ?_, (hb.alloc (by have := (res_facts hb).1; omega) _).trans (hb3.mono (by have := (res_facts hb).1; simp; omega))⟩
          by_cases hjk : j = k
          · subst hjk
            have := HMEM.out
            rw [hc] at this
            injection this with this
            rw [this]; exact hv
          · exact HVAL.out j (by omega) c hc
        case measure => simp [intOf]; omega
    · obtain rfl : k = m := by omega
      have hsz := (res_facts hb).1
      have hRW := Lib.hid ((HR.out.more hB).below (base_below hb))
      go_upto_region 11 with (fail)
      go_cut [8] (fun s8 wx => ∃ (G8 GH : Nat) (LV : Value), s8 = .pointer (some ⟨G8, 0, none⟩) ∧ Blk wx G8 26 #[.int .i64 (n : Int), LV, .slice (some ⟨GH, 0, none⟩) k k, .slice none 0 0] ∧
        wx.ownsRow (w.heap.size + 1) 4 1 (.slice (some ⟨GH, 0, none⟩) k k) k (bools (List.replicate k false)) ∧ wx.ownsRow (w.heap.size + 1) 40 5 LV k (conCells l) ∧ Below (w.heap.size + 1) (w.alloc (.cells sysZ 26)) wx ∧ w.heap.size < G8)
      case first =>
        go_region_with
          (first
            | (go_at_call 24; refine (clone_con A k c w.heap.size (conCells l) _ HA.out (by first | exact hRW.out | exact hRW.out.alloc (by omega) _ | exact (hRW.out.alloc (by omega) _).alloc (by simp; omega) _) (by first | exact Nat.le_of_lt hsz | (simp; omega)) (flat_con l) (by omega)).mono ?_; rintro e w3 ⟨v3, rfl, ho3, hb3⟩; obtain ⟨A3, c3, rfl, hs3⟩ := own_slr ho3; clear hs3; obtain ⟨hc3, hf3⟩ := bcell hb3; try (have hz3 : wr.heap.size < w3.heap.size := by (have := hb3.size; simp at this; omega))))
        all_goals (go_wp2; go_meet)
        · have hwr : w.heap.size + 1 ≤ wr.heap.size := by simpa using hb.size
          have hb0 : Below (w.heap.size + 1) (w.alloc (.cells sysZ 26)) w3 := hb.drew.trans (hb3.mono (by simp; omega))
          have hs3 : w.heap.size + 1 ≤ w3.heap.size := Nat.le_trans (by simp) hb0.size
          have hL := own_base (base' := w.heap.size + 1) ho3 (by simp; omega)
          refine ⟨_, _, _, rfl, ?_, (own_madeB w3 _ k hs3 (by omega)).alloc _, (hL.alloc _).alloc _, (hb0.alloc hs3 _).alloc (by simp; omega) _, by omega⟩
          simpa using Blk.new (w3.alloc (.cells (madeCells #[.bool false] k) 4)) 26 #[.int .i64 (n : Int), .slice A3 k c3, .slice (some ⟨w3.heap.size, 0, none⟩) k k, .slice none 0 0]
        · have hwr : w.heap.size + 1 ≤ wr.heap.size := by simpa using hb.size
          have hb0 : Below (w.heap.size + 1) (w.alloc (.cells sysZ 26)) w3 := hb.drew.trans (hb3.mono (by simp; omega))
          have hs3 : w.heap.size + 1 ≤ w3.heap.size := Nat.le_trans (by simp) hb0.size
          have hL := own_base (base' := w.heap.size + 1) ho3 (by simp; omega)
          refine ⟨_, _, _, rfl, (Blk.new _ _ _).alloc _, ?_, (hL.alloc _).alloc _, (hb0.alloc hs3 _).alloc (by simp; omega) _, by omega⟩
          have := own_madeB (w3.alloc (.cells #[.int .i64 (n : Int), .slice A3 k c3, .slice (some ⟨w3.heap.size + 1, 0, none⟩) k k, .slice none 0 0] 26)) (w.heap.size + 1) k (by simp; omega) (by omega)
          simpa using this
        · have hwr : w.heap.size + 1 ≤ wr.heap.size := by simpa using hb.size
          have hb0 : Below (w.heap.size + 1) (w.alloc (.cells sysZ 26)) w3 := (hb.alloc (by omega) _).drew.trans (hb3.mono (by simp; omega))
          have hs3 : w.heap.size + 1 ≤ w3.heap.size := Nat.le_trans (by simp) hb0.size
          have hL := own_base (base' := w.heap.size + 1) ho3 (by simp; omega)
          have hH := own_bel (own_madeB wr (w.heap.size + 1) k hwr (by omega)) hb3
          exact ⟨_, _, _, rfl, Blk.new _ _ _, hH.alloc _, hL.alloc _, hb0.alloc hs3 _, by omega⟩
        · have hwr : w.heap.size + 1 ≤ wr.heap.size := by simpa using hb.size
          have hb0 : Below (w.heap.size + 1) (w.alloc (.cells sysZ 26)) w3 := ((hb.alloc (by omega) _).alloc (by simp; omega) _).drew.trans (hb3.mono (by simp; omega))
          have hs3 : w.heap.size + 1 ≤ w3.heap.size := Nat.le_trans (by simp) hb0.size
          have hL := own_base (base' := w.heap.size + 1) ho3 (by simp; omega)
          have hH := own_bel ((own_madeB wr (w.heap.size + 1) k hwr (by omega)).alloc (.cells sysZ 26)) hb3
          have hZ : Blk w3 (wr.heap.size + 1) 26 sysZ := by
            have := (Blk.new (wr.alloc (.cells (madeCells #[.bool false] k) 4)) 26 sysZ).drew.below hb3 (by simp)
            simpa using this
          exact ⟨_, _, _, rfl, blk_set4 hZ _ _ _ _, own_set4 hH (by simp [Value.ownBlock] <;> omega) _ _ _ _, own_set4 hL (own_lt ho3 (by simp <;> omega)) _ _ _ _, below_set4' hb0 (by omega) _ _ _ _, by omega⟩
        · have hwr : w.heap.size + 1 ≤ wr.heap.size := by simpa using hb.size
          have hb0 : Below (w.heap.size + 1) (w.alloc (.cells sysZ 26)) w3 := (hb.alloc (by omega) _).drew.trans (hb3.mono (by simp; omega))
          have hs3 : w.heap.size + 1 ≤ w3.heap.size := Nat.le_trans (by simp) hb0.size
          have hL := own_base (base' := w.heap.size + 1) ho3 (by simp; omega)
          have hZ : Blk w3 wr.heap.size 26 sysZ := (Blk.new wr 26 sysZ).drew.below hb3 (by simp)
          refine ⟨_, _, _, rfl, (blk_set4 hZ _ _ _ _).alloc _, ?_, (own_set4 hL (own_lt ho3 (by simp <;> omega)) _ _ _ _).alloc _, (below_set4' hb0 (by omega) _ _ _ _).alloc (by simp [World.setCell]; omega) _, by omega⟩
          have := own_madeB ((((w3.setCell ⟨wr.heap.size, 0, none⟩ (.int .i64 (n : Int))).setCell ⟨wr.heap.size, 1, none⟩ (.slice A3 k c3)).setCell ⟨wr.heap.size, 2, none⟩ (.slice (some ⟨w3.heap.size, 0, none⟩) k k)).setCell ⟨wr.heap.size, 3, none⟩ (.slice none 0 0)) (w.heap.size + 1) k (by simp [World.setCell]; omega) (by omega)
          simpa [World.setCell] using this
        · have hwr : w.heap.size + 1 ≤ wr.heap.size := by simpa using hb.size
          have hb0 : Below (w.heap.size + 1) (w.alloc (.cells sysZ 26)) w3 := ((hb.alloc (by omega) _).alloc (by simp; omega) _).drew.trans (hb3.mono (by simp; omega))
          have hs3 : w.heap.size + 1 ≤ w3.heap.size := Nat.le_trans (by simp) hb0.size
          have hL := own_base (base' := w.heap.size + 1) ho3 (by simp; omega)
          have hZ : Blk w3 wr.heap.size 26 sysZ := ((Blk.new wr 26 sysZ).alloc _).drew.below hb3 (by simp <;> omega)
          have hH : w3.ownsRow (w.heap.size + 1) 4 1 (.slice (some ⟨wr.heap.size + 1, 0, none⟩) k k) k (bools (List.replicate k false)) := by
            have := own_bel (own_madeB (wr.alloc (.cells sysZ 26)) (w.heap.size + 1) k (by simp; omega) (by omega)) hb3
            simpa using this
          exact ⟨_, _, _, rfl, blk_set4 hZ _ _ _ _, own_set4 hH (by simp [Value.ownBlock] <;> omega) _ _ _ _, own_set4 hL (own_lt ho3 (by simp <;> omega)) _ _ _ _, below_set4' hb0 (by omega) _ _ _ _, by omega⟩
      case rest =>
        obtain ⟨G8, GH, LV, rfl, hbx, hod, hol, hbe, hG8⟩ := hcut
        obtain ⟨i0, hi0, hz0, hz1, hz2⟩ := info_parts int_info
        have hmk2 := fun W => run_make_rowN (P := Try.prog) 24 3 i0 (.int .i64 0) Try.underlying24 hi0 hz0 .i64 .i64 (n + 1) (n + 1) (Nat.le_refl _) (by rw [hz2]; omega) (by omega) W
        rw [hz1] at hmk2
        have ec : ((n + 1 : Nat) : Int) = (n : Int) + 1 := by omega
        rw [ec] at hmk2
        have e0 : (Value.int IntKind.i64 0).cells = #[.int .i64 0] := rfl
        rw [e0] at hmk2
        have hwc : w.heap.size + 1 ≤ wc.heap.size := by simpa using hbe.size
        have hinv0 : Inv n k l (w.heap.size + 1) G8 GH LV (w.alloc (.cells sysZ 26)) (wc.alloc (.cells (madeCells #[.int .i64 0] ((n + 1) * 1)) 3)) (st0 n k) (.slice (some ⟨wc.heap.size, 0, none⟩) (n + 1) (n + 1)) (.slice none 0 0) := by
          refine ⟨?_, World.ownsRow_nil _ _ _ _, hod.alloc _, hol.alloc _, hbx.alloc _, hbe.alloc hwc _, by simp; omega, by simp [st0], fun z hz => by simp [st0] at hz; omega, fun b hb => by simp [st0] at hb, by simp [st0]⟩
          have := World.ownsRow_lit (base := w.heap.size + 1) (e := 3) (size := 1) wc (madeCells #[.int .i64 0] ((n + 1) * 1)) (n + 1) hwc (by unfold maxLen; omega) (by rw [size_madeCells])
          rw [toList_madeCells_one] at this
          simpa [ints, st0] using this
        have HINV := Lib.hid hinv0
        have HV := Lib.hid (show ∀ c ∈ l, validB n c = true from fun c hc => by
          obtain ⟨j, hj, rfl⟩ := List.getElem_of_mem hc
          exact HVAL.out j (by have := HL.out; omega) _ (List.getElem?_eq_getElem hj))
        clear hinv0 hbx hod hol hbe hb hmk ec e0
        go_wp2
        go_loopw [9, 10, 11] (fun s9 s10 s11 wr => ∃ (s : Nat) (st : St) (v hv : Value), s11 = .int .i64 (s : Int) ∧ s ≤ 4 ∧ s9 = v ∧ s10 = hv ∧ iOut l (st0 n k) s = some st ∧ st.hb.length ≤ 400 * s ∧ Inv n k l (w.heap.size + 1) G8 GH LV (w.alloc (.cells sysZ 26)) wr st v hv) (fun _ _ s11 _ => 5 - (intOf s11).toNat)
        case atStart => exact ⟨0, st0 n k, _, _, rfl, by omega, rfl, rfl, rfl, by simp [st0], by have := HINV.out; rwa [Nat.mul_one] at this⟩
        case round =>
          obtain ⟨s, st, v, hv, rfl, hs4, rfl, rfl, hout, hhl, hinv⟩ := hrel
          have HOUT := Lib.hid hout
          have HI := Lib.hid hinv
          clear hout hinv
          by_cases hs : s ≤ 3
          · have hsd : decide ((s : Int) ≤ 3) = true := by simp; omega
            go_wp2
            go_loopw [9, 10, 56] (fun s9 s10 s56 ws => ∃ (j : Nat) (st' : St) (v' hv' : Value), s56 = .int .i64 (j : Int) ∧ j ≤ k ∧ s9 = v' ∧ s10 = hv' ∧ iIn (s : Int) l st j = some st' ∧ st'.hb.length ≤ 400 * s + 2 * j ∧ Inv n k l (w.heap.size + 1) G8 GH LV (w.alloc (.cells sysZ 26)) ws st' v' hv') (fun _ _ s56 _ => k - (intOf s56).toNat)
            case atStart => exact ⟨0, st, _, _, rfl, by omega, rfl, rfl, rfl, by omega, HI.out⟩
            case round =>
              obtain ⟨j, st', v', hv', rfl, hj, rfl, rfl, hin, hhl', hinv'⟩ := hrel
              have HIN := Lib.hid hin
              have HI' := Lib.hid hinv'
              clear hin hinv'
              by_cases hjk : j < k
              · obtain ⟨b2, off2, rfl, hb2, hc2⟩ := HR.out.plain (by omega) (by omega)
                have hlk : l[j]? = some (l[j]'(by have := HL.out; omega)) := List.getElem?_eq_getElem _
                have hcv := HV.out _ (List.mem_of_getElem? hlk)
                have hst : iIn (s : Int) l st (j + 1) = iStep (s : Int) j (l[j]'(by have := HL.out; omega)) st' := by simp only [iIn, HIN.out, hlk]
                generalize l[j]'(by have := HL.out; omega) = cc at hlk hcv hst
                have hwr := HI'.out.bw
                have hcell : ∀ i u, cc.cells[i]? = some u → i < 5 → wr.cell? ⟨b2, off2 + (j * 5 + i), none⟩ = some u := fun i u hu hi =>
                  ((base_below HI'.out.be).cell (p := ⟨b2, off2 + (j * 5 + i), none⟩) (by simp; omega)).trans (hc2 _ _ (by rw [con_cells_at l j i cc hlk hi]; exact hu))
                have d0 : wr.cell? ⟨b2, off2 + j * 5, none⟩ = some (.int .i64 cc.A) := hcell 0 _ rfl (by omega)
                have d1 : wr.cell? ⟨b2, off2 + j * 5 + 1, none⟩ = some (.int .i64 cc.B) := hcell 1 _ rfl (by omega)
                have d2 : wr.cell? ⟨b2, off2 + j * 5 + 2, none⟩ = some (.int .i64 cc.R) := hcell 2 _ rfl (by omega)
                have d3 : wr.cell? ⟨b2, off2 + j * 5 + 3, none⟩ = some (.int .i64 cc.C) := hcell 3 _ rfl (by omega)
                have d4 : wr.cell? ⟨b2, off2 + j * 5 + 4, none⟩ = some (.int .i64 cc.S) := hcell 4 _ rfl (by omega)
                have HST := Lib.hid hst
                have HCV := Lib.hid hcv
                clear hcell hc2 hlk hst hcv
                by_cases hS : cc.S = (s : Int)
                · have hSd : (cc.S != (s : Int)) = false := by simpa using hS
                  have HS := Lib.hid hS
                  clear hS
                  obtain ⟨A1, c1, rfl, hs1⟩ := own_slr HI'.out.oh
                  obtain ⟨Av, cv, rfl, hsv⟩ := own_slr HI'.out.ov
                  clear hs1 hsv
                  have hcv := HCV.out
                  simp only [validB, decide_eq_true_eq] at hcv
                  obtain ⟨y1, y2, y3, y4, y5, y6, y7, y8, y9, y10⟩ := hcv
                  have hbl := boundsOf_length cc
                  go_wp2_with fail
                  refine (bounds_any cc _ ⟨y1, by omega⟩ ⟨y3, by omega⟩ ⟨y7, y8⟩).mono ?_
                  rintro e w2 ⟨A2', n2, c2', rfl, hnc2, hcc2, hrd2, hb2'⟩
                  have hn2 : n2 = (boundsOf cc).length := by have := reads_len hrd2; rw [bd_length] at this; omega
                  have hB2 : Below wr.heap.size wr w2 := ((Below.refl _ _).alloc (Nat.le_refl _) _).trans (hb2'.mono (by simp))
                  have HRD2 := Lib.hid hrd2
                  have HB2 := Lib.hid hB2
                  have HN2 := Lib.hid hn2
                  clear hrd2 hb2' hB2 hn2
                  go_wp2_with fail
                  have hB3 : Below wr.heap.size wr (w2.alloc (.cells #[.slice A1 st'.hb.length c1, .slice A2' n2 c2'] 49)) := HB2.out.alloc (HB2.out.size) _
                  obtain ⟨A1', c1', he1, hle1, hm1, hnil1, hrd1⟩ := own_slr (HI'.out.next hB3).oh
                  injection he1 with he1 he2 he3
                  subst he1 he3
                  refine (concat_any w2.heap.size st'.hb.length n2 c1 c2' _ _ A1 A2' (bdCells st'.hb) (bdCells (boundsOf cc)) _ (by simp) ⟨by simp, by simp⟩ hrd1 (HRD2.out.alloc (Nat.le_refl _) _) (Nat.le_refl _) (by simp) (flat_bd _) (flat_bd _) (by omega) (by have := HN2.out; omega)).mono ?_
                  rintro e w3 ⟨v3, rfl, hown3, hb3⟩
                  have hB4 : Below wr.heap.size wr w3 := hB3.trans (hb3.mono hB3.size)
                  have hI3 := HI'.out.next hB4
                  obtain ⟨N, hN⟩ : ∃ N, N = (st'.hb ++ boundsOf cc).length := ⟨_, rfl⟩
                  have hown3' : w3.ownsRow (w.heap.size + 1) 52 3 v3 N (bdCells (st'.hb ++ boundsOf cc)) := by
                    rw [hN, List.length_append, ← HN2.out, bdCells_append]
                    exact own_base hown3 (by have := hB3.size; omega)
                  have hLok : ∀ b ∈ st'.hb ++ boundsOf cc, BdOk (n + 1) b := by
                    intro b hb
                    rcases List.mem_append.1 hb with hb | hb
                    · exact HI'.out.hbo b hb
                    · exact boundsOf_ok HCV.out b hb
                  have hLlen : N ≤ 400 * s + 2 * (j + 1) := by rw [hN, List.length_append]; omega
                  have HN := Lib.hid hN
                  clear hN
                  obtain ⟨A3, c3, rfl, hle3, hm3, hnil3, hrd3⟩ := own_slr hown3'
                  obtain ⟨Av', cv', hev, hlev, hmv, hnilv, hrdv⟩ := own_slr hI3.ov
                  injection hev with hev1 hev2 hev3
                  subst hev1 hev3
                  have HO3 := Lib.hid hown3'
                  have HI3 := Lib.hid hI3
                  have HLOK := Lib.hid hLok
                  have HLL := Lib.hid hLlen
                  have HNV := Lib.hid hnilv
                  have HRDV := Lib.hid hrdv
                  have HRD3 := Lib.hid hrd3
                  have HB4 := Lib.hid hB4
                  clear hB3 hb3 hB4 hI3 hown3 hown3' hLok hLlen hnilv hrdv hrd3 hnil3 hnil1 hrd1 hle3 hm3 hlev hmv d0 d1 d2 d3 d4
                  cases hR : iRaise st'.v (st'.hb ++ boundsOf cc) with
                  | none =>
                    go_wp2_with fail
                    refine (raise_any Av A3 (n + 1) cv N c3 _ _ st'.v (st'.hb ++ boundsOf cc) _ HNV.out HI3.out.vl HRDV.out (Nat.le_refl _) (by omega) (by omega) HN.out.symm HRD3.out (Nat.le_refl _) (by have := HLL.out; omega) HI3.out.vb HLOK.out).mono ?_
                    rw [hR]
                    rintro e w4 ⟨rfl, hb4⟩
                    have hI4 := HI3.out.next hb4
                    by_cases hs0 : s = 0
                    · subst hs0
                      have hnone : iIn ((0 : Nat) : Int) l st (j + 1) = none := by rw [HST.out]; simp [iStep, HS.out, hR]
                      have hsol : iSolve n l = .err 13 := by
                        have h1 := iIn_none hnone (l.length - (j + 1))
                        rw [show j + 1 + (l.length - (j + 1)) = l.length by have := HL.out; omega] at h1
                        have h2 : iOut l (st0 n k) 1 = none := by simp only [iOut] at *; have := HOUT.out; simp only [iOut, Option.some.injEq] at this; subst this; exact h1
                        have h3 := iOut_none h2 3
                        unfold iSolve
                        rw [if_neg (by omega), if_neg (by have := HL.out; omega), if_neg (by simpa using HV.out)]
                        rw [HL.out, Int.toNat_natCast, h3]
                      have HSOL := Lib.hid hsol
                      obtain ⟨hsz, q0, q1, q2, q3, r0, r1, r2, r3⟩ := res_facts hI4.be
                      have HI4 := Lib.hid hI4
                      clear hI4 hb4 hR hnone hsol
                      go_wp2
                      exact bodyPost_ret (v := .tuple #[zeroSys, .int .i64 13]) (by simp [results, Try.results10, go_sem, zeroSys, q0, q1, q2, q3, r0, r1, r2, r3]) rfl (by
                        rw [HSOL.out]
                        exact ⟨rfl, below_set4 (base_below HI4.out.be) _ _ _ _⟩)
                    · have hsd0 : ((s : Int) == 0) = false := by simp; omega
                      have HI4 := Lib.hid hI4
                      have HRN := Lib.hid hR
                      clear hI4 hb4 hR
                      go_wp2
                      go_roundw
                      case rel => exact ⟨j + 1, st', _, _, by go_num, by omega, rfl, rfl, by rw [HST.out]; simp [iStep, HS.out, HRN.out, hs0], by omega, HI4.out⟩
                      case measure => simp [intOf]; omega
                  | some p =>
                    go_wp2_with fail
                    refine (raise_any Av A3 (n + 1) cv N c3 _ _ st'.v (st'.hb ++ boundsOf cc) _ HNV.out HI3.out.vl HRDV.out (Nat.le_refl _) (by omega) (by omega) HN.out.symm HRD3.out (Nat.le_refl _) (by have := HLL.out; omega) HI3.out.vb HLOK.out).mono ?_
                    rw [hR]
                    rintro e w4 ⟨v4, rfl, hown4, hb4⟩
                    have hI4 := HI3.out.next hb4
                    obtain ⟨hpl, hpb⟩ := iRaise_bound (HI3.out.vl) HI3.out.vb HLOK.out (by exact HI3.out.vl) HI3.out.vb (by unfold iRaise at hR; rw [HI3.out.vl] at hR; exact hR)
                    have hov := own_base (base' := w.heap.size + 1) hown4 (by have := HI3.out.bw; omega)
                    have hoh : w4.ownsRow (w.heap.size + 1) 52 3 (.slice A3 N c3) (st'.hb ++ boundsOf cc).length (bdCells (st'.hb ++ boundsOf cc)) := by
                      have h := own_below HO3.out hb4 (Nat.le_refl _)
                      have hN := HN.out
                      rw [← hN]
                      exact h
                    obtain ⟨A4, c4, rfl, _⟩ := own_slr hown4
                    have hacc := fun i => hI4.accept (i := i) hov hoh hpl hpb HLOK.out
                    have g2 : w4.cell? ⟨G8, 2, none⟩ = some (.slice (some ⟨GH, 0, none⟩) k k) := by rw [hI4.bx.cell]; rfl
                    have hlen : j < st'.held.length := by have := hI4.dl; omega
                    have gh : w4.cell? ⟨GH, j, none⟩ = some (.bool (st'.held[j]'hlen)) := by
                      rw [hI4.od.cellAt j (by omega)]
                      simp [bools, List.getElem?_eq_getElem hlen]
                    have gf : w4.frozen? ⟨GH, j, none⟩ = false := hI4.od.frozenAt j
                    have HACC := Lib.hid hacc
                    have HRN := Lib.hid hR
                    have HI4 := Lib.hid hI4
                    generalize st'.held[j]'hlen = ob at gh
                    clear hI4 hb4 hR hacc hoh hov hown4 hpl hpb
                    have hjk0 : (j : Int) < (k : Int) := by omega
                    go_wp2
                    go_region
                    all_goals go_wp2
                    all_goals go_roundw
                    case rel =>
                      refine ⟨j + 1, ⟨p, st'.hb ++ boundsOf cc, st'.held.set j true⟩, _, _, by go_num, by omega, rfl, rfl, by rw [HST.out]; simp [iStep, HS.out, HRN.out], by have h1 := HLL.out; have h2 := HN.out; show (st'.hb ++ boundsOf cc).length ≤ _; omega, ?_⟩
                      exact (HACC.out j).next (Below.refl _ _).drew
                    case measure => simp [intOf]; omega
                · have hSd : (cc.S != (s : Int)) = true := by simpa using hS
                  go_wp2
                  go_roundw
                  case rel => exact ⟨j + 1, st', _, _, by go_num, by omega, rfl, rfl, by rw [HST.out]; simp [iStep, hS], by omega, HI'.out.next ((Below.refl _ _).alloc (Nat.le_refl _) _)⟩
                  case measure => simp [intOf]; omega
              · obtain rfl : j = k := by omega
                go_wp2
                go_roundw
                case rel => exact ⟨s + 1, st', _, _, by go_num, by omega, rfl, rfl, by simp only [iOut, HOUT.out, HL.out]; exact HIN.out, by omega, HI'.out⟩
                case measure => simp [intOf]; omega
          · obtain rfl : s = 4 := by omega
            obtain ⟨gv, cv, rfl, hgv1, hgv2, hcv⟩ := own_form HI.out.ov (by omega)
            by_cases hc1 : cv = 1
            · obtain rfl : n = 0 := by omega
              subst hc1
              have hsolv : iSolve ((0 : Nat) : Int) l = .ok st.held (st.v.drop 1) := by
                unfold iSolve
                rw [if_neg (by omega), if_neg (by have := HL.out; omega), if_neg (by simpa using HV.out), HL.out, Int.toNat_natCast, HOUT.out]
              have HSOL := Lib.hid hsolv
              obtain ⟨Av, cv9, hev, _, hmv, _, hrdv⟩ := own_slr HI.out.ov
              injection hev with hev1 hev2 hev3
              subst hev1 hev3
              have hrc := hrdv.cut (k := 1) (cap := 1) (by omega) hcv
              have hdr : (ints st.v).drop (1 * 1) = ints (st.v.drop 1) := by simp [ints, List.map_drop]
              rw [hdr, Nat.add_sub_cancel] at hrc
              have HRC := Lib.hid hrc
              obtain ⟨AL, cL, rfl, _, _, _, _⟩ := own_slr HI.out.ol
              have hcvm : ((1 : Nat) : Int) ≤ 9223372036854775807 := by unfold maxLen at hmv; omega
              clear hsolv hrdv hrc hdr hmv
              go_wp2_with fail
              refine (clone_int (some ⟨gv, 0, none⟩) 0 0 _ (ints (st.v.drop 1)) _ (fun h => by cases h) (by have := HRC.out; simpa using this) (Nat.le_refl _) (flat_ints _) (by omega)).mono ?_
              rintro e w5 ⟨v5, rfl, hown5, hb5⟩
              have hI5 := HI.out.next hb5
              obtain ⟨A5, c5, rfl, _⟩ := own_slr hown5
              have t0 : w5.cell? ⟨G8, 0, none⟩ = some (.int .i64 ((0 : Nat) : Int)) := by rw [hI5.bx.cell]; rfl
              have t1 : w5.cell? ⟨G8, 1, none⟩ = some (.slice AL k cL) := by rw [hI5.bx.cell]; rfl
              have t2 : w5.cell? ⟨G8, 2, none⟩ = some (.slice (some ⟨GH, 0, none⟩) k k) := by rw [hI5.bx.cell]; rfl
              have t3 : w5.cell? ⟨G8, 3, none⟩ = some (.slice none 0 0) := by rw [hI5.bx.cell]; rfl
              have tf := hI5.bx.frozen 3
              obtain ⟨hsz5, q0, q1, q2, q3, r0, r1, r2, r3⟩ := res_facts hI5.be
              have HI5 := Lib.hid hI5
              have HO5 := Lib.hid hown5
              have HB5 := Lib.hid hb5
              have hne8 : G8 ≠ w.heap.size := by omega
              clear hI5 hown5 hb5
              go_wp2
              exact bodyPost_ret (v := .tuple #[.agg #[.int .i64 (0 : Int), .slice AL k cL, .slice (some ⟨GH, 0, none⟩) k k, .slice A5 0 c5], .int .i64 0]) (by simp [results, Try.results10, go_sem, q0, q1, q2, q3, r0, r1, r2, r3]) rfl (by
                rw [HSOL.out]
                have hdl := HI5.out.dl
                have hvl := HI5.out.vl
                refine ⟨_, rfl, ⟨_, _, _, rfl, ?_, ?_, ?_⟩, ?_⟩
                · rw [HL.out]; exact own_slr (fin_own HI5.out.ol HI5.out.bx (by decide) (by omega) _ _ _ _ _)
                · rw [hdl]; exact own_slr (fin_own HI5.out.od HI5.out.bx (by decide) (by omega) _ _ _ _ _)
                · rw [show (st.v.drop 1).length = 0 by simp [hvl]]; exact own_slr (fin_own HO5.out HI5.out.bx (by decide) (by have := HI.out.bw; omega) _ _ _ _ _)
                · exact below_set4 (((base_below HI5.out.be)).setCell (p := ⟨G8, 3, none⟩) (by simp; omega) _) _ _ _ _)
            · have hc1' : (1 : Int) ≤ (cv : Int) := by omega
              have hsolv : iSolve n l = .ok st.held (st.v.drop 1) := by
                unfold iSolve
                rw [if_neg (by omega), if_neg (by have := HL.out; omega), if_neg (by simpa using HV.out), HL.out, Int.toNat_natCast, HOUT.out]
              have HSOL := Lib.hid hsolv
              obtain ⟨Av, cv9, hev, _, hmv, _, hrdv⟩ := own_slr HI.out.ov
              injection hev with hev1 hev2 hev3
              subst hev1 hev3
              have hrc := hrdv.cut (k := 1) (cap := cv) (by omega) hcv
              have hdr : (ints st.v).drop (1 * 1) = ints (st.v.drop 1) := by simp [ints, List.map_drop]
              rw [hdr, Nat.add_sub_cancel] at hrc
              have HRC := Lib.hid hrc
              obtain ⟨AL, cL, rfl, _, _, _, _⟩ := own_slr HI.out.ol
              have hcvm : (cv : Int) ≤ 9223372036854775807 := by unfold maxLen at hmv; omega
              clear hsolv hrdv hrc hdr hmv
              go_wp2_with fail
              refine (clone_int (some ⟨gv, 1, none⟩) n (cv - 1) _ (ints (st.v.drop 1)) _ (fun h => by cases h) (by have := HRC.out; rw [if_neg hc1] at this; exact this) (Nat.le_refl _) (flat_ints _) (by omega)).mono ?_
              rintro e w5 ⟨v5, rfl, hown5, hb5⟩
              have hI5 := HI.out.next hb5
              obtain ⟨A5, c5, rfl, _⟩ := own_slr hown5
              have t0 : w5.cell? ⟨G8, 0, none⟩ = some (.int .i64 (n : Int)) := by rw [hI5.bx.cell]; rfl
              have t1 : w5.cell? ⟨G8, 1, none⟩ = some (.slice AL k cL) := by rw [hI5.bx.cell]; rfl
              have t2 : w5.cell? ⟨G8, 2, none⟩ = some (.slice (some ⟨GH, 0, none⟩) k k) := by rw [hI5.bx.cell]; rfl
              have t3 : w5.cell? ⟨G8, 3, none⟩ = some (.slice none 0 0) := by rw [hI5.bx.cell]; rfl
              have tf := hI5.bx.frozen 3
              obtain ⟨hsz5, q0, q1, q2, q3, r0, r1, r2, r3⟩ := res_facts hI5.be
              have HI5 := Lib.hid hI5
              have HO5 := Lib.hid hown5
              have HB5 := Lib.hid hb5
              have hne8 : G8 ≠ w.heap.size := by omega
              clear hI5 hown5 hb5
              go_wp2
              exact bodyPost_ret (v := .tuple #[.agg #[.int .i64 (n : Int), .slice AL k cL, .slice (some ⟨GH, 0, none⟩) k k, .slice A5 n c5], .int .i64 0]) (by simp [results, Try.results10, go_sem, q0, q1, q2, q3, r0, r1, r2, r3]) rfl (by
                rw [HSOL.out]
                have hdl := HI5.out.dl
                have hvl := HI5.out.vl
                refine ⟨_, rfl, ⟨_, _, _, rfl, ?_, ?_, ?_⟩, ?_⟩
                · rw [HL.out]; exact own_slr (fin_own HI5.out.ol HI5.out.bx (by decide) (by omega) _ _ _ _ _)
                · rw [hdl]; exact own_slr (fin_own HI5.out.od HI5.out.bx (by decide) (by omega) _ _ _ _ _)
                · rw [show (st.v.drop 1).length = n by simp [hvl]]; exact own_slr (fin_own HO5.out HI5.out.bx (by decide) (by have := HI.out.bw; omega) _ _ _ _ _)
                · exact below_set4 (((base_below HI5.out.be)).setCell (p := ⟨G8, 3, none⟩) (by simp; omega) _) _ _ _ _)
end Go.Proofs.Ytkdgeahfmmfopaa
