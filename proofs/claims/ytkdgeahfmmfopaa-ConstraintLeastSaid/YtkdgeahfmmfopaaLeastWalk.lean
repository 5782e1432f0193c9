/- ConstraintLeast walked. -/
import Derived.Test.YtkdgeahfmmfopaaC4
import Derived.Test.YtkdgeahfmmfopaaP5
import Derived.Test.YtkdgeahfmmfopaaRawWalk
import Derived.BigQuiet
namespace Go.Proofs.Ytkdgeahfmmfopaa
set_option linter.unusedVariables false
set_option linter.unusedSimpArgs false
open Go.RowKit

theorem tmod_nat (a b : Nat) : Int.tmod (a : Int) (b : Int) = ((a % b : Nat) : Int) := by
  rw [Int.tmod_eq_emod_of_nonneg (by omega)]; rfl
theorem tdiv_nat (a b : Nat) : Int.tdiv (a : Int) (b : Int) = ((a / b : Nat) : Int) := by
  rw [Int.tdiv_eq_ediv_of_nonneg (by omega)]; rfl

/-- The list that this statement builds: valid constraints over three variables, none of them required. -/
def WeakOnes (l : List Con) : Prop := ∀ c ∈ l, validB (3 : Nat) c = true ∧ c.S ≠ 0

set_option maxRecDepth 100000 in
set_option maxHeartbeats 2000000 in
theorem least_law : LawAny 6 := by
  intro A n c zs w hnc hc hr hz
  obtain ⟨i0, hi0, hz0, hz1, hz2⟩ := info_parts con_info
  have HR := Lib.hid hr
  have HZ := Lib.hid hz
  clear hr hz
  go_enter Try.func6, Try.ntmps6
  go_wp2_with fail
  refine (new_any w.heap.size A n c zs _ (Nat.le_refl _) hnc hc HR.out HZ.out).mono ?_
  rintro e w1 ⟨g, rfl, hg0, hs1, hb1⟩
  have hgl1 := hs1.lt
  have HB1 := Lib.hid hb1
  have hw1 : w.heap.size ≤ w1.heap.size := hb1.size
  clear hb1
  go_wp2_with fail
  refine (n_any g w.heap.size _ _ hs1 (by omega) (by omega)).mono ?_
  rintro e w2 ⟨r, rfl, hr0, hr1, _, hs2, hg2⟩
  have hr2 : r ≤ 7 := by have := hr1 (by omega); omega
  obtain ⟨k0, rfl⟩ := Int.eq_ofNat_of_zero_le hr0
  have HB2 := Lib.hid (HB1.out.grown hg2 HB1.out.size (fun k hk => by cases hk; exact hg0))
  have hgl2 := hs2.lt
  clear hr1 hg2
  go_wp2
  go_loopw [4, 5] (fun s4 s5 wr => ∃ (k : Nat) (l : List Con), s5 = .int .i64 (k : Int) ∧ l.length + k ≤ 7 ∧ wr.ownsRow w2.heap.size 40 5 s4 l.length (conCells l) ∧ WeakOnes l ∧ SrcIs wr g w.heap.size ∧ w2.grownBy wr (some g)) (fun _ s5 _ => (intOf s5).toNat)
  case atStart => exact ⟨k0, [], rfl, by simp; omega, World.ownsRow_nil _ _ _ _, fun c hc => by simp at hc, hs2, World.grownBy.refl _ _⟩
  case round =>
    obtain ⟨k, l, rfl, hk, hown, hweak, hs, hgr⟩ := hrel
    have HOWN := Lib.hid hown
    have HWEAK := Lib.hid hweak
    clear hown hweak
    have hwr : w2.heap.size ≤ wr.heap.size := hgr.size
    by_cases hk0 : 0 < k
    · have hkp : (0 : Int) < (k : Int) := by omega
      go_wp2_with fail
      refine (range_any g w.heap.size _ _ _ hs (by omega) (by omega) (by omega)).mono ?_
      rintro e w3 ⟨r3, rfl, a1, a2, hs3, hg3⟩
      go_wp2_with fail
      refine (range_any g w.heap.size _ _ _ hs3 (by omega) (by omega) (by omega)).mono ?_
      rintro e w4 ⟨r4, rfl, b1, b2, hs4, hg4⟩
      go_wp2_with fail
      refine (n_any g w.heap.size _ _ hs4 (by omega) (by omega)).mono ?_
      rintro e w5 ⟨r5, rfl, c1, c2, _, hs5, hg5⟩
      have c3 := c2 (by omega)
      clear c2
      go_wp2_with fail
      refine (range_any g w.heap.size _ _ _ hs5 (by omega) (by omega) (by omega)).mono ?_
      rintro e w6 ⟨r6, rfl, d1, d2, hs6, hg6⟩
      go_wp2_with fail
      refine (range_any g w.heap.size _ _ _ hs6 (by omega) (by omega) (by omega)).mono ?_
      rintro e w7 ⟨r7, rfl, e1, e2, hs7, hg7⟩
      have hg37 := gb_trans (gb_trans (gb_trans (gb_trans hg3 hg4) hg5) hg6) hg7
      have hw7 : w2.heap.size ≤ w7.heap.size := Nat.le_trans hwr hg37.size
      have hown7 := own_gb HOWN.out hg37 hgl2
      have hgr7 := gb_trans hgr hg37
      have hown8 := Lib.hid (hown7.alloc (Obj.cells #[.int .i64 r3, .int .i64 r4, .int .i64 r5, .int .i64 r7, .int .i64 r6] 40))
      have hrd8 := Lib.hid (reads_new w7 #[.int .i64 r3, .int .i64 r4, .int .i64 r5, .int .i64 r7, .int .i64 r6] 40 5 1 rfl)
      have HS8 := Lib.hid (hs7.belowH ((Below.refl w2.heap.size w7).alloc hw7 (Obj.cells #[.int .i64 r3, .int .i64 r4, .int .i64 r5, .int .i64 r7, .int .i64 r6] 40)) hgl2)
      have HG8 := Lib.hid (gb_below hgr7 ((Below.refl w2.heap.size w7).alloc hw7 (Obj.cells #[.int .i64 r3, .int .i64 r4, .int .i64 r5, .int .i64 r7, .int .i64 r6] 40)))
      have HCV := Lib.hid (show validB (3 : Nat) ⟨r3, r4, r5, r7, r6⟩ = true ∧ r6 ≠ 0 by refine ⟨?_, by omega⟩; simp only [validB, decide_eq_true_eq]; omega)
      clear hg3 hg4 hg5 hg6 hg7 hg37 hown7 hgr7 hs hs3 hs4 hs5 hs6 hs7 hgr
      go_wp2_with (
        at_builtin
        refine wpList_append_any _ rfl (.tmp 20) (.tmp 32) _ rfl w2.heap.size 40 i0 _ 5 40 Try.underlying22 hi0 hz0 hz1 hz2 rfl (by omega) _ l.length (conCells l) rfl
          hown8.out _ _ 1 1 _ rfl hrd8.out (by intro u hu; simp at hu; rcases hu with rfl | rfl | rfl | rfl | rfl <;> rfl) (by simp only [maxLen]; omega) (by omega) (by simp; omega) ?_
        intro v13 w13 hown13 hg13 hat13)
      go_roundw
      case rel =>
        have hbel : Below w2.heap.size (w7.alloc (Obj.cells #[.int .i64 r3, .int .i64 r4, .int .i64 r5, .int .i64 r7, .int .i64 r6] 40)) w13 :=
          (Below.refl _ _).grown hg13 (by simp; omega) (fun k hk => (hown8.out.lt k hk).1)
        refine ⟨k - 1, l ++ [⟨r3, r4, r5, r7, r6⟩], by go_num, by simp; omega, ?_, ?_, HS8.out.belowH hbel hgl2, gb_below HG8.out hbel⟩
        · have e : conCells (l ++ [⟨r3, r4, r5, r7, r6⟩]) = conCells l ++ [.int .i64 r3, .int .i64 r4, .int .i64 r5, .int .i64 r7, .int .i64 r6] := by simp [conCells, Con.cells]
          rw [e, List.length_append]
          exact hown13
        · intro c hc
          rcases List.mem_append.1 hc with hc | hc
          · exact HWEAK.out c hc
          · simp at hc; subst hc; exact HCV.out
      case measure => simp [intOf]; omega
    · obtain rfl : k = 0 := by omega
      have HB3 := Lib.hid (HB2.out.grown hgr HB2.out.size (fun k hk => by cases hk; exact hg0))
      obtain ⟨A3, c3, rfl, hle3, hm3, hnil3, hr3⟩ := own_slr HOWN.out
      have HR3 := Lib.hid hr3
      have HN3 := Lib.hid hnil3
      clear hgr hr3 hnil3 hs HOWN
      obtain ⟨N, hN⟩ : ∃ N, N = l.length := ⟨_, rfl⟩
      have HN := Lib.hid hN
      rw [← hN] at HR3 HN3 hk hle3 ⊢
      clear hN
      go_wp2_with fail
      refine (solve_any 3 A3 N c3 wr.heap.size l _ HN.out.symm HR3.out (Nat.le_refl _) HN3.out).mono ?_
      intro e w4 hs4
      have hval : ∀ c ∈ l, validB (3 : Nat) c = true := fun c hc => (HWEAK.out c hc).1
      obtain ⟨h, x, hsol, hgood⟩ := iSolve_good (n := 3) (l := l) (by omega) (by have := HN.out; omega) hval (weak_feasible fun c hc => (HWEAK.out c hc).2)
      rw [show ((3 : Nat) : Int) = 3 from rfl] at hsol
      rw [hsol] at hs4
      obtain ⟨va, rfl, hva, hb4⟩ := hs4
      obtain ⟨v1, v2, v3, rfl, a1, a2, a3⟩ := hva
      obtain ⟨A1, c1, rfl, _, _, _, r1⟩ := a1
      obtain ⟨A2, c2, rfl, _, _, _, r2⟩ := a2
      obtain ⟨A4, c4, rfl, _, _, _, r4⟩ := a3
      have hxl : x.length = 3 := hgood.xl
      have hhl : h.length = N := by rw [hgood.hl]; exact HN.out.symm
      have hll : l.length = N := HN.out.symm
      rw [hhl] at r2 ⊢
      rw [hxl] at r4 ⊢
      rw [hll] at r1 ⊢
      have HG := Lib.hid hgood
      have HVAL := Lib.hid hval
      have HB4 := Lib.hid (HB3.out.trans (hb4.mono HB3.out.size))
      have HHL := Lib.hid hhl
      have HXL := Lib.hid hxl
      have R2 := Lib.hid (r2.alloc (Nat.le_refl _) (Obj.cells #[.int .i64 3, .slice A1 N c1, .slice A2 N c2, .slice A4 3 c4] 26))
      have R4 := Lib.hid (r4.alloc (Nat.le_refl _) (Obj.cells #[.int .i64 3, .slice A1 N c1, .slice A2 N c2, .slice A4 3 c4] 26))
      have R3 := Lib.hid ((HR3.out.below hb4).alloc hb4.size (Obj.cells #[.int .i64 3, .slice A1 N c1, .slice A2 N c2, .slice A4 3 c4] 26))
      have hsz3 : wr.heap.size ≤ w4.heap.size := hb4.size
      clear hsol hgood hb4 hxl hhl hll r1 r2 r4 hval
      have HBX := Lib.hid (Blk.new w4 26 #[.int .i64 3, .slice A1 N c1, .slice A2 N c2, .slice A4 3 c4])
      have HBW := Lib.hid (HB4.out.alloc HB4.out.size (Obj.cells #[.int .i64 3, .slice A1 N c1, .slice A2 N c2, .slice A4 3 c4] 26))
      have hszW : (w4.alloc (Obj.cells #[.int .i64 3, .slice A1 N c1, .slice A2 N c2, .slice A4 3 c4] 26)).heap.size = w4.heap.size + 1 := by simp
      go_wp2
      generalize w4.alloc (Obj.cells #[.int .i64 3, .slice A1 N c1, .slice A2 N c2, .slice A4 3 c4] 26) = W at *
      have hlt4 : w4.heap.size < W.heap.size := by omega
      have x2 : W.cell? ⟨w4.heap.size, 2, none⟩ = some (.slice A2 N c2) := by rw [HBX.out.cell]; rfl
      have x3 : W.cell? ⟨w4.heap.size, 3, none⟩ = some (.slice A4 3 c4) := by rw [HBX.out.cell]; rfl
      clear hszW
      go_loopw [8] (fun s8 wr => ∃ k : Nat, s8 = .int .i64 (k : Int) ∧ k ≤ 1000 ∧ Below W.heap.size W wr) (fun s8 _ => 1000 - (intOf s8).toNat)
      case atStart => exact ⟨0, rfl, by omega, Below.refl _ _⟩
      case round =>
        obtain ⟨k, rfl, hk, hbw⟩ := hrel
        by_cases hkn : k < 1000
        · have hk0 : (k : Int) < 1000 := by omega
          have t0 := tmod_nat k 10
          have t1 := tdiv_nat k 10
          have t2 := tmod_nat (k / 10) 10
          have t3 := tdiv_nat k 100
          simp only [Int.cast_ofNat_Int] at t0 t1 t2 t3
          obtain ⟨y0, hy0⟩ : ∃ y0 : Nat, y0 = k % 10 := ⟨_, rfl⟩
          obtain ⟨y1, hy1⟩ : ∃ y1 : Nat, y1 = k / 10 % 10 := ⟨_, rfl⟩
          obtain ⟨y2, hy2⟩ : ∃ y2 : Nat, y2 = k / 100 := ⟨_, rfl⟩
          rw [← hy0] at t0
          rw [← hy1] at t2
          rw [← hy2] at t3
          have hy0' : y0 ≤ 9 := by omega
          have hy1' : y1 ≤ 9 := by omega
          have hy2' : y2 ≤ 9 := by omega
          have e1 : (k : Int) / 10 % 10 = (y1 : Int) := by omega
          clear hy0 hy1 hy2
          go_wp2
          rw [e1]
          have HB9 := Lib.hid (hbw.alloc hbw.size (Obj.cells #[.int .i64 (y0 : Int), .int .i64 (y1 : Int), .int .i64 (y2 : Int)] 3))
          have HBY := Lib.hid (Blk.new wr 3 #[.int .i64 (y0 : Int), .int .i64 (y1 : Int), .int .i64 (y2 : Int)])
          have RY := Lib.hid (show Reads _ _ 1 _ 3 (ints [(y0 : Int), (y1 : Int), (y2 : Int)]) from reads_new wr #[.int .i64 (y0 : Int), .int .i64 (y1 : Int), .int .i64 (y2 : Int)] 3 1 3 rfl)
          have hsz9 : (wr.alloc (Obj.cells #[.int .i64 (y0 : Int), .int .i64 (y1 : Int), .int .i64 (y2 : Int)] 3)).heap.size = wr.heap.size + 1 := by simp
          have hszw : W.heap.size ≤ wr.heap.size := hbw.size
          generalize wr.alloc (Obj.cells #[.int .i64 (y0 : Int), .int .i64 (y1 : Int), .int .i64 (y2 : Int)] 3) = V at *
          have hltv : wr.heap.size < V.heap.size := by omega
          have hWV : W.heap.size ≤ V.heap.size := by omega
          clear t0 t1 t2 t3 e1 hbw hsz9
          generalize wr.heap.size = P at *
          go_loopw [10, 11] (fun s10 s11 wr => ∃ (j : Nat) (ba : Bool), s10 = .bool ba ∧ s11 = .int .i64 (j : Int) ∧ j ≤ N ∧ Below V.heap.size V wr ∧
              Hid (ba = true → ∀ (i : Nat) (c : Con), i < j → l[i]? = some c → h[i]?.getD false = true → satC [(y0 : Int), (y1 : Int), (y2 : Int)] c = true)) (fun _ s11 _ => N - (intOf s11).toNat)
          case atStart => exact ⟨0, true, rfl, rfl, by omega, Below.refl _ _, Lib.hid fun _ i c hi => by omega⟩
          case round =>
            obtain ⟨j, ba, rfl, rfl, hj, hbr, HALL⟩ := hrel
            by_cases hjn : j < N
            · have hj0 : (j : Int) < (N : Int) := by omega
              obtain ⟨b3, o3, rfl, hb3, hc3⟩ := R3.out.plain (by omega) (by omega)
              obtain ⟨b2, o2, rfl, hb2, hc2⟩ := R2.out.plain (by omega) (by omega)
              have hlj : l[j]? = some (l[j]'(by have := HN.out; omega)) := List.getElem?_eq_getElem _
              have hjh : j < h.length := by rw [HHL.out]; exact hjn
              have hhj : h[j]? = some (h[j]'hjh) := List.getElem?_eq_getElem _
              have hcok := ConOk_of_valid (HVAL.out _ (List.mem_of_getElem? hlj))
              generalize hcc : l[j]'(by have := HN.out; omega) = cc at hlj hcok
              have hbh : W.cell? ⟨b2, o2 + j, none⟩ = some (.bool (h[j]'hjh)) := hc2 j _ (bools_get hjh)
              generalize h[j]'hjh = hv at hhj hbh
              have hbW : Below W.heap.size W wr := HB9.out.trans (hbr.mono hWV)
              have hcell : ∀ i u, cc.cells[i]? = some u → i < 5 → wr.cell? ⟨b3, o3 + (j * 5 + i), none⟩ = some u := fun i u hu hi =>
                (hbW.cell (p := ⟨b3, o3 + (j * 5 + i), none⟩) (by simp; omega)).trans (hc3 _ _ (by rw [con_cells_at l j i cc hlj hi]; exact hu))
              have d0 : wr.cell? ⟨b3, o3 + j * 5, none⟩ = some (.int .i64 cc.A) := hcell 0 _ rfl (by omega)
              have d1 : wr.cell? ⟨b3, o3 + j * 5 + 1, none⟩ = some (.int .i64 cc.B) := hcell 1 _ rfl (by omega)
              have d2 : wr.cell? ⟨b3, o3 + j * 5 + 2, none⟩ = some (.int .i64 cc.R) := hcell 2 _ rfl (by omega)
              have d3 : wr.cell? ⟨b3, o3 + j * 5 + 3, none⟩ = some (.int .i64 cc.C) := hcell 3 _ rfl (by omega)
              have d4 : wr.cell? ⟨b3, o3 + j * 5 + 4, none⟩ = some (.int .i64 cc.S) := hcell 4 _ rfl (by omega)
              have y2' : wr.cell? ⟨w4.heap.size, 2, none⟩ = some (.slice (some ⟨b2, o2, none⟩) N c2) := (hbW.cell (p := ⟨w4.heap.size, 2, none⟩) hlt4).trans x2
              have yh : wr.cell? ⟨b2, o2 + j, none⟩ = some (.bool hv) := (hbW.cell (p := ⟨b2, o2 + j, none⟩) (by simp; omega)).trans hbh
              have RYq := Lib.hid (RY.out.below hbr)
              have hVq : V.heap.size ≤ wr.heap.size := hbr.size
              have HLJ := Lib.hid hlj
              have HHJ := Lib.hid hhj
              have HCOK := Lib.hid hcok
              have HBQ := Lib.hid hbr
              clear hbr hbW hcell hlj hhj hcok hc2 hc3 hbh
              cases ba with
              | false =>
                go_wp2
                go_roundw
                case rel => exact ⟨j + 1, false, rfl, by go_num, by omega, HBQ.out, Lib.hid fun hh => by cases hh⟩
                case measure => simp [intOf]; omega
              | true =>
                cases hv with
                | false =>
                  go_wp2
                  go_roundw
                  case rel =>
                    refine ⟨j + 1, true, rfl, by go_num, by omega, HBQ.out, Lib.hid fun hh i c hi hc hk => ?_⟩
                    by_cases hij : i = j
                    · subst hij; rw [HHJ.out] at hk; simp at hk
                    · exact HALL.out hh i c (by omega) hc hk
                  case measure => simp [intOf]; omega
                | true =>
                  go_wp2_with fail
                  refine (sat_any (some ⟨P, 0, none⟩) 3 3 V.heap.size [(y0 : Int), (y1 : Int), (y2 : Int)] cc _ (by exact RYq.out) (by omega) (by omega) HCOK.out (by intro z hz; simp at hz; rcases hz with rfl | rfl | rfl <;> omega)).mono ?_
                  rintro e w9 ⟨rfl, hb9⟩
                  have HS := Lib.hid (show satC [(y0 : Int), (y1 : Int), (y2 : Int)] cc = satC [(y0 : Int), (y1 : Int), (y2 : Int)] cc from rfl)
                  have HB99 := Lib.hid (HBQ.out.trans (hb9.mono HBQ.out.size))
                  clear hb9
                  generalize hsv : satC [(y0 : Int), (y1 : Int), (y2 : Int)] cc = sv
                  have HSV := Lib.hid hsv
                  clear hsv HS
                  go_wp2
                  go_roundw
                  case rel =>
                    refine ⟨j + 1, sv, rfl, by go_num, by omega, HB99.out, Lib.hid fun hh i c hi hc hk => ?_⟩
                    by_cases hij : i = j
                    · subst hij; rw [HLJ.out] at hc; injection hc with hc; subst hc; rw [HSV.out]; exact hh
                    · exact HALL.out (by trivial) i c (by omega) hc hk
                  case measure => simp [intOf]; omega
            · obtain rfl : N = j := by omega
              have hbW : Below W.heap.size W wr := HB9.out.trans (hbr.mono hWV)
              have hVq : V.heap.size ≤ wr.heap.size := hbr.size
              have hall := HALL.out
              obtain ⟨b4, o4, rfl, hb4, hc4⟩ := R4.out.plain (by omega) (by omega)
              obtain ⟨z0, z1, z2, hx⟩ : ∃ z0 z1 z2, x = [z0, z1, z2] := by
                have := HXL.out
                match x, this with
                | [z0, z1, z2], _ => exact ⟨z0, z1, z2, rfl⟩
              have hgl := fun hb : ba = true => good_least (y := [(y0 : Int), (y1 : Int), (y2 : Int)]) HG.out (fun c hc => ConOk_of_valid (HVAL.out c hc)) rfl (by intro z hz; simp at hz; rcases hz with rfl | rfl | rfl <;> omega)
                (fun i c hi hk => hall hb i c (by
                  rcases Nat.lt_or_ge i l.length with h | h
                  · rw [HN.out]; exact h
                  · rw [List.getElem?_eq_none h] at hi; cases hi) hi hk)
              have hrg := good_range HG.out
              rw [hx] at hc4 hgl hrg
              have q0 : wr.cell? ⟨b4, o4, none⟩ = some (.int .i64 z0) := (hbW.cell (p := ⟨b4, o4, none⟩) (by simp; omega)).trans (hc4 0 _ rfl)
              have q1 : wr.cell? ⟨b4, o4 + 1, none⟩ = some (.int .i64 z1) := (hbW.cell (p := ⟨b4, o4 + 1, none⟩) (by simp; omega)).trans (hc4 1 _ rfl)
              have q2 : wr.cell? ⟨b4, o4 + 2, none⟩ = some (.int .i64 z2) := (hbW.cell (p := ⟨b4, o4 + 2, none⟩) (by simp; omega)).trans (hc4 2 _ rfl)
              have q3 : wr.cell? ⟨w4.heap.size, 3, none⟩ = some (.slice (some ⟨b4, o4, none⟩) 3 c4) := (hbW.cell (p := ⟨w4.heap.size, 3, none⟩) hlt4).trans x3
              have p0 : wr.cell? ⟨P, 0, none⟩ = some (.int .i64 (y0 : Int)) := (hbr.cell (p := ⟨P, 0, none⟩) hltv).trans (by rw [HBY.out.cell]; rfl)
              have p1 : wr.cell? ⟨P, 1, none⟩ = some (.int .i64 (y1 : Int)) := (hbr.cell (p := ⟨P, 1, none⟩) hltv).trans (by rw [HBY.out.cell]; rfl)
              have p2 : wr.cell? ⟨P, 2, none⟩ = some (.int .i64 (y2 : Int)) := (hbr.cell (p := ⟨P, 2, none⟩) hltv).trans (by rw [HBY.out.cell]; rfl)
              have HBR := Lib.hid hbW
              clear hbr hbW hall hc4 HALL
              cases ba with
              | false =>
                clear hgl
                go_wp2_with fail
                go_quiet (fail)
                go_wp2
                go_roundw
                case rel => exact ⟨k + 1, by go_num, by omega, below_drewN HBR.out _⟩
                case measure => simp [intOf]; omega
              | true =>
                have hgl' := hgl rfl
                have g0 : decide ((y0 : Int) < z0) = false := by have : z0 ≤ (y0 : Int) := hgl' 0 (by omega); simpa using this
                have g1 : decide ((y1 : Int) < z1) = false := by have : z1 ≤ (y1 : Int) := hgl' 1 (by omega); simpa using this
                have g2 : decide ((y2 : Int) < z2) = false := by have : z2 ≤ (y2 : Int) := hgl' 2 (by omega); simpa using this
                clear hgl hgl'
                go_wp2_with fail
                go_quiet (fail)
                go_wp2
                go_roundw
                case rel => exact ⟨k + 1, by go_num, by omega, below_drewN HBR.out _⟩
                case measure => simp [intOf]; omega
        · obtain rfl : k = 1000 := by omega
          have HBW3 := Lib.hid (HBW.out.trans (hbw.mono HBW.out.size))
          go_wp2_with fail
          refine (awake_any _).mono ?_
          rintro e w7 ⟨rfl, hb7⟩
          have HB7 := Lib.hid (HBW3.out.trans (hb7.mono HBW3.out.size))
          clear hb7
          go_wp2
          go_ret
          exact ⟨rfl, HB7.out⟩
end Go.Proofs.Ytkdgeahfmmfopaa
