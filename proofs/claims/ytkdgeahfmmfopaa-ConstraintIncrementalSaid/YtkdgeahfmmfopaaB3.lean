/- Solve of the reference walked. -/
import Derived.Test.YtkdgeahfmmfopaaB2
namespace Go.Proofs.Ytkdgeahfmmfopaa
set_option linter.unusedVariables false
set_option linter.unusedSimpArgs false
open Go.RowKit

theorem rsolve_neg (vars : Int) (A : Option Addr) (n c : Nat) (l : List Con) (w : World) (h : vars < 0) :
    Calls Try.prog 11 #[.int .i64 vars, .slice A n c] w (SolvedAs vars l (rSolve vars l) w) := by
  have hs : rSolve vars l = .err 1 := by simp [rSolve, h]
  rw [hs]
  clear hs
  have hd : decide (vars < 0) = true := by simpa using h
  go_enter Try.func11, Try.ntmps11
  go_wp2
  exact bodyPost_ret (v := .tuple #[zeroSys, .int .i64 1]) (by simp [results, Try.results11, go_sem, zeroSys]) rfl ⟨rfl, (Below.refl w.heap.size w).alloc (Nat.le_refl _) _⟩

theorem rsolve_big (vars : Int) (A : Option Addr) (n c : Nat) (l : List Con) (w : World) (h : 64 < vars) :
    Calls Try.prog 11 #[.int .i64 vars, .slice A n c] w (SolvedAs vars l (rSolve vars l) w) := by
  have hs : rSolve vars l = .err 1 := by simp [rSolve, h]
  rw [hs]
  clear hs
  have hd : decide (vars < 0) = false := by simp; omega
  go_enter Try.func11, Try.ntmps11
  go_wp2
  exact bodyPost_ret (v := .tuple #[zeroSys, .int .i64 1]) (by simp [results, Try.results11, go_sem, zeroSys]) rfl ⟨rfl, (Below.refl w.heap.size w).alloc (Nat.le_refl _) _⟩

theorem rsolve_long (vars : Int) (A : Option Addr) (n c : Nat) (l : List Con) (w : World) (h0 : 0 ≤ vars) (h1 : vars ≤ 64) (hl : l.length = n) (h : 200 < n) :
    Calls Try.prog 11 #[.int .i64 vars, .slice A n c] w (SolvedAs vars l (rSolve vars l) w) := by
  have hs : rSolve vars l = .err 2 := by
    unfold rSolve
    rw [if_neg (by omega), if_pos (by omega)]
  rw [hs]
  clear hs hl
  have hd : decide (vars < 0) = false := by simp; omega
  have hn : (200 : Int) < (n : Int) := by omega
  go_enter Try.func11, Try.ntmps11
  go_wp2
  exact bodyPost_ret (v := .tuple #[zeroSys, .int .i64 2]) (by simp [results, Try.results11, go_sem, zeroSys]) rfl ⟨rfl, (Below.refl w.heap.size w).alloc (Nat.le_refl _) _⟩

set_option maxRecDepth 100000 in
set_option maxHeartbeats 4000000 in
theorem rsolve_main (n : Nat) (A : Option Addr) (m c B : Nat) (l : List Con) (w : World) (h1 : n ≤ 64) (hl : l.length = m) (hm : m ≤ 200) (hr : Reads w B 5 A m (conCells l)) (hB : B ≤ w.heap.size) :
    Calls Try.prog 11 #[.int .i64 n, .slice A m c] w (SolvedAs n l (rSolve n l) w) := by
  have HR := Lib.hid hr
  have HL := Lib.hid hl
  clear hr hl
  have hd : decide ((n : Int) < 0) = false := by simp
  have hd2 : decide ((64 : Int) < (n : Int)) = false := by simp; omega
  have hn : (m : Int) ≤ (200 : Int) := by omega
  obtain ⟨j0, hj0, hy0, hy1, hy2⟩ := info_parts bool_info
  have hmk := fun W => run_make_rowN (P := Try.prog) 23 4 j0 (.bool false) Try.underlying23 hj0 hy0 .i64 .i64 m m (Nat.le_refl _) (by rw [hy2]; omega) (by omega) W
  rw [hy1] at hmk
  have e0 : (Value.bool false).cells = #[.bool false] := rfl
  rw [e0, Nat.mul_one] at hmk
  go_enter Try.func11, Try.ntmps11
  go_wp2
  have hown0 := own_madeB (w.alloc (.cells sysZ 26)) (w.heap.size + 1) m (by simp) (by omega)
  have hbel0 : Below (w.heap.size + 1) (w.alloc (.cells sysZ 26)) ((w.alloc (.cells sysZ 26)).alloc (.cells (madeCells #[.bool false] m) 4)) := (Below.refl _ _).alloc (by simp) _
  have HOWN0 := Lib.hid hown0
  have HBEL0 := Lib.hid hbel0
  clear hown0 hbel0 e0
  go_loopw [7] (fun i wr => ∃ k : Nat, i = .int .i64 (k : Int) ∧ k ≤ m ∧ ValidTo n l k ∧ wr.ownsRow (w.heap.size + 1) 4 1 (.slice (some ⟨w.heap.size + 1, 0, none⟩) m m) m (bools (heldTo l k)) ∧ Below (w.heap.size + 1) (w.alloc (.cells sysZ 26)) wr) (fun i _ => m - (intOf i).toNat)
  case atStart => exact ⟨0, rfl, by omega, fun j hj => absurd hj (Nat.not_lt_zero _), by rw [heldTo_zero, HL.out]; simpa using HOWN0.out, HBEL0.out⟩
  case round =>
    obtain ⟨k, rfl, hk, hval, ho, hb⟩ := hrel
    have HVAL := Lib.hid hval
    clear hval
    by_cases hkm : k < m
    · obtain ⟨b2, off2, rfl, hb2, hc2⟩ := HR.out.plain (by omega) (by omega)
      have hlk : l[k]? = some (l[k]'(by have := HL.out; omega)) := List.getElem?_eq_getElem _
      have HMEM := Lib.hid hlk
      generalize l[k]'(by have := HL.out; omega) = cc at hlk HMEM
      have hcell : ∀ j u, cc.cells[j]? = some u → j < 5 → wr.cell? ⟨b2, off2 + (k * 5 + j), none⟩ = some u := fun j u hu hj =>
        ((base_below hb).cell (p := ⟨b2, off2 + (k * 5 + j), none⟩) (by simp; omega)).trans (hc2 _ _ (by rw [con_cells_at l k j cc hlk hj]; exact hu))
      have d0 : wr.cell? ⟨b2, off2 + k * 5, none⟩ = some (.int .i64 cc.A) := hcell 0 _ rfl (by omega)
      have d1 : wr.cell? ⟨b2, off2 + k * 5 + 1, none⟩ = some (.int .i64 cc.B) := hcell 1 _ rfl (by omega)
      have d2 : wr.cell? ⟨b2, off2 + k * 5 + 2, none⟩ = some (.int .i64 cc.R) := hcell 2 _ rfl (by omega)
      have d3 : wr.cell? ⟨b2, off2 + k * 5 + 3, none⟩ = some (.int .i64 cc.C) := hcell 3 _ rfl (by omega)
      have d4 : wr.cell? ⟨b2, off2 + k * 5 + 4, none⟩ = some (.int .i64 cc.S) := hcell 4 _ rfl (by omega)
      have hbw : w.heap.size + 1 ≤ wr.heap.size := by simpa using hb.size
      have hkn : (k : Int) < (m : Int) := by omega
      clear hcell hc2 hlk
      cases hv : validB n cc with
      | false =>
        go_wp2_with fail
        refine (rvalid_any n cc _).mono ?_
        rintro e w2 ⟨rfl, hb3⟩
        rw [hv]
        have hb4 : Below (w.heap.size + 1) (w.alloc (.cells sysZ 26)) w2 := hb.trans (hb3.mono hbw)
        obtain ⟨hsz, q0, q1, q2, q3, r0, r1, r2, r3⟩ := res_facts hb4
        have HB4 := Lib.hid hb4
        clear hb4 hb3 hb d0 d1 d2 d3 d4
        have hs : rSolve n l = .err 1 := by
          unfold rSolve
          rw [if_neg (by omega), if_neg (by have := HL.out; omega), if_pos]
          rw [List.all_eq_false]
          exact ⟨cc, List.mem_of_getElem? HMEM.out, by simp [hv]⟩
        have HS := Lib.hid hs
        clear hs
        go_wp2
        exact bodyPost_ret (v := .tuple #[zeroSys, .int .i64 1]) (by simp [results, Try.results11, go_sem, zeroSys, q0, q1, q2, q3, r0, r1, r2, r3]) rfl (by
          rw [HS.out]
          exact ⟨rfl, below_set4 (base_below HB4.out) _ _ _ _⟩)
      | true =>
        go_wp2_with fail
        refine (rvalid_any n cc _).mono ?_
        rintro e w2 ⟨rfl, hb3⟩
        rw [hv]
        have ho2 := own_below ho hb3 (Nat.le_refl _)
        have hb4 : Below (w.heap.size + 1) (w.alloc (.cells sysZ 26)) w2 := hb.trans (hb3.mono hbw)
        have d4' : w2.cell? ⟨b2, off2 + k * 5 + 4, none⟩ = some (.int .i64 cc.S) := (hb3.cell (p := ⟨b2, off2 + k * 5 + 4, none⟩) (by simp; omega)).trans d4
        have hlen : k < (heldTo l k).length := by rw [heldTo_length _ _ (by have := HL.out; omega)]; have := HL.out; omega
        have gh : w2.cell? ⟨w.heap.size + 1, k, none⟩ = some (.bool ((heldTo l k)[k]'hlen)) := by rw [ho2.cellAt k (by omega)]; exact bools_get hlen
        have gf : w2.frozen? ⟨w.heap.size + 1, k, none⟩ = false := ho2.frozenAt k
        generalize (heldTo l k)[k]'hlen = ob at gh
        have HO2 := Lib.hid ho2
        have HB4 := Lib.hid hb4
        clear ho2 hb4 hb3 ho hb hlen d0 d1 d2 d3 d4
        go_wp2
        go_roundw
        case rel =>
          refine ⟨k + 1, by go_num, by omega, fun j hj c hc => ?_, ?_, HB4.out.setCell (p := ⟨w.heap.size + 1, k, none⟩) (Nat.le_refl _) _⟩
          · by_cases hjk : j = k
            · subst hjk
              have := HMEM.out
              rw [hc] at this
              injection this with this
              rw [this]; exact hv
            · exact HVAL.out j (by omega) c hc
          · rw [heldTo_succ l k cc HMEM.out]
            have := (HO2.out.stored k (.bool (cc.S == 0))).1
            rwa [show (bools (heldTo l k)).set k (.bool (cc.S == 0)) = bools ((heldTo l k).set k (cc.S == 0)) by simp [bools, List.map_set]] at this
        case measure => simp [intOf]; omega
    · obtain rfl : k = m := by omega
      have HV := Lib.hid (show ∀ c ∈ l, validB n c = true from fun c hc => by
        obtain ⟨j, hj, rfl⟩ := List.getElem_of_mem hc
        exact HVAL.out j (by have := HL.out; omega) _ (List.getElem?_eq_getElem hj))
      have hbw : w.heap.size + 1 ≤ wr.heap.size := by simpa using hb.size
      have hho : heldTo l k = held0 l := by rw [← HL.out]; exact heldTo_all l
      rw [hho] at ho
      have HO := Lib.hid ho
      have HB := Lib.hid hb
      clear ho hb hho hmk
      have HCO := Lib.hid (show ∀ c ∈ l, ConOk n c from fun c hc => by
        have := HV.out c hc
        simp only [validB, decide_eq_true_eq] at this
        obtain ⟨y1, y2, y3, y4, y5, y6, y7, y8, y9, y10⟩ := this
        exact ⟨y1, y2, y3, y4, y5, y6, y7, y8⟩)
      have hleast := fun (acc : List Bool) (hacc : acc.length = k) (W : World) (hW : Below w.heap.size w W) (hod : W.ownsRow (w.heap.size + 1) 4 1 (.slice (some ⟨w.heap.size + 1, 0, none⟩) k k) k (bools acc)) => (by
        obtain ⟨A9, c9, he9, _, _, _, hrd⟩ := own_slr hod
        injection he9 with he1 he2 he3
        subst he1 he3
        exact least_any A _ n k c k w.heap.size W.heap.size l acc W (by omega) HL.out ((HR.out.more hB).below hW) hW.size (by omega) HCO.out hacc hrd (Nat.le_refl _) : Calls Try.prog 30 #[.int .i64 n, .slice A k c, .slice (some ⟨w.heap.size + 1, 0, none⟩) k k] W (Least2 n (rLeast n l acc) W))
      have HLEAST := Lib.hid hleast
      have h0len : (held0 l).length = k := by simp [held0]; exact HL.out
      have H0LEN := Lib.hid h0len
      clear hleast h0len
      cases hR : rLeast n l (held0 l) with
      | none =>
        have hs : rSolve n l = .err 13 := by
          unfold rSolve
          rw [if_neg (by omega), if_neg (by have := HL.out; omega), if_neg (by simpa using HV.out), Int.toNat_natCast, hR]
        have HS := Lib.hid hs
        have HRN := Lib.hid hR
        clear hs hR
        go_wp2_with fail
        refine (HLEAST.out (held0 l) H0LEN.out _ (base_below HB.out) HO.out).mono ?_
        rw [HRN.out]
        rintro e w2 ⟨rfl, hb3⟩
        have hb4 : Below (w.heap.size + 1) (w.alloc (.cells sysZ 26)) w2 := HB.out.trans (hb3.mono hbw)
        obtain ⟨hsz, q0, q1, q2, q3, r0, r1, r2, r3⟩ := res_facts hb4
        have HB4 := Lib.hid hb4
        clear hb4 hb3
        go_wp2
        exact bodyPost_ret (v := .tuple #[zeroSys, .int .i64 13]) (by simp [results, Try.results11, go_sem, zeroSys, q0, q1, q2, q3, r0, r1, r2, r3]) rfl (by
          rw [HS.out]
          exact ⟨rfl, below_set4 (base_below HB4.out) _ _ _ _⟩)
      | some x0 =>
        have hs : rSolve n l = .ok (rOut n l (held0 l, x0) 3).1 (rOut n l (held0 l, x0) 3).2 := by
          unfold rSolve
          rw [if_neg (by omega), if_neg (by have := HL.out; omega), if_neg (by simpa using HV.out), Int.toNat_natCast, hR]
        have HS := Lib.hid hs
        have HRN := Lib.hid hR
        clear hs hR
        go_wp2_with fail
        refine (HLEAST.out (held0 l) H0LEN.out _ (base_below HB.out) HO.out).mono ?_
        rw [HRN.out]
        rintro e w2 ⟨v0, rfl, hown2, hx0l, hx0b, hb3⟩
        have hinv : Inv2 n k (w.heap.size + 1) (w.heap.size + 1) (w.alloc (.cells sysZ 26)) w2 (held0 l, x0) v0 :=
          ⟨own_below HO.out hb3 (Nat.le_refl _), own_base hown2 hbw, HB.out.trans (hb3.mono hbw), Nat.le_trans hbw hb3.size, H0LEN.out, hx0l⟩
        have HINV := Lib.hid hinv
        clear hinv hown2 hx0l hx0b hb3
        go_wp2
        go_loopw [8, 10] (fun s8 s10 wr => ∃ (s : Nat) (v : Value), s10 = .int .i64 ((s : Int) + 1) ∧ s ≤ 3 ∧ s8 = v ∧ Inv2 n k (w.heap.size + 1) (w.heap.size + 1) (w.alloc (.cells sysZ 26)) wr (rOut n l (held0 l, x0) s) v) (fun _ s10 _ => 5 - (intOf s10).toNat)
        case atStart => exact ⟨0, _, rfl, by omega, rfl, HINV.out⟩
        case round =>
          obtain ⟨s, v, rfl, hs3, rfl, hinv⟩ := hrel
          have HI := Lib.hid hinv
          clear hinv
          by_cases hs2 : s ≤ 2
          · have hsd : decide ((s : Int) + 1 ≤ 3) = true := by simp; omega
            go_wp2
            go_loopw [8, 11] (fun s8 s11 ws => ∃ (j : Nat) (v' : Value), s11 = .int .i64 (j : Int) ∧ j ≤ k ∧ s8 = v' ∧ Inv2 n k (w.heap.size + 1) (w.heap.size + 1) (w.alloc (.cells sysZ 26)) ws (rIn n l ((s : Int) + 1) (rOut n l (held0 l, x0) s) j) v') (fun _ s11 _ => k - (intOf s11).toNat)
            case atStart => exact ⟨0, _, rfl, by omega, rfl, HI.out⟩
            case round =>
              obtain ⟨j, v', rfl, hj, rfl, hinv'⟩ := hrel
              have HI' := Lib.hid hinv'
              clear hinv'
              by_cases hjk : j < k
              · obtain ⟨b2, off2, rfl, hb2, hc2⟩ := HR.out.plain (by omega) (by omega)
                have hlk : l[j]? = some (l[j]'(by have := HL.out; omega)) := List.getElem?_eq_getElem _
                have hst : rIn n l ((s : Int) + 1) (rOut n l (held0 l, x0) s) (j + 1) = rStep n l ((s : Int) + 1) j (l[j]'(by have := HL.out; omega)) (rIn n l ((s : Int) + 1) (rOut n l (held0 l, x0) s) j) := by simp only [rIn, hlk]
                generalize l[j]'(by have := HL.out; omega) = cc at hlk hst
                have d4 : wr.cell? ⟨b2, off2 + j * 5 + 4, none⟩ = some (.int .i64 cc.S) :=
                  ((base_below HI'.out.be).cell (p := ⟨b2, off2 + (j * 5 + 4), none⟩) (by simp; omega)).trans (hc2 _ _ (by rw [con_cells_at l j 4 cc hlk (by omega)]; rfl))
                have HST := Lib.hid hst
                have hjk0 : (j : Int) < (k : Int) := by omega
                generalize hst' : rIn n l ((s : Int) + 1) (rOut n l (held0 l, x0) s) j = st' at *
                have HST' := Lib.hid hst'
                clear hc2 hlk hst hst'
                by_cases hS : cc.S = (s : Int) + 1
                · have hSd : (cc.S != (s : Int) + 1) = false := by simpa using hS
                  have HS' := Lib.hid hS
                  clear hS
                  have hlen : j < st'.1.length := by rw [HI'.out.dl]; exact hjk
                  have gh : wr.cell? ⟨w.heap.size + 1, j, none⟩ = some (.bool (st'.1[j]'hlen)) := by rw [HI'.out.od.cellAt j (by omega)]; exact bools_get hlen
                  have gf : wr.frozen? ⟨w.heap.size + 1, j, none⟩ = false := HI'.out.od.frozenAt j
                  generalize st'.1[j]'hlen = ob at gh
                  have hI1 := HI'.out.put j true
                  have hlc := HLEAST.out (st'.1.set j true) (by simpa using HI'.out.dl) _ (base_below hI1.be) hI1.od
                  have HI1 := Lib.hid hI1
                  have HLC := Lib.hid hlc
                  clear hI1 hlc hlen
                  cases hR : rLeast n l (st'.1.set j true) with
                  | none =>
                    have HRN2 := Lib.hid hR
                    clear hR
                    go_wp2_with fail
                    refine HLC.out.mono ?_
                    rw [HRN2.out]
                    rintro e w3 ⟨rfl, hb3⟩
                    have hI2 := HI1.out.next hb3
                    have hlen2 : j < (st'.1.set j true).length := by simpa using (by rw [HI'.out.dl]; exact hjk : j < st'.1.length)
                    have gh2 : w3.cell? ⟨w.heap.size + 1, j, none⟩ = some (.bool ((st'.1.set j true)[j]'hlen2)) := by rw [hI2.od.cellAt j (by omega)]; exact bools_get hlen2
                    have gf2 : w3.frozen? ⟨w.heap.size + 1, j, none⟩ = false := hI2.od.frozenAt j
                    generalize (st'.1.set j true)[j]'hlen2 = ob2 at gh2
                    have HI2 := Lib.hid hI2
                    clear hI2 hb3 hlen2 gh gf d4
                    go_wp2
                    go_roundw
                    case rel =>
                      refine ⟨j + 1, _, by go_num, by omega, rfl, ?_⟩
                      rw [HST.out]
                      have e1 : rStep n l ((s : Int) + 1) j cc st' = (st'.1.set j false, st'.2) := by simp [rStep, HS'.out, HRN2.out]
                      rw [e1]
                      have := HI2.out.put j false
                      simpa using this
                    case measure => simp [intOf]; omega
                  | some y =>
                    have HRN2 := Lib.hid hR
                    clear hR
                    go_wp2_with fail
                    refine HLC.out.mono ?_
                    rw [HRN2.out]
                    rintro e w3 ⟨v3, rfl, hown3, hyl, hyb, hb3⟩
                    have hI2 := HI1.out.next hb3
                    have hI3 : Inv2 n k (w.heap.size + 1) (w.heap.size + 1) (w.alloc (.cells sysZ 26)) w3 (st'.1.set j true, y) v3 :=
                      ⟨hI2.od, own_base hown3 HI1.out.bw, hI2.be, hI2.bw, hI2.dl, hyl⟩
                    have HI3 := Lib.hid hI3
                    clear hI2 hI3 hb3 hown3 hyl hyb gh gf d4
                    go_wp2
                    go_roundw
                    case rel =>
                      refine ⟨j + 1, _, by go_num, by omega, rfl, ?_⟩
                      rw [HST.out]
                      have e1 : rStep n l ((s : Int) + 1) j cc st' = (st'.1.set j true, y) := by simp [rStep, HS'.out, HRN2.out]
                      rw [e1]
                      exact HI3.out
                    case measure => simp [intOf]; omega
                · have hSd : (cc.S != (s : Int) + 1) = true := by simpa using hS
                  go_wp2
                  go_roundw
                  case rel =>
                    refine ⟨j + 1, _, by go_num, by omega, rfl, ?_⟩
                    rw [HST.out]
                    have e1 : rStep n l ((s : Int) + 1) j cc st' = st' := by simp [rStep, hS]
                    rw [e1]
                    exact HI'.out
                  case measure => simp [intOf]; omega
              · obtain rfl : j = k := by omega
                go_wp2
                go_roundw
                case rel => exact ⟨s + 1, _, by go_num, by omega, rfl, by simp only [rOut, HL.out]; exact HI'.out⟩
                case measure => simp [intOf]; omega
          · obtain rfl : s = 3 := by omega
            obtain ⟨Av, cv, rfl, _⟩ := own_slr HI.out.ox
            obtain ⟨i0, hi0, hz0, hz1, hz2⟩ := info_parts con_info
            have hrl := Lib.hid ((HR.out.more hB).below (base_below HI.out.be))
            have hbw3 := HI.out.bw
            have hnilo := Lib.hid (World.ownsRow_nil wr (w.heap.size + 1) 40 5)
            have HFL := Lib.hid (flat_con l)
            go_wp2_with (
              at_builtin
              refine wpList_append_any _ rfl (.const (.slice none 0 0)) (.tmp 94) _ rfl (w.heap.size + 1) 40 i0 _ 5 40 Try.underlying22 hi0 hz0 hz1 hz2 rfl (by omega) _ 0 [] rfl
                hnilo.out w.heap.size A k c (conCells l) rfl hrl.out HFL.out (by simp only [maxLen]; omega) (by omega) hbw3 ?_
              intro v4 w4 hown4 hg4 hat4
              obtain ⟨A4, c4, rfl, _⟩ := own_slr hown4
              have hbg : Below wr.heap.size wr w4 := (Below.refl _ _).grown hg4 (Nat.le_refl _) (fun k hk => by cases hk)
              obtain ⟨hsz, q0, q1, q2, q3, r0, r1, r2, r3⟩ := res_facts (HI.out.be.trans (hbg.mono hbw3))
              have HBG := Lib.hid hbg
              have HO4 := Lib.hid hown4
              clear hbg hown4 hg4 hat4)
            have hI4 := HI.out.next HBG.out
            exact bodyPost_ret (v := .tuple #[.agg #[.int .i64 (n : Int), .slice A4 k c4, .slice (some ⟨w.heap.size + 1, 0, none⟩) k k, .slice Av n cv], .int .i64 0]) (by simp [results, Try.results11, go_sem, q0, q1, q2, q3, r0, r1, r2, r3]) rfl (by
              rw [HS.out]
              refine ⟨_, rfl, ⟨_, _, _, rfl, ?_, ?_, ?_⟩, ?_⟩
              · rw [HL.out]
                have := HO4.out
                rw [Nat.zero_add, List.nil_append] at this
                exact own_slr (own_set4 this (own_lt this (by omega)) _ _ _ _)
              · rw [hI4.dl]; exact own_slr (own_set4 hI4.od (own_lt hI4.od (by omega)) _ _ _ _)
              · rw [hI4.xl]; exact own_slr (own_set4 hI4.ox (own_lt hI4.ox (by omega)) _ _ _ _)
              · exact below_set4 (base_below hI4.be) _ _ _ _)

theorem rsolve_any (vars : Int) (A : Option Addr) (n c B : Nat) (l : List Con) (w : World) (hl : l.length = n) (hr : Reads w B 5 A n (conCells l)) (hB : B ≤ w.heap.size) :
    Calls Try.prog 11 #[.int .i64 vars, .slice A n c] w (SolvedAs vars l (rSolve vars l) w) := by
  by_cases h0 : vars < 0
  · exact rsolve_neg vars A n c l w h0
  · by_cases h1 : 64 < vars
    · exact rsolve_big vars A n c l w h1
    · by_cases h2 : 200 < n
      · exact rsolve_long vars A n c l w (by omega) (by omega) hl h2
      · obtain ⟨m, rfl⟩ := Int.eq_ofNat_of_zero_le (show 0 ≤ vars by omega)
        exact rsolve_main m A n c B l w (by omega) hl (by omega) hr hB
end Go.Proofs.Ytkdgeahfmmfopaa
