/- ConstraintHolds walked. -/
import Derived.Test.YtkdgeahfmmfopaaC4
import Derived.Test.YtkdgeahfmmfopaaRawWalk
import Derived.Deep.RegionHeld3
namespace Go.Proofs.Ytkdgeahfmmfopaa
set_option linter.unusedVariables false
set_option linter.unusedSimpArgs false
open Go.RowKit

set_option maxRecDepth 100000 in
set_option maxHeartbeats 2000000 in
theorem holds_any : LawAny 5 := by
  intro A n c zs w hnc hc hr hz
  have HR := Lib.hid hr
  have HZ := Lib.hid hz
  clear hr hz
  go_enter Try.func5, Try.ntmps5
  go_wp2_with fail
  refine (new_any w.heap.size A n c zs _ (Nat.le_refl _) hnc hc HR.out HZ.out).mono ?_
  rintro e w1 ⟨g, rfl, hg0, hs1, hb1⟩
  have hgl1 := hs1.lt
  have HB1 := Lib.hid hb1
  clear hb1
  go_wp2_with fail
  refine (range_any g w.heap.size _ _ _ hs1 (by omega) (by omega) (by omega)).mono ?_
  rintro e w2 ⟨vars, rfl, hv1, hv2, hs2, hg2⟩
  obtain ⟨nv, rfl⟩ := Int.eq_ofNat_of_zero_le (show 0 ≤ vars by omega)
  have HB2 := Lib.hid (HB1.out.grown hg2 HB1.out.size (fun k hk => by cases hk; exact hg0))
  clear hg2
  go_wp2_with fail
  refine (build_any g w.heap.size nv 14 _ hs2 hv1 (by omega) (by omega)).mono ?_
  rintro e w3 ⟨l, v3, rfl, hown3, hl3, hval3, hs3, hg3⟩
  have HB3 := Lib.hid (HB2.out.grown hg3 HB2.out.size (fun k hk => by cases hk; exact hg0))
  obtain ⟨A3, c3, rfl, hle3, hm3, hnil3, hr3⟩ := own_slr hown3
  have HR3 := Lib.hid hr3
  have HN3 := Lib.hid hnil3
  have HVAL := Lib.hid hval3
  clear hg3 hown3 hr3 hnil3 hs3 hval3
  obtain ⟨N, hN⟩ : ∃ N, N = l.length := ⟨_, rfl⟩
  have HN := Lib.hid hN
  rw [← hN] at HR3 HN3 hl3 hle3 ⊢
  clear hN
  go_wp2_with fail
  refine (solve_any nv A3 N c3 w3.heap.size l _ HN.out.symm HR3.out (Nat.le_refl _) HN3.out).mono ?_
  intro e w4 hs4
  rcases iSolve_cases (n := nv) (l := l) (by omega) (by have := HN.out; omega) HVAL.out with ⟨h, x, hsol, hgood⟩ | hsol
  · rw [hsol] at hs4
    obtain ⟨va, rfl, hva, hb4⟩ := hs4
    obtain ⟨v1, v2, v3, rfl, a1, a2, a3⟩ := hva
    obtain ⟨A1, c1, rfl, _, _, _, r1⟩ := a1
    obtain ⟨A2, c2, rfl, _, _, _, r2⟩ := a2
    obtain ⟨A4, c4, rfl, _, _, _, r4⟩ := a3
    have hxl : x.length = nv := hgood.xl
    have hhl : h.length = N := by rw [hgood.hl]; exact HN.out.symm
    have hll : l.length = N := HN.out.symm
    rw [hhl] at r2 ⊢
    rw [hxl] at r4 ⊢
    rw [hll] at r1 ⊢
    have HG := Lib.hid hgood
    have HB4 := Lib.hid (HB3.out.trans (hb4.mono HB3.out.size))
    have HB34 := Lib.hid hb4
    have HHL := Lib.hid hhl
    have HXL := Lib.hid hxl
    have R2 := Lib.hid (r2.alloc (Nat.le_refl _) (Obj.cells #[.int .i64 (nv : Int), .slice A1 N c1, .slice A2 N c2, .slice A4 nv c4] 26))
    have R4 := Lib.hid (r4.alloc (Nat.le_refl _) (Obj.cells #[.int .i64 (nv : Int), .slice A1 N c1, .slice A2 N c2, .slice A4 nv c4] 26))
    have R3 := Lib.hid ((HR3.out.below hb4).alloc hb4.size (Obj.cells #[.int .i64 (nv : Int), .slice A1 N c1, .slice A2 N c2, .slice A4 nv c4] 26))
    have hsz3 : w3.heap.size ≤ w4.heap.size := hb4.size
    clear hsol hgood hb4 hxl hhl hll r1 r2 r4
    go_wp2
    have HBX := Lib.hid (Blk.new w4 26 #[.int .i64 (nv : Int), .slice A1 N c1, .slice A2 N c2, .slice A4 nv c4])
    have HBW := Lib.hid (HB4.out.alloc HB4.out.size (Obj.cells #[.int .i64 (nv : Int), .slice A1 N c1, .slice A2 N c2, .slice A4 nv c4] 26))
    have hszW : (w4.alloc (Obj.cells #[.int .i64 (nv : Int), .slice A1 N c1, .slice A2 N c2, .slice A4 nv c4] 26)).heap.size = w4.heap.size + 1 := by simp
    generalize w4.alloc (Obj.cells #[.int .i64 (nv : Int), .slice A1 N c1, .slice A2 N c2, .slice A4 nv c4] 26) = W at *
    have hlt4 : w4.heap.size < W.heap.size := by omega
    have x2 : W.cell? ⟨w4.heap.size, 2, none⟩ = some (.slice A2 N c2) := by rw [HBX.out.cell]; rfl
    have x3 : W.cell? ⟨w4.heap.size, 3, none⟩ = some (.slice A4 nv c4) := by rw [HBX.out.cell]; rfl
    clear hszW
    go_loopw [8] (fun i wr => ∃ k q : Nat, i = .int .i64 (k : Int) ∧ k ≤ nv ∧ wr = W.drewN q) (fun i _ => nv - (intOf i).toNat)
    case atStart => exact ⟨0, 0, rfl, by omega, rfl⟩
    case round =>
      obtain ⟨k, q, rfl, hk, rfl⟩ := hrel
      by_cases hkn : k < nv
      · obtain ⟨b4, o4, rfl, hb4, hc4⟩ := R4.out.plain (by omega) (by omega)
        have hxk : k < x.length := by rw [HXL.out]; exact hkn
        have d0 : W.cell? ⟨b4, o4 + k, none⟩ = some (.int .i64 (x[k]'hxk)) := hc4 k _ (by simp [ints, List.getElem?_eq_getElem hxk])
        obtain ⟨z1, z2⟩ := good_range HG.out _ (List.getElem_mem hxk)
        generalize x[k]'hxk = xv at d0 z1 z2
        have hk0 : (k : Int) < (nv : Int) := by omega
        clear hc4
        go_wp2
        go_roundw
        case rel => exact ⟨k + 1, _, by go_num, by omega, rfl⟩
        case measure => simp [intOf]; omega
      · obtain rfl : nv = k := by omega
        go_wp2
        have hBwr := Lib.hid (below_drewN (Below.refl W.heap.size W) q)
        go_loopw [9] (fun i wr => ∃ k : Nat, i = .int .i64 (k : Int) ∧ k ≤ N ∧ Below W.heap.size W wr) (fun i _ => N - (intOf i).toNat)
        case atStart => exact ⟨0, rfl, by omega, hBwr.out⟩
        case round =>
          obtain ⟨j, rfl, hj, hbw⟩ := hrel
          by_cases hjn : j < N
          · obtain ⟨b3, o3, rfl, hb3, hc3⟩ := R3.out.plain (by omega) (by omega)
            obtain ⟨b2, o2, rfl, hb2, hc2⟩ := R2.out.plain (by omega) (by omega)
            have hlj : l[j]? = some (l[j]'(by have := HN.out; omega)) := List.getElem?_eq_getElem _
            have hjh : j < h.length := by rw [HHL.out]; exact hjn
            have hhj : h[j]? = some (h[j]'hjh) := List.getElem?_eq_getElem _
            have hok : ∀ c ∈ l, ConOk nv c := fun c hc => ConOk_of_valid (HVAL.out c hc)
            have hsat := good_sat HG.out hok hlj
            have hreq := good_req HG.out hlj
            rw [hhj, Option.getD_some] at hsat hreq
            have hcok := hok _ (List.mem_of_getElem? hlj)
            generalize l[j]'(by have := HN.out; omega) = cc at hlj hsat hreq hcok
            have hbh : W.cell? ⟨b2, o2 + j, none⟩ = some (.bool (h[j]'hjh)) := hc2 j _ (bools_get hjh)
            generalize h[j]'hjh = hv at hsat hreq hbh
            have hcell : ∀ i u, cc.cells[i]? = some u → i < 5 → wr.cell? ⟨b3, o3 + (j * 5 + i), none⟩ = some u := fun i u hu hi =>
              (hbw.cell (p := ⟨b3, o3 + (j * 5 + i), none⟩) (by simp; omega)).trans (hc3 _ _ (by rw [con_cells_at l j i cc hlj hi]; exact hu))
            have d0 : wr.cell? ⟨b3, o3 + j * 5, none⟩ = some (.int .i64 cc.A) := hcell 0 _ rfl (by omega)
            have d1 : wr.cell? ⟨b3, o3 + j * 5 + 1, none⟩ = some (.int .i64 cc.B) := hcell 1 _ rfl (by omega)
            have d2 : wr.cell? ⟨b3, o3 + j * 5 + 2, none⟩ = some (.int .i64 cc.R) := hcell 2 _ rfl (by omega)
            have d3 : wr.cell? ⟨b3, o3 + j * 5 + 3, none⟩ = some (.int .i64 cc.C) := hcell 3 _ rfl (by omega)
            have d4 : wr.cell? ⟨b3, o3 + j * 5 + 4, none⟩ = some (.int .i64 cc.S) := hcell 4 _ rfl (by omega)
            have y2 : wr.cell? ⟨w4.heap.size, 2, none⟩ = some (.slice (some ⟨b2, o2, none⟩) N c2) := (hbw.cell (p := ⟨w4.heap.size, 2, none⟩) hlt4).trans x2
            have y3 : wr.cell? ⟨w4.heap.size, 3, none⟩ = some (.slice A4 nv c4) := (hbw.cell (p := ⟨w4.heap.size, 3, none⟩) hlt4).trans x3
            have yh : wr.cell? ⟨b2, o2 + j, none⟩ = some (.bool hv) := (hbw.cell (p := ⟨b2, o2 + j, none⟩) (by simp; omega)).trans hbh
            have hwsz : W.heap.size ≤ wr.heap.size := hbw.size
            have hl4 : w4.heap.size < wr.heap.size := by omega
            have hlb2 : b2 < wr.heap.size := by omega
            have HSAT := Lib.hid hsat
            have HREQ := Lib.hid hreq
            have HCOK := Lib.hid hcok
            have HBW2 := Lib.hid hbw
            have R4' := Lib.hid (R4.out.below (hbw.mono (by omega)))
            have hj0 : (j : Int) < (N : Int) := by omega
            clear hsat hreq hcok hbw hlj hhj hok hc2 hc3 hcell hbh hjh
            by_cases hS : cc.S = 0
            · have e0 : (cc.S == 0) = true := by simpa using hS
              have hvt : hv = true := HREQ.out hS
              subst hvt
              have hS' := Lib.hid hS
              clear hS
              go_wp2
              go_region_held3 (fun w' => w'.cell? ⟨w4.heap.size, 2, none⟩ = some (.slice (some ⟨b2, o2, none⟩) N c2) ∧ w'.cell? ⟨w4.heap.size, 3, none⟩ = some (.slice A4 nv c4) ∧ w'.cell? ⟨b2, o2 + j, none⟩ = some (.bool true) ∧
                  w'.cell? ⟨b3, o3 + j * 5, none⟩ = some (.int .i64 cc.A) ∧ w'.cell? ⟨b3, o3 + j * 5 + 1, none⟩ = some (.int .i64 cc.B) ∧ w'.cell? ⟨b3, o3 + j * 5 + 2, none⟩ = some (.int .i64 cc.R) ∧ w'.cell? ⟨b3, o3 + j * 5 + 3, none⟩ = some (.int .i64 cc.C) ∧ w'.cell? ⟨b3, o3 + j * 5 + 4, none⟩ = some (.int .i64 cc.S))
                (first | go_keep | (go_split_ands; refine ⟨?_, ?_, ?_, ?_, ?_, ?_, ?_, ?_⟩ <;> (rw [hb9.cell (by simp; omega)]; assumption)))
                (first
                  | (go_at_call 17; refine (sat_any A4 nv c4 w4.heap.size x cc _ (by exact R4'.out) (by simp; omega) (by omega) HCOK.out (good_range HG.out)).mono ?_; rintro e w9 ⟨rfl, hb9⟩; rw [HSAT.out]))
              go_wp2
              go_roundw
              case rel => exact ⟨j + 1, by go_num, by omega, HBW2.out.drew.trans (hb9.mono (by simpa using hwsz))⟩
              case measure => simp [intOf]; omega
            · have e0 : (cc.S == 0) = false := by simpa using hS
              have hS' := Lib.hid hS
              clear hS
              have hlb3 : b3 < wr.heap.size := by omega
              go_wp2
              refine wp_region_held_drew (S := (fun w' => w'.cell? ⟨w4.heap.size, 2, none⟩ = some (.slice (some ⟨b2, o2, none⟩) N c2) ∧ w'.cell? ⟨w4.heap.size, 3, none⟩ = some (.slice A4 nv c4) ∧ w'.cell? ⟨b2, o2 + j, none⟩ = some (.bool hv) ∧
                  w'.cell? ⟨b3, o3 + j * 5, none⟩ = some (.int .i64 cc.A) ∧ w'.cell? ⟨b3, o3 + j * 5 + 1, none⟩ = some (.int .i64 cc.B) ∧ w'.cell? ⟨b3, o3 + j * 5 + 2, none⟩ = some (.int .i64 cc.R) ∧ w'.cell? ⟨b3, o3 + j * 5 + 3, none⟩ = some (.int .i64 cc.C) ∧ w'.cell? ⟨b3, o3 + j * 5 + 4, none⟩ = some (.int .i64 cc.S))) (by kernel_rfl) (by (try dsimp only); go_keep) (fun hHeld => ?_)
              refine wpAnyH_take (v := ?_) (i := 0) (by simp only [List.getElem?_toArray, List.getElem?_cons_zero, List.getElem?_cons_succ]; rfl) (by kernel_rfl) (by kernel_rfl) (by kernel_rfl) (by intro _ _ _ h; exact h) (Or.inl ⟨by rfl, ?_⟩) (by assumption) ?_
              rotate_left
              · (intro w hSw; (try dsimp only at hSw); go_simp; try (with_reducible rfl))
              simp only [Act.put, List.setIfInBounds_toArray, List.set_cons_zero, List.set_cons_succ]
              refine wpAnyH_take (v := ?_) (i := 1) (by simp only [List.getElem?_toArray, List.getElem?_cons_zero, List.getElem?_cons_succ]; rfl) (by kernel_rfl) (by kernel_rfl) (by kernel_rfl) (by intro _ _ _ h; exact h) (Or.inl ⟨by rfl, ?_⟩) (by assumption) ?_
              rotate_left
              · (intro w hSw; (try dsimp only at hSw); go_simp; try (with_reducible rfl))
              simp only [Act.put, List.setIfInBounds_toArray, List.set_cons_zero, List.set_cons_succ]
              refine wpAnyH_take (v := ?_) (i := 2) (by simp only [List.getElem?_toArray, List.getElem?_cons_zero, List.getElem?_cons_succ]; rfl) (by kernel_rfl) (by kernel_rfl) (by kernel_rfl) (by intro _ _ _ h; exact h) (Or.inl ⟨by rfl, ?_⟩) (by assumption) ?_
              rotate_left
              · (intro w hSw; (try dsimp only at hSw); go_simp; try (with_reducible rfl))
              simp only [Act.put, List.setIfInBounds_toArray, List.set_cons_zero, List.set_cons_succ]
              refine wpAnyH_take (v := ?_) (i := 3) (by simp only [List.getElem?_toArray, List.getElem?_cons_zero, List.getElem?_cons_succ]; rfl) (by kernel_rfl) (by kernel_rfl) (by kernel_rfl) (by intro _ _ _ h; exact h) (Or.inl ⟨by rfl, ?_⟩) (by assumption) ?_
              rotate_left
              · (intro w hSw; (try dsimp only at hSw); go_simp; try (with_reducible rfl))
              simp only [Act.put, List.setIfInBounds_toArray, List.set_cons_zero, List.set_cons_succ]
              refine wpAnyH_take (v := ?_) (i := 4) (by simp only [List.getElem?_toArray, List.getElem?_cons_zero, List.getElem?_cons_succ]; rfl) (by kernel_rfl) (by kernel_rfl) (by kernel_rfl) (by intro _ _ _ h; exact h) (Or.inl ⟨by rfl, ?_⟩) (by assumption) ?_
              rotate_left
              · (intro w hSw; (try dsimp only at hSw); go_simp; try (with_reducible rfl))
              simp only [Act.put, List.setIfInBounds_toArray, List.set_cons_zero, List.set_cons_succ]
              refine wpAnyH_take (v := ?_) (i := 5) (by simp only [List.getElem?_toArray, List.getElem?_cons_zero, List.getElem?_cons_succ]; rfl) (by kernel_rfl) (by kernel_rfl) (by kernel_rfl) (by intro _ _ _ h; exact h) (Or.inl ⟨by rfl, ?_⟩) (by assumption) ?_
              rotate_left
              · (intro w hSw; (try dsimp only at hSw); go_simp; try (with_reducible rfl))
              simp only [Act.put, List.setIfInBounds_toArray, List.set_cons_zero, List.set_cons_succ]
              refine wpAnyH_take (v := ?_) (i := 7) (by simp only [List.getElem?_toArray, List.getElem?_cons_zero, List.getElem?_cons_succ]; rfl) (by kernel_rfl) (by kernel_rfl) (by kernel_rfl) (by intro _ _ _ h; exact h) (Or.inl ⟨by rfl, ?_⟩) (by assumption) ?_
              rotate_left
              · (intro w hSw; (try dsimp only at hSw); go_simp; try (with_reducible rfl))
              simp only [Act.put, List.setIfInBounds_toArray, List.set_cons_zero, List.set_cons_succ]
              refine wpAnyH_take (v := ?_) (i := 8) (by simp only [List.getElem?_toArray, List.getElem?_cons_zero, List.getElem?_cons_succ]; rfl) (by kernel_rfl) (by kernel_rfl) (by kernel_rfl) (by intro _ _ _ h; exact h) (Or.inl ⟨by rfl, ?_⟩) (by assumption) ?_
              rotate_left
              · (intro w hSw; (try dsimp only at hSw); go_simp; try (with_reducible rfl))
              simp only [Act.put, List.setIfInBounds_toArray, List.set_cons_zero, List.set_cons_succ]
              refine wpAnyH_take (v := ?_) (i := 9) (by simp only [List.getElem?_toArray, List.getElem?_cons_zero, List.getElem?_cons_succ]; rfl) (by kernel_rfl) (by kernel_rfl) (by kernel_rfl) (by intro _ _ _ h; exact h) (Or.inl ⟨by rfl, ?_⟩) (by assumption) ?_
              rotate_left
              · (intro w hSw; (try dsimp only at hSw); go_simp; try (with_reducible rfl))
              simp only [Act.put, List.setIfInBounds_toArray, List.set_cons_zero, List.set_cons_succ]
              refine wpAnyH_take (v := ?_) (i := 10) (by simp only [List.getElem?_toArray, List.getElem?_cons_zero, List.getElem?_cons_succ]; rfl) (by kernel_rfl) (by kernel_rfl) (by kernel_rfl) (by intro _ _ _ h; exact h) (Or.inl ⟨by rfl, ?_⟩) (by assumption) ?_
              rotate_left
              · (intro w hSw; (try dsimp only at hSw); go_simp; try (with_reducible rfl))
              simp only [Act.put, List.setIfInBounds_toArray, List.set_cons_zero, List.set_cons_succ]
              refine wpAnyH_take (v := ?_) (i := 11) (by simp only [List.getElem?_toArray, List.getElem?_cons_zero, List.getElem?_cons_succ]; rfl) (by kernel_rfl) (by kernel_rfl) (by kernel_rfl) (by intro _ _ _ h; exact h) (Or.inl ⟨by rfl, ?_⟩) (by assumption) ?_
              rotate_left
              · (intro w hSw; (try dsimp only at hSw); go_simp; try (with_reducible rfl))
              simp only [Act.put, List.setIfInBounds_toArray, List.set_cons_zero, List.set_cons_succ]
              refine wpAnyH_ready (rs := [6]) (by kernel_rfl) (by simp) ?_
              refine AllReadyH.cons (by simp only [List.getElem?_toArray, List.getElem?_cons_zero, List.getElem?_cons_succ]; rfl) (fun K hK => ?_) AllReadyH.nil
              go_simp
              refine (sat_any A4 nv c4 w4.heap.size x cc _ (by exact R4'.out) (by simp; omega) (by omega) HCOK.out (good_range HG.out)).mono ?_
              rintro e w9 ⟨rfl, hb9⟩
              rw [HSAT.out]
              go_wp2_with fail
              refine hK.out _ _ ?_ (fun hHeld2 => ?_)
              · (go_split_ands; refine ⟨?_, ?_, ?_, ?_, ?_, ?_, ?_, ?_⟩ <;> (rw [hb9.cell (by simp; omega)]; assumption))
              clear hK K hHeld
              try simp only [Act.put, List.setIfInBounds_toArray, List.set_cons_zero, List.set_cons_succ]
              refine wpAnyH_take (v := ?_) (i := 12) (by simp only [List.getElem?_toArray, List.getElem?_cons_zero, List.getElem?_cons_succ]; rfl) (by kernel_rfl) (by kernel_rfl) (by kernel_rfl) (by intro _ _ _ h; exact h) (Or.inl ⟨by rfl, ?_⟩) (by assumption) ?_
              rotate_left
              · (intro w hSw; (try dsimp only at hSw); go_simp; try (with_reducible rfl))
              simp only [Act.put, List.setIfInBounds_toArray, List.set_cons_zero, List.set_cons_succ]
              refine wpAnyH_take (v := ?_) (i := 13) (by simp only [List.getElem?_toArray, List.getElem?_cons_zero, List.getElem?_cons_succ]; rfl) (by kernel_rfl) (by kernel_rfl) (by kernel_rfl) (by intro _ _ _ h; exact h) (Or.inl ⟨by rfl, ?_⟩) (by assumption) ?_
              rotate_left
              · (intro w hSw; (try dsimp only at hSw); go_simp; try (with_reducible rfl))
              simp only [Act.put, List.setIfInBounds_toArray, List.set_cons_zero, List.set_cons_succ]
              refine wpAnyH_take (v := ?_) (i := 14) (by simp only [List.getElem?_toArray, List.getElem?_cons_zero, List.getElem?_cons_succ]; rfl) (by kernel_rfl) (by kernel_rfl) (by kernel_rfl) (by intro _ _ _ h; exact h) (Or.inl ⟨by rfl, ?_⟩) (by assumption) ?_
              rotate_left
              · (intro w hSw; (try dsimp only at hSw); go_simp; try (with_reducible rfl))
              simp only [Act.put, List.setIfInBounds_toArray, List.set_cons_zero, List.set_cons_succ]
              refine wpAnyH_take (v := ?_) (i := 15) (by simp only [List.getElem?_toArray, List.getElem?_cons_zero, List.getElem?_cons_succ]; rfl) (by kernel_rfl) (by kernel_rfl) (by kernel_rfl) (by intro _ _ _ h; exact h) (Or.inl ⟨by rfl, ?_⟩) (by assumption) ?_
              rotate_left
              · (intro w hSw; (try dsimp only at hSw); go_simp; try (with_reducible rfl))
              simp only [Act.put, List.setIfInBounds_toArray, List.set_cons_zero, List.set_cons_succ]
              refine wpAnyH_take (v := ?_) (i := 16) (by simp only [List.getElem?_toArray, List.getElem?_cons_zero, List.getElem?_cons_succ]; rfl) (by kernel_rfl) (by kernel_rfl) (by kernel_rfl) (by intro _ _ _ h; exact h) (Or.inl ⟨by rfl, ?_⟩) (by assumption) ?_
              rotate_left
              · (intro w hSw; (try dsimp only at hSw); go_simp; try (with_reducible rfl))
              simp only [Act.put, List.setIfInBounds_toArray, List.set_cons_zero, List.set_cons_succ]
              refine wpAnyH_take (v := ?_) (i := 17) (by simp only [List.getElem?_toArray, List.getElem?_cons_zero, List.getElem?_cons_succ]; rfl) (by kernel_rfl) (by kernel_rfl) (by kernel_rfl) (by intro _ _ _ h; exact h) (Or.inl ⟨by rfl, ?_⟩) (by assumption) ?_
              rotate_left
              · (intro w hSw; (try dsimp only at hSw); go_simp; try (with_reducible rfl))
              simp only [Act.put, List.setIfInBounds_toArray, List.set_cons_zero, List.set_cons_succ]
              refine wpAnyH_take (v := ?_) (i := 18) (by simp only [List.getElem?_toArray, List.getElem?_cons_zero, List.getElem?_cons_succ]; rfl) (by kernel_rfl) (by kernel_rfl) (by kernel_rfl) (by intro _ _ _ h; exact h) (Or.inl ⟨by rfl, ?_⟩) (by assumption) ?_
              rotate_left
              · (intro w hSw; (try dsimp only at hSw); go_simp; try (with_reducible rfl))
              simp only [Act.put, List.setIfInBounds_toArray, List.set_cons_zero, List.set_cons_succ]
              refine wpAnyH_take (v := ?_) (i := 19) (by simp only [List.getElem?_toArray, List.getElem?_cons_zero, List.getElem?_cons_succ]; rfl) (by kernel_rfl) (by kernel_rfl) (by kernel_rfl) (by intro _ _ _ h; exact h) (Or.inl ⟨by rfl, ?_⟩) (by assumption) ?_
              rotate_left
              · (intro w hSw; (try dsimp only at hSw); go_simp; try (with_reducible rfl))
              simp only [Act.put, List.setIfInBounds_toArray, List.set_cons_zero, List.set_cons_succ]
              refine wpAnyH_take (v := ?_) (i := 20) (by simp only [List.getElem?_toArray, List.getElem?_cons_zero, List.getElem?_cons_succ]; rfl) (by kernel_rfl) (by kernel_rfl) (by kernel_rfl) (by intro _ _ _ h; exact h) (Or.inl ⟨by rfl, ?_⟩) (by assumption) ?_
              rotate_left
              · (intro w hSw; (try dsimp only at hSw); go_simp; try (with_reducible rfl))
              simp only [Act.put, List.setIfInBounds_toArray, List.set_cons_zero, List.set_cons_succ]
              refine wpAnyH_take (i := 21) (by simp only [List.getElem?_toArray, List.getElem?_cons_zero, List.getElem?_cons_succ]; rfl) (by kernel_rfl) (by kernel_rfl) (by kernel_rfl) (by intro _ _ _ h; exact h) (Or.inr ⟨by rfl, rfl⟩) (by assumption) ?_
              simp only [Act.put, List.setIfInBounds_toArray, List.set_cons_zero, List.set_cons_succ]
              refine wpAnyH_take (i := 22) (by simp only [List.getElem?_toArray, List.getElem?_cons_zero, List.getElem?_cons_succ]; rfl) (by kernel_rfl) (by kernel_rfl) (by kernel_rfl) (by intro _ _ _ h; exact h) (Or.inr ⟨by rfl, rfl⟩) (by assumption) ?_
              simp only [Act.put, List.setIfInBounds_toArray, List.set_cons_zero, List.set_cons_succ]
              refine wpAnyH_take (i := 23) (by simp only [List.getElem?_toArray, List.getElem?_cons_zero, List.getElem?_cons_succ]; rfl) (by kernel_rfl) (by kernel_rfl) (by kernel_rfl) (by intro _ _ _ h; exact h) (Or.inr ⟨by rfl, rfl⟩) (by assumption) ?_
              simp only [Act.put, List.setIfInBounds_toArray, List.set_cons_zero, List.set_cons_succ]
              refine wpAnyH_take (i := 24) (by simp only [List.getElem?_toArray, List.getElem?_cons_zero, List.getElem?_cons_succ]; rfl) (by kernel_rfl) (by kernel_rfl) (by kernel_rfl) (by intro _ _ _ h; exact h) (Or.inr ⟨by rfl, rfl⟩) (by assumption) ?_
              simp only [Act.put, List.setIfInBounds_toArray, List.set_cons_zero, List.set_cons_succ]
              refine wpAnyH_take (i := 25) (by simp only [List.getElem?_toArray, List.getElem?_cons_zero, List.getElem?_cons_succ]; rfl) (by kernel_rfl) (by kernel_rfl) (by kernel_rfl) (by intro _ _ _ h; exact h) (Or.inr ⟨by rfl, rfl⟩) (by assumption) ?_
              simp only [Act.put, List.setIfInBounds_toArray, List.set_cons_zero, List.set_cons_succ]
              refine wpAnyH_take (i := 26) (by simp only [List.getElem?_toArray, List.getElem?_cons_zero, List.getElem?_cons_succ]; rfl) (by kernel_rfl) (by kernel_rfl) (by kernel_rfl) (by intro _ _ _ h; exact h) (Or.inr ⟨by rfl, rfl⟩) (by assumption) ?_
              simp only [Act.put, List.setIfInBounds_toArray, List.set_cons_zero, List.set_cons_succ]
              refine wpAnyH_take (v := ?_) (i := 27) (by simp only [List.getElem?_toArray, List.getElem?_cons_zero, List.getElem?_cons_succ]; rfl) (by kernel_rfl) (by kernel_rfl) (by kernel_rfl) (by intro _ _ _ h; exact h) (Or.inl ⟨by rfl, ?_⟩) (by assumption) ?_
              rotate_left
              · (intro w hSw; (try dsimp only at hSw); go_simp; try (with_reducible rfl))
              simp only [Act.put, List.setIfInBounds_toArray, List.set_cons_zero, List.set_cons_succ]
              refine wpAnyH_take (v := ?_) (i := 28) (by simp only [List.getElem?_toArray, List.getElem?_cons_zero, List.getElem?_cons_succ]; rfl) (by kernel_rfl) (by kernel_rfl) (by kernel_rfl) (by intro _ _ _ h; exact h) (Or.inl ⟨by rfl, ?_⟩) (by assumption) ?_
              rotate_left
              · (intro w hSw; (try dsimp only at hSw); go_simp; try (with_reducible rfl))
              simp only [Act.put, List.setIfInBounds_toArray, List.set_cons_zero, List.set_cons_succ]
              refine wpAnyH_done (by kernel_rfl) ?_ _
              all_goals go_wp2
              all_goals
                go_roundw
                case rel => exact ⟨j + 1, by go_num, by omega, by repeat (first | exact HBW2.out.drew.trans (hb9.mono (by simpa using hwsz)) | refine Below.drew ?_)⟩
                case measure => simp [intOf]; omega
          · obtain rfl : N = j := by omega
            have HBW3 := Lib.hid (HBW.out.trans (hbw.mono HBW.out.size))
            go_wp2_with fail
            refine (awake_any _).mono ?_
            rintro e w7 ⟨rfl, hb7⟩
            have HB7 := Lib.hid (HBW3.out.trans (hb7.mono HBW3.out.size))
            clear hb7
            go_wp2
            go_ret
            exact ⟨rfl, HB7.out⟩
  · rw [hsol] at hs4
    obtain ⟨rfl, hb4⟩ := hs4
    have HB4 := Lib.hid (HB3.out.trans (hb4.mono HB3.out.size))
    unfold zeroSys
    clear hsol hb4
    go_wp2_with fail
    refine (awake_any _).mono ?_
    rintro e w7 ⟨rfl, hb7⟩
    have HB7 := Lib.hid ((HB4.out.alloc HB4.out.size _).trans (hb7.mono (by have := HB4.out.size; simp; omega)))
    clear hb7
    go_wp2
    go_ret
    exact ⟨rfl, HB7.out⟩
end Go.Proofs.Ytkdgeahfmmfopaa
