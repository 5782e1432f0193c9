/- ConstraintStrengths walked. -/
import Derived.Test.YtkdgeahfmmfopaaC4
import Derived.Test.YtkdgeahfmmfopaaP7
import Derived.Test.YtkdgeahfmmfopaaRawWalk
import Derived.BigQuiet
namespace Go.Proofs.Ytkdgeahfmmfopaa
set_option linter.unusedVariables false
set_option linter.unusedSimpArgs false
open Go.RowKit

theorem own_ob {w : World} {base base' e e' size size' n n' : Nat} {v v' : Value} {xs xs' : List Value} (h : w.ownsRow base e size v n xs) (h' : w.ownsRow base' e' size' v' n' xs') (hne : e ≠ e') : v.ownBlock = none ∨ v.ownBlock ≠ v'.ownBlock := by
  cases hv : v.ownBlock with
  | none => exact .inl rfl
  | some b => exact .inr fun he => own_own_ne h h' hne b he.symm hv

theorem bools_snoc (a : List Bool) (b : Bool) : bools (a ++ [b]) = bools a ++ [.bool b] := by simp [bools]

set_option maxRecDepth 100000 in
set_option maxHeartbeats 4000000 in
theorem strengths_any : LawAny 7 := by
  intro A n c zs w hnc hc hr hz
  obtain ⟨i0, hi0, hz0, hz1, hz2⟩ := info_parts con_info
  obtain ⟨j0, hj0, hy0, hy1, hy2⟩ := info_parts bool_info
  have HR := Lib.hid hr
  have HZ := Lib.hid hz
  clear hr hz
  go_enter Try.func7, Try.ntmps7
  go_wp2_with fail
  refine (new_any w.heap.size A n c zs _ (Nat.le_refl _) hnc hc HR.out HZ.out).mono ?_
  rintro e w1 ⟨g, rfl, hg0, hs1, hb1⟩
  have hgl1 := hs1.lt
  have HB1 := Lib.hid hb1
  clear hb1
  go_wp2_with fail
  refine (range_any g w.heap.size _ _ _ hs1 (by omega) (by omega) (by omega)).mono ?_
  rintro e w2 ⟨vars, rfl, hv1, hv2, hs2, hg2⟩
  obtain ⟨nv, rfl⟩ := Int.eq_ofNat_of_zero_le (show 0 ≤ vars by omega)
  have HB2 := Lib.hid (HB1.out.grown hg2 HB1.out.size (fun k hk => by cases hk; exact hg0))
  clear hg2
  go_wp2_with fail
  refine (build_any g w.heap.size nv 12 _ hs2 hv1 (by omega) (by omega)).mono ?_
  rintro e w3 ⟨l, v3, rfl, hown3, hl3, hval3, hs3, hg3⟩
  have HB3 := Lib.hid (HB2.out.grown hg3 HB2.out.size (fun k hk => by cases hk; exact hg0))
  obtain ⟨A3, c3, rfl, hle3, hm3, hnil3, hr3⟩ := own_slr hown3
  have HR3 := Lib.hid hr3
  have HN3 := Lib.hid hnil3
  have HVAL := Lib.hid hval3
  clear hg3 hown3 hr3 hnil3 hs3 hval3
  obtain ⟨N, hN⟩ : ∃ N, N = l.length := ⟨_, rfl⟩
  have HN := Lib.hid hN
  rw [← hN] at HR3 HN3 hl3 hle3 ⊢
  clear hN
  go_wp2_with fail
  refine (solve_any nv A3 N c3 w3.heap.size l _ HN.out.symm HR3.out (Nat.le_refl _) HN3.out).mono ?_
  intro e w4 hs4
  have hstr := fun k : Nat => strong_solved (n := nv) (l := l) k (by omega) (by have := HN.out; omega) HVAL.out
  rcases iSolve_cases (n := nv) (l := l) (by omega) (by have := HN.out; omega) HVAL.out with ⟨h, x, hsol, hgood⟩ | hsol
  · have hst : ∀ k : Nat, ∃ x', iSolve nv (subT k l l.length) = .ok (pickT k l h l.length) x' := fun k => by
      rcases hstr k with ⟨h', y, x', e1, e2, _⟩ | ⟨e1, _⟩
      · rw [hsol] at e1; injection e1 with e1 e3; subst e1; exact ⟨x', e2⟩
      · rw [hsol] at e1; cases e1
    rw [hsol] at hs4
    obtain ⟨va, rfl, hva, hb4⟩ := hs4
    obtain ⟨v1, v2, v3, rfl, a1, a2, a3⟩ := hva
    obtain ⟨A1, c1, rfl, _, _, _, r1⟩ := a1
    obtain ⟨A2, c2, rfl, hle2, _, _, r2⟩ := a2
    obtain ⟨A4, c4, rfl, _, _, _, r4⟩ := a3
    have hhl : h.length = N := by rw [hgood.hl]; exact HN.out.symm
    have hll : l.length = N := HN.out.symm
    rw [hhl] at r2 hle2 ⊢
    rw [hll] at r1 ⊢
    obtain ⟨X, hX⟩ : ∃ X, X = x.length := ⟨_, rfl⟩
    rw [← hX] at r4 ⊢
    have HST := Lib.hid hst
    have HHL := Lib.hid hhl
    have HB4 := Lib.hid (HB3.out.trans (hb4.mono HB3.out.size))
    have R2 := Lib.hid (r2.alloc (Nat.le_refl _) (Obj.cells #[.int .i64 (nv : Int), .slice A1 N c1, .slice A2 N c2, .slice A4 X c4] 26))
    have R3 := Lib.hid ((HR3.out.below hb4).alloc hb4.size (Obj.cells #[.int .i64 (nv : Int), .slice A1 N c1, .slice A2 N c2, .slice A4 X c4] 26))
    have hsz3 : w3.heap.size ≤ w4.heap.size := hb4.size
    have HBX := Lib.hid (Blk.new w4 26 #[.int .i64 (nv : Int), .slice A1 N c1, .slice A2 N c2, .slice A4 X c4])
    have HBW := Lib.hid (HB4.out.alloc HB4.out.size (Obj.cells #[.int .i64 (nv : Int), .slice A1 N c1, .slice A2 N c2, .slice A4 X c4] 26))
    have hszW : (w4.alloc (Obj.cells #[.int .i64 (nv : Int), .slice A1 N c1, .slice A2 N c2, .slice A4 X c4] 26)).heap.size = w4.heap.size + 1 := by simp
    clear hsol hgood hb4 hhl hll r1 r2 r4 hstr hst hX
    go_wp2
    generalize w4.alloc (Obj.cells #[.int .i64 (nv : Int), .slice A1 N c1, .slice A2 N c2, .slice A4 X c4] 26) = W at *
    have hlt4 : w4.heap.size < W.heap.size := by omega
    have x2 : W.cell? ⟨w4.heap.size, 2, none⟩ = some (.slice A2 N c2) := by rw [HBX.out.cell]; rfl
    obtain ⟨H, hH⟩ : ∃ H, H = W.heap.size := ⟨_, rfl⟩
    have HH := Lib.hid hH
    rw [← hH] at hlt4
    clear hszW hH
    go_loopw [8] (fun s8 wr => ∃ k : Nat, s8 = .int .i64 (k : Int) ∧ k ≤ 3 ∧ Below H W wr) (fun s8 _ => 3 - (intOf s8).toNat)
    case atStart => exact ⟨0, rfl, by omega, Below.refl _ _⟩
    case round =>
      obtain ⟨k, rfl, hk, hbw⟩ := hrel
      by_cases hk3 : k < 3
      · have hk0 : (k : Int) < 3 := by omega
        have HBK := Lib.hid hbw
        have hwr0 : H ≤ wr.heap.size := by rw [HH.out]; exact hbw.size
        clear hbw
        go_wp2
        go_loopw [9, 10, 11] (fun s9 s10 s11 wq => ∃ j : Nat, s11 = .int .i64 (j : Int) ∧ j ≤ N ∧ wq.ownsRow H 40 5 s9 (subT k l j).length (conCells (subT k l j)) ∧
            wq.ownsRow H 4 1 s10 (pickT k l h j).length (bools (pickT k l h j)) ∧ Below H W wq) (fun _ _ s11 _ => N - (intOf s11).toNat)
        case atStart => exact ⟨0, rfl, by omega, World.ownsRow_nil _ _ _ _, World.ownsRow_nil _ _ _ _, HBK.out⟩
        case round =>
          obtain ⟨j, rfl, hj, hown9, hown10, hbq⟩ := hrel
          have HO9 := Lib.hid hown9
          have HO10 := Lib.hid hown10
          have HBQ := Lib.hid hbq
          have hwq : H ≤ wr.heap.size := by rw [HH.out]; exact hbq.size
          clear hown9 hown10 hbq
          by_cases hjn : j < N
          · have hjN : (j : Int) < (N : Int) := by omega
            obtain ⟨b3, o3, rfl, hb3, hc3⟩ := R3.out.plain (by omega) (by omega)
            obtain ⟨b2, o2, rfl, hb2, hc2⟩ := R2.out.plain (by omega) (by omega)
            have hlj : l[j]? = some (l[j]'(by have := HN.out; omega)) := List.getElem?_eq_getElem _
            generalize hcc : l[j]'(by have := HN.out; omega) = cc at hlj
            have hjh : j < h.length := by rw [HHL.out]; exact hjn
            have hhj : h[j]? = some (h[j]'hjh) := List.getElem?_eq_getElem _
            have hbh : W.cell? ⟨b2, o2 + j, none⟩ = some (.bool (h[j]'hjh)) := hc2 j _ (bools_get hjh)
            generalize h[j]'hjh = hv at hhj hbh
            have hb3' : b3 < H := by omega
            have hb2' : b2 < H := by omega
            have hcell : ∀ i u, cc.cells[i]? = some u → i < 5 → wr.cell? ⟨b3, o3 + (j * 5 + i), none⟩ = some u := fun i u hu hi =>
              (HBQ.out.cell (p := ⟨b3, o3 + (j * 5 + i), none⟩) (by simpa using hb3')).trans (hc3 _ _ (by rw [con_cells_at l j i cc hlj hi]; exact hu))
            have d0 : wr.cell? ⟨b3, o3 + j * 5, none⟩ = some (.int .i64 cc.A) := hcell 0 _ rfl (by omega)
            have d1 : wr.cell? ⟨b3, o3 + j * 5 + 1, none⟩ = some (.int .i64 cc.B) := hcell 1 _ rfl (by omega)
            have d2 : wr.cell? ⟨b3, o3 + j * 5 + 2, none⟩ = some (.int .i64 cc.R) := hcell 2 _ rfl (by omega)
            have d3 : wr.cell? ⟨b3, o3 + j * 5 + 3, none⟩ = some (.int .i64 cc.C) := hcell 3 _ rfl (by omega)
            have d4 : wr.cell? ⟨b3, o3 + j * 5 + 4, none⟩ = some (.int .i64 cc.S) := hcell 4 _ rfl (by omega)
            have y2 : wr.cell? ⟨w4.heap.size, 2, none⟩ = some (.slice (some ⟨b2, o2, none⟩) N c2) := (HBQ.out.cell (p := ⟨w4.heap.size, 2, none⟩) hlt4).trans x2
            have yh : wr.cell? ⟨b2, o2 + j, none⟩ = some (.bool hv) := (HBQ.out.cell (p := ⟨b2, o2 + j, none⟩) (by simpa using hb2')).trans hbh
            have HLJ := Lib.hid hlj
            have HHJ := Lib.hid hhj
            have hbh' := Lib.hid hbh
            clear hcell hlj hhj hc3 hc2 hcc hbh
            by_cases hS : cc.S ≤ (k : Int)
            · have hcnt := subT_len_le (k : Int) l j
              have hcnt' := pickT_len (k : Int) l h j
              have hN12 : N ≤ 12 := hl3
              obtain ⟨q, hq⟩ : ∃ q, q = (subT (k : Int) l j).length := ⟨_, rfl⟩
              have hO9 := HO9.out
              have hO10 := HO10.out
              rw [hcnt'] at hO10
              rw [← hq] at hO9 hO10 hcnt
              have hcon9 := Lib.hid (hO9.alloc (Obj.cells #[.int .i64 cc.A, .int .i64 cc.B, .int .i64 cc.R, .int .i64 cc.C, .int .i64 cc.S] 40))
              have hcon10 := Lib.hid (hO10.alloc (Obj.cells #[.int .i64 cc.A, .int .i64 cc.B, .int .i64 cc.R, .int .i64 cc.C, .int .i64 cc.S] 40))
              have hrd8 := Lib.hid (reads_new wr #[.int .i64 cc.A, .int .i64 cc.B, .int .i64 cc.R, .int .i64 cc.C, .int .i64 cc.S] 40 5 1 rfl)
              have HB8 := Lib.hid (HBQ.out.alloc (by omega) (Obj.cells #[.int .i64 cc.A, .int .i64 cc.B, .int .i64 cc.R, .int .i64 cc.C, .int .i64 cc.S] 40))
              have HQ := Lib.hid hq
              clear hO9 hO10 hcnt' hq
              go_wp2_with (
                at_builtin
                first
                  | (
                    refine wpList_append_any _ rfl (.tmp 45) (.tmp 50) _ rfl H 40 i0 _ 5 40 Try.underlying22 hi0 hz0 hz1 hz2 rfl (by omega) _ q (conCells (subT (k : Int) l j)) rfl
                      hcon9.out _ _ 1 1 _ rfl hrd8.out (by intro u hu; simp at hu; rcases hu with rfl | rfl | rfl | rfl | rfl <;> rfl) (by simp only [maxLen]; omega) (by omega) (by simp; omega) ?_
                    intro v13 w13 hown13 hg13 hat13
                    have HOWN13 := Lib.hid hown13
                    have HOWN13' := Lib.hid (hcon10.out.kept hg13 (own_ob hcon10.out hcon9.out (by decide)))
                    have HB13 := Lib.hid (HB8.out.grown hg13 (by simp; omega) (fun k hk => (hcon9.out.lt k hk).1))
                    have hw13 : H ≤ w13.heap.size := by rw [HH.out]; exact HB13.out.size
                    have y2' : w13.cell? ⟨w4.heap.size, 2, none⟩ = some (.slice (some ⟨b2, o2, none⟩) N c2) := (HB13.out.cell (p := ⟨w4.heap.size, 2, none⟩) hlt4).trans x2
                    have yh' : w13.cell? ⟨b2, o2 + j, none⟩ = some (.bool hv) := (HB13.out.cell (p := ⟨b2, o2 + j, none⟩) (by simpa using hb2')).trans hbh'.out
                    clear hown13 hg13 hat13)
                  | (
                    have hrd14 := Lib.hid (reads_new w13 #[.bool hv] 4 1 1 rfl)
                    have hO13 := Lib.hid (HOWN13.out.alloc (Obj.cells #[.bool hv] 4))
                    have hO13' := Lib.hid (HOWN13'.out.alloc (Obj.cells #[.bool hv] 4))
                    have HB14 := Lib.hid (HB13.out.alloc hw13 (Obj.cells #[.bool hv] 4))
                    refine wpList_append_any _ rfl (.tmp 60) (.tmp 66) _ rfl H 4 j0 _ 1 1 Try.underlying23 hj0 hy0 hy1 hy2 rfl (by omega) _ q (bools (pickT (k : Int) l h j)) rfl
                      hO13'.out _ _ 1 1 _ rfl hrd14.out (by intro u hu; simp at hu; subst hu; rfl) (by simp only [maxLen]; omega) (by omega) (by simp; omega) ?_
                    intro v15 w15 hown15 hg15 hat15))
              go_roundw
              case rel =>
                refine ⟨j + 1, by go_num, by omega, ?_, ?_, HB14.out.grown hg15 (by simp; omega) (fun k hk => (hO13'.out.lt k hk).1)⟩
                · have e : conCells (subT (k : Int) l j ++ [cc]) = conCells (subT (k : Int) l j) ++ [.int .i64 cc.A, .int .i64 cc.B, .int .i64 cc.R, .int .i64 cc.C, .int .i64 cc.S] := by simp [conCells, Con.cells]
                  rw [subT_le HLJ.out hS, e, List.length_append, ← HQ.out]
                  exact hO13.out.kept hg15 (own_ob hO13.out hO13'.out (by decide))
                · rw [pickT_le HLJ.out hS, HHJ.out, bools_snoc, List.length_append, pickT_len, ← HQ.out]
                  exact hown15
              case measure => simp [intOf]; omega
            · go_wp2
              go_roundw
              case rel => exact ⟨j + 1, by go_num, by omega, by rw [subT_gt HLJ.out hS]; exact HO9.out, by rw [pickT_gt HLJ.out hS]; exact HO10.out, HBQ.out⟩
              case measure => simp [intOf]; omega
          · obtain rfl : N = j := by omega
            have hcnt := subT_len_le (k : Int) l N
            have hN12 : N ≤ 12 := hl3
            obtain ⟨A9, c9, rfl, hle9, _, hnil9, r9⟩ := own_slr HO9.out
            obtain ⟨A10, c10, rfl, hle10, _, _, r10⟩ := own_slr HO10.out
            obtain ⟨x', hx'⟩ := HST.out k
            rw [← HN.out] at hx'
            obtain ⟨q, hq⟩ : ∃ q, q = (subT (k : Int) l N).length := ⟨_, rfl⟩
            rw [pickT_len] at r10 hle10 ⊢
            rw [← hq] at r9 r10 hle9 hle10 hnil9 ⊢
            have hqN : q ≤ N := by rw [hq]; exact hcnt
            have HX' := Lib.hid hx'
            have R9 := Lib.hid r9
            have R10 := Lib.hid r10
            have HN9 := Lib.hid hnil9
            have HQ := Lib.hid hq
            clear r9 r10 hnil9 hx' hq hcnt HO9 HO10
            go_wp2_with fail
            refine (solve_any nv A9 q c9 wr.heap.size (subT (k : Int) l N) _ HQ.out.symm R9.out (Nat.le_refl _) HN9.out).mono ?_
            intro e w6 hs6
            rw [HX'.out] at hs6
            obtain ⟨va, rfl, hva, hb6⟩ := hs6
            obtain ⟨v1, v2, v3, rfl, a1, a2, a3⟩ := hva
            obtain ⟨A61, c61, rfl, _, _, _, r61⟩ := a1
            obtain ⟨A62, c62, rfl, hle62, _, _, r62⟩ := a2
            obtain ⟨A64, c64, rfl, _, _, _, r64⟩ := a3
            rw [pickT_len, ← HQ.out] at r62 hle62 ⊢
            rw [← HQ.out] at r61
            have HB6 := Lib.hid (HBQ.out.trans (hb6.mono hwq))
            have R10' := Lib.hid ((R10.out.below hb6).alloc hb6.size (Obj.cells #[.int .i64 (nv : Int), .slice A61 q c61, .slice A62 q c62, .slice A64 x'.length c64] 26))
            have R62 := Lib.hid (r62.alloc (Nat.le_refl _) (Obj.cells #[.int .i64 (nv : Int), .slice A61 q c61, .slice A62 q c62, .slice A64 x'.length c64] 26))
            have hw6 : H ≤ w6.heap.size := by rw [HH.out]; exact HB6.out.size
            have HB7 := Lib.hid (HB6.out.alloc hw6 (Obj.cells #[.int .i64 (nv : Int), .slice A61 q c61, .slice A62 q c62, .slice A64 x'.length c64] 26))
            have HBX6 := Lib.hid (Blk.new w6 26 #[.int .i64 (nv : Int), .slice A61 q c61, .slice A62 q c62, .slice A64 x'.length c64])
            have hwr6 : wr.heap.size ≤ w6.heap.size := hb6.size
            have hsz6 : (w6.alloc (Obj.cells #[.int .i64 (nv : Int), .slice A61 q c61, .slice A62 q c62, .slice A64 x'.length c64] 26)).heap.size = w6.heap.size + 1 := by simp
            clear hb6 r61 r62 r64
            go_wp2
            generalize w6.alloc (Obj.cells #[.int .i64 (nv : Int), .slice A61 q c61, .slice A62 q c62, .slice A64 x'.length c64] 26) = V at *
            have hltV : w6.heap.size < V.heap.size := by omega
            have z2 : V.cell? ⟨w6.heap.size, 2, none⟩ = some (.slice A62 q c62) := by rw [HBX6.out.cell]; rfl
            clear hsz6
            generalize w6.heap.size = P at *
            generalize wr.heap.size = P1 at *
            go_loopw [14] (fun s14 wz => ∃ (i qd : Nat), s14 = .int .i64 (i : Int) ∧ i ≤ q ∧ wz = V.drewN qd) (fun s14 _ => q - (intOf s14).toNat)
            case atStart => exact ⟨0, 0, rfl, by omega, rfl⟩
            case round =>
              obtain ⟨i, qd, rfl, hi, rfl⟩ := hrel
              by_cases hiq : i < q
              · have hi0 : (i : Int) < (q : Int) := by omega
                obtain ⟨b10, o10, rfl, hb10, hc10⟩ := R10'.out.plain (by omega) (by omega)
                obtain ⟨b62, o62, rfl, hb62, hc62⟩ := R62.out.plain (by omega) (by omega)
                have hip : i < (pickT (k : Int) l h N).length := by rw [pickT_len, ← HQ.out]; exact hiq
                have m1 : V.cell? ⟨b10, o10 + i, none⟩ = some (.bool ((pickT (k : Int) l h N)[i]'hip)) := hc10 i _ (bools_get hip)
                have m2 : V.cell? ⟨b62, o62 + i, none⟩ = some (.bool ((pickT (k : Int) l h N)[i]'hip)) := hc62 i _ (bools_get hip)
                generalize (pickT (k : Int) l h N)[i]'hip = pv at m1 m2
                clear hc10 hc62
                go_wp2_with fail
                go_quiet (fail)
                go_wp2
                go_roundw
                case rel => exact ⟨i + 1, _, by go_num, by omega, rfl⟩
                case measure => simp [intOf]; omega
              · obtain rfl : q = i := by omega
                go_wp2
                go_roundw
                case rel => exact ⟨k + 1, by go_num, by omega, below_drewN HB7.out _⟩
                case measure => simp [intOf]; omega
      · obtain rfl : k = 3 := by omega
        have HBW3 := Lib.hid (HBW.out.trans (hbw.mono (by rw [HH.out]; exact HBW.out.size)))
        go_wp2_with fail
        refine (awake_any _).mono ?_
        rintro e w7 ⟨rfl, hb7⟩
        have HB7 := Lib.hid (HBW3.out.trans (hb7.mono HBW3.out.size))
        clear hb7
        go_wp2
        go_ret
        exact ⟨rfl, HB7.out⟩
  · have hst : ∀ k : Nat, iSolve nv (subT k l l.length) = .err 13 := fun k => by
      rcases hstr k with ⟨h', y, x', e1, e2, _⟩ | ⟨_, e2⟩
      · rw [hsol] at e1; cases e1
      · exact e2
    rw [hsol] at hs4
    obtain ⟨rfl, hb4⟩ := hs4
    have HST := Lib.hid hst
    have HB4 := Lib.hid (HB3.out.trans (hb4.mono HB3.out.size))
    have R3 := Lib.hid ((HR3.out.below hb4).alloc hb4.size (Obj.cells #[.int .i64 0, .slice none 0 0, .slice none 0 0, .slice none 0 0] 26))
    have hsz3 : w3.heap.size ≤ w4.heap.size := hb4.size
    have HBW := Lib.hid (HB4.out.alloc HB4.out.size (Obj.cells #[.int .i64 0, .slice none 0 0, .slice none 0 0, .slice none 0 0] 26))
    have hszW : (w4.alloc (Obj.cells #[.int .i64 0, .slice none 0 0, .slice none 0 0, .slice none 0 0] 26)).heap.size = w4.heap.size + 1 := by simp
    clear hsol hb4 hstr hst
    unfold zeroSys
    go_wp2
    generalize w4.alloc (Obj.cells #[.int .i64 0, .slice none 0 0, .slice none 0 0, .slice none 0 0] 26) = W at *
    have hlt4 : w4.heap.size < W.heap.size := by omega
    obtain ⟨H, hH⟩ : ∃ H, H = W.heap.size := ⟨_, rfl⟩
    have HH := Lib.hid hH
    rw [← hH] at hlt4
    clear hszW hH
    go_loopw [8] (fun s8 wr => ∃ k : Nat, s8 = .int .i64 (k : Int) ∧ k ≤ 3 ∧ Below H W wr) (fun s8 _ => 3 - (intOf s8).toNat)
    case atStart => exact ⟨0, rfl, by omega, Below.refl _ _⟩
    case round =>
      obtain ⟨k, rfl, hk, hbw⟩ := hrel
      by_cases hk3 : k < 3
      · have hk0 : (k : Int) < 3 := by omega
        have HBK := Lib.hid hbw
        have hwr0 : H ≤ wr.heap.size := by rw [HH.out]; exact hbw.size
        clear hbw
        go_wp2
        go_loopw [9, 10, 11] (fun s9 s10 s11 wq => ∃ j : Nat, s11 = .int .i64 (j : Int) ∧ j ≤ N ∧ wq.ownsRow H 40 5 s9 (subT k l j).length (conCells (subT k l j)) ∧
            s10 = .slice none 0 0 ∧ Below H W wq) (fun _ _ s11 _ => N - (intOf s11).toNat)
        case atStart => exact ⟨0, rfl, by omega, World.ownsRow_nil _ _ _ _, rfl, HBK.out⟩
        case round =>
          obtain ⟨j, rfl, hj, hown9, rfl, hbq⟩ := hrel
          have HO9 := Lib.hid hown9
          have HBQ := Lib.hid hbq
          have hwq : H ≤ wr.heap.size := by rw [HH.out]; exact hbq.size
          clear hown9 hbq
          by_cases hjn : j < N
          · have hjN : (j : Int) < (N : Int) := by omega
            obtain ⟨b3, o3, rfl, hb3, hc3⟩ := R3.out.plain (by omega) (by omega)
            have hlj : l[j]? = some (l[j]'(by have := HN.out; omega)) := List.getElem?_eq_getElem _
            generalize hcc : l[j]'(by have := HN.out; omega) = cc at hlj
            have hb3' : b3 < H := by omega
            have hcell : ∀ i u, cc.cells[i]? = some u → i < 5 → wr.cell? ⟨b3, o3 + (j * 5 + i), none⟩ = some u := fun i u hu hi =>
              (HBQ.out.cell (p := ⟨b3, o3 + (j * 5 + i), none⟩) (by simpa using hb3')).trans (hc3 _ _ (by rw [con_cells_at l j i cc hlj hi]; exact hu))
            have d0 : wr.cell? ⟨b3, o3 + j * 5, none⟩ = some (.int .i64 cc.A) := hcell 0 _ rfl (by omega)
            have d1 : wr.cell? ⟨b3, o3 + j * 5 + 1, none⟩ = some (.int .i64 cc.B) := hcell 1 _ rfl (by omega)
            have d2 : wr.cell? ⟨b3, o3 + j * 5 + 2, none⟩ = some (.int .i64 cc.R) := hcell 2 _ rfl (by omega)
            have d3 : wr.cell? ⟨b3, o3 + j * 5 + 3, none⟩ = some (.int .i64 cc.C) := hcell 3 _ rfl (by omega)
            have d4 : wr.cell? ⟨b3, o3 + j * 5 + 4, none⟩ = some (.int .i64 cc.S) := hcell 4 _ rfl (by omega)
            have HLJ := Lib.hid hlj
            clear hcell hlj hc3 hcc
            by_cases hS : cc.S ≤ (k : Int)
            · have hcnt := subT_len_le (k : Int) l j
              have hN12 : N ≤ 12 := hl3
              obtain ⟨q, hq⟩ : ∃ q, q = (subT (k : Int) l j).length := ⟨_, rfl⟩
              have hO9 := HO9.out
              rw [← hq] at hO9 hcnt
              have hcon9 := Lib.hid (hO9.alloc (Obj.cells #[.int .i64 cc.A, .int .i64 cc.B, .int .i64 cc.R, .int .i64 cc.C, .int .i64 cc.S] 40))
              have hrd8 := Lib.hid (reads_new wr #[.int .i64 cc.A, .int .i64 cc.B, .int .i64 cc.R, .int .i64 cc.C, .int .i64 cc.S] 40 5 1 rfl)
              have HB8 := Lib.hid (HBQ.out.alloc (by omega) (Obj.cells #[.int .i64 cc.A, .int .i64 cc.B, .int .i64 cc.R, .int .i64 cc.C, .int .i64 cc.S] 40))
              have HQ := Lib.hid hq
              clear hO9 hq
              go_wp2_with (
                at_builtin
                refine wpList_append_any _ rfl (.tmp 45) (.tmp 50) _ rfl H 40 i0 _ 5 40 Try.underlying22 hi0 hz0 hz1 hz2 rfl (by omega) _ q (conCells (subT (k : Int) l j)) rfl
                  hcon9.out _ _ 1 1 _ rfl hrd8.out (by intro u hu; simp at hu; rcases hu with rfl | rfl | rfl | rfl | rfl <;> rfl) (by simp only [maxLen]; omega) (by omega) (by simp; omega) ?_
                intro v13 w13 hown13 hg13 hat13)
              go_roundw
              case rel =>
                refine ⟨j + 1, by go_num, by omega, ?_, rfl, HB8.out.grown hg13 (by simp; omega) (fun k hk => (hcon9.out.lt k hk).1)⟩
                have e : conCells (subT (k : Int) l j ++ [cc]) = conCells (subT (k : Int) l j) ++ [.int .i64 cc.A, .int .i64 cc.B, .int .i64 cc.R, .int .i64 cc.C, .int .i64 cc.S] := by simp [conCells, Con.cells]
                rw [subT_le HLJ.out hS, e, List.length_append, ← HQ.out]
                exact hown13
              case measure => simp [intOf]; omega
            · go_wp2
              go_roundw
              case rel => exact ⟨j + 1, by go_num, by omega, by rw [subT_gt HLJ.out hS]; exact HO9.out, rfl, HBQ.out⟩
              case measure => simp [intOf]; omega
          · obtain rfl : N = j := by omega
            have hcnt := subT_len_le (k : Int) l N
            have hN12 : N ≤ 12 := hl3
            obtain ⟨A9, c9, rfl, hle9, _, hnil9, r9⟩ := own_slr HO9.out
            have hx' := HST.out k
            rw [← HN.out] at hx'
            obtain ⟨q, hq⟩ : ∃ q, q = (subT (k : Int) l N).length := ⟨_, rfl⟩
            rw [← hq] at r9 hle9 hnil9 ⊢
            have HX' := Lib.hid hx'
            have R9 := Lib.hid r9
            have HN9 := Lib.hid hnil9
            have HQ := Lib.hid hq
            clear r9 hnil9 hx' hq hcnt HO9
            go_wp2_with fail
            refine (solve_any nv A9 q c9 wr.heap.size (subT (k : Int) l N) _ HQ.out.symm R9.out (Nat.le_refl _) HN9.out).mono ?_
            intro e w6 hs6
            rw [HX'.out] at hs6
            obtain ⟨rfl, hb6⟩ := hs6
            have HB6 := Lib.hid (HBQ.out.trans (hb6.mono hwq))
            have hw6 : H ≤ w6.heap.size := by rw [HH.out]; exact HB6.out.size
            have HB7 := Lib.hid (HB6.out.alloc hw6 (Obj.cells #[.int .i64 0, .slice none 0 0, .slice none 0 0, .slice none 0 0] 26))
            clear hb6
            unfold zeroSys
            go_wp2
            go_loopw [14] (fun s14 wz => s14 = .int .i64 0 ∧ Below H W wz) (fun s14 _ => 0)
            case atStart => exact ⟨rfl, HB7.out⟩
            case round =>
              obtain ⟨rfl, hbz⟩ := hrel
              have HBZ := Lib.hid hbz
              clear hbz
              go_wp2
              go_roundw
              case rel => exact ⟨k + 1, by go_num, by omega, HBZ.out⟩
              case measure => simp [intOf]; omega
      · obtain rfl : k = 3 := by omega
        have HBW3 := Lib.hid (HBW.out.trans (hbw.mono (by rw [HH.out]; exact HBW.out.size)))
        go_wp2_with fail
        refine (awake_any _).mono ?_
        rintro e w7 ⟨rfl, hb7⟩
        have HB7 := Lib.hid (HBW3.out.trans (hb7.mono HBW3.out.size))
        clear hb7
        go_wp2
        go_ret
        exact ⟨rfl, HB7.out⟩
end Go.Proofs.Ytkdgeahfmmfopaa
