/- slices.BinarySearchFunc over the kerns and over the ligatures walked, and the two closures. -/
import Derived.Test.YtagokefbbdlpcaaK1
import Derived.Test.YtagokefbbdlpcaaF9
import Derived.Deep.RegionHeld3
namespace Go.Proofs.Ytagokefbbdlpcaa
set_option linter.unusedVariables false
set_option linter.unusedSimpArgs false
open Go.RowKit

theorem cmpk_any (a b d a' b' d' : Int) (w : World) : Calls Try.prog 75 #[.agg #[.int .i32 a, .int .i32 b, .int .i64 d], .agg #[.int .i32 a', .int .i32 b', .int .i64 d']] w (Cls (cmpP a b a' b') w) := by
  have HB := Lib.hid (((Below.refl w.heap.size w).alloc (Nat.le_refl _) (Obj.cells #[.int .i32 a, .int .i32 b, .int .i64 d] 48)).alloc (by simp) (Obj.cells #[.int .i32 a', .int .i32 b', .int .i64 d'] 48))
  go_enter Try.func75, Try.ntmps75
  go_wp2_with fail
  refine (pair_any a b a' b' _).mono ?_
  rintro e w1 ⟨rfl, hb1⟩
  have HB1 := Lib.hid (HB.out.trans (hb1.mono HB.out.size))
  clear hb1
  go_wp2
  go_ret
  exact ⟨rfl, HB1.out⟩

theorem cmpl_any (a b g d a' b' g' d' : Int) (w : World) : Calls Try.prog 67 #[.agg #[.int .i32 a, .int .i32 b, .int .i64 g, .int .i64 d], .agg #[.int .i32 a', .int .i32 b', .int .i64 g', .int .i64 d']] w (Cls (cmpP a b a' b') w) := by
  have HB := Lib.hid (((Below.refl w.heap.size w).alloc (Nat.le_refl _) (Obj.cells #[.int .i32 a, .int .i32 b, .int .i64 g, .int .i64 d] 50)).alloc (by simp) (Obj.cells #[.int .i32 a', .int .i32 b', .int .i64 g', .int .i64 d'] 50))
  go_enter Try.func67, Try.ntmps67
  go_wp2_with fail
  refine (pair_any a b a' b' _).mono ?_
  rintro e w1 ⟨rfl, hb1⟩
  have HB1 := Lib.hid (HB.out.trans (hb1.mono HB.out.size))
  clear hb1
  go_wp2
  go_ret
  exact ⟨rfl, HB1.out⟩

/-- What a binary search for a key answers: a place, and whether it is there. -/
def BsIn {α : Type} (ka kb : α → Int) (l : List α) (a b : Int) (w : World) (e : Ending) (w' : World) : Prop :=
  ∃ (i : Nat) (fd : Bool), e = .returned (.tuple #[.int .i64 (i : Int), .bool fd]) ∧ Below w.heap.size w w' ∧
    (fd = true → ∃ x, l[i]? = some x ∧ ka x = a ∧ kb x = b ∧ firstK ka kb a b l = some x) ∧ (fd = false → firstK ka kb a b l = none)

set_option maxRecDepth 100000 in
set_option maxHeartbeats 4000000 in
theorem bsk_any (l : List Ker) (A : Option Addr) (c : Nat) (a b : Int) (w : World) (hr : Reads w w.heap.size 3 A l.length (kcells l)) (hl : l.length ≤ 100) (ho : kerOrd l = true) :
    Calls Try.prog 74 #[.slice A l.length c, .agg #[.int .i32 a, .int .i32 b, .int .i64 0], .func (.func 75) #[] #[]] w (BsIn Ker.a Ker.b l a b w) := by
  have ho' : pw (klt Ker.a Ker.b) l = true := ho
  have HO := Lib.hid ho'
  have HR := Lib.hid hr
  have HB := Lib.hid ((Below.refl w.heap.size w).alloc (Nat.le_refl _) (Obj.cells #[.int .i32 a, .int .i32 b, .int .i64 0] 48))
  have HK := Lib.hid (Blk.new w 48 #[.int .i32 a, .int .i32 b, .int .i64 0])
  obtain ⟨N, hN⟩ : ∃ N, N = l.length := ⟨_, rfl⟩
  have HN := Lib.hid hN
  rw [← hN] at hl ⊢
  clear ho ho' hr hN
  have HH0 := Lib.hid (show Hi Ker.a Ker.b a b l N from fun k y hk hy => by have := (List.getElem?_eq_some_iff.1 hy).1; have := HN.out; omega)
  go_enter Try.func74, Try.ntmps74
  go_wp2
  go_loopw [9, 10] (fun s9 s10 wr => ∃ (i j : Nat), s9 = .int .i64 (i : Int) ∧ s10 = .int .i64 (j : Int) ∧ i ≤ j ∧ j ≤ N ∧ Lo Ker.a Ker.b a b l i ∧ Hi Ker.a Ker.b a b l j ∧ Below w.heap.size w wr ∧ Blk wr w.heap.size 48 #[.int .i32 a, .int .i32 b, .int .i64 0]) (fun s9 s10 _ => (intOf s10).toNat - (intOf s9).toNat)
  case atStart => exact ⟨0, N, rfl, rfl, by omega, Nat.le_refl _, fun k y hk => by omega, HH0.out, HB.out, HK.out⟩
  case round =>
    obtain ⟨i, j, rfl, rfl, hij, hjn, hlo, hhi, hbr, hkr⟩ := hrel
    have HLO := Lib.hid hlo
    have HHI := Lib.hid hhi
    have HBR := Lib.hid hbr
    have HKR := Lib.hid hkr
    clear hlo hhi hbr hkr HH0
    have b0 : wr.cell? ⟨w.heap.size, 0, none⟩ = some (.int .i32 a) := by rw [HKR.out.cell]; rfl
    have b1 : wr.cell? ⟨w.heap.size, 1, none⟩ = some (.int .i32 b) := by rw [HKR.out.cell]; rfl
    have b2 : wr.cell? ⟨w.heap.size, 2, none⟩ = some (.int .i64 0) := by rw [HKR.out.cell]; rfl
    by_cases hlt : i < j
    · have hlt' : (i : Int) < (j : Int) := by omega
      go_upto_region 5 with (fail)
      obtain ⟨h, hh⟩ : ∃ h : Nat, h = (i + j) / 2 := ⟨_, rfl⟩
      have e0 : ((i : Int) + (j : Int)) / 2 = (h : Int) := by omega
      rw [e0]
      have h1 : i ≤ h := by omega
      have h2 : h < j := by omega
      have h3 : (h : Int) < (N : Int) := by omega
      clear e0 hh
      obtain ⟨x, bb, off, hx, hA, hbl, hc⟩ := elem_at (cells := Ker.cells) (size := 3) (fun _ => rfl) (by omega) HR.out HBR.out h (by have := HN.out; omega)
      subst hA
      obtain ⟨xa, xb, xd⟩ := x
      have d0 : wr.cell? ⟨bb, off + h * 3, none⟩ = some (.int .i32 xa) := hc 0 _ (by omega) rfl
      have d1 : wr.cell? ⟨bb, off + h * 3 + 1, none⟩ = some (.int .i32 xb) := hc 1 _ (by omega) rfl
      have d2 : wr.cell? ⟨bb, off + h * 3 + 2, none⟩ = some (.int .i64 xd) := hc 2 _ (by omega) rfl
      have hblw : bb < wr.heap.size := by have := HBR.out.size; omega
      have HX := Lib.hid hx
      clear hc hx
      have hlt0 : w.heap.size < wr.heap.size := HKR.out.lt
      have HBX := Lib.hid (show Below wr.heap.size wr wr.drew from (Below.refl _ _).drew)
      obtain ⟨v, hv⟩ : ∃ v, v = cmpP xa xb a b := ⟨_, rfl⟩
      have CC := Lib.hid (fun w => (show Calls Try.prog 75 #[.agg #[.int .i32 xa, .int .i32 xb, .int .i64 xd], .agg #[.int .i32 a, .int .i32 b, .int .i64 0]] w (Cls v w) by rw [hv]; exact cmpk_any _ _ _ _ _ _ w))
      have HV := Lib.hid hv
      clear hv
      go_region_held3 (fun w' => w'.cell? ⟨w.heap.size, 0, none⟩ = some (.int .i32 a) ∧ w'.cell? ⟨w.heap.size, 1, none⟩ = some (.int .i32 b) ∧ w'.cell? ⟨w.heap.size, 2, none⟩ = some (.int .i64 0) ∧
        w'.cell? ⟨bb, off + h * 3, none⟩ = some (.int .i32 xa) ∧ w'.cell? ⟨bb, off + h * 3 + 1, none⟩ = some (.int .i32 xb) ∧ w'.cell? ⟨bb, off + h * 3 + 2, none⟩ = some (.int .i64 xd)) (first | with_reducible assumption | go_keep)
        (first
          | (go_at_call 75; refine (CC.out _).mono ?_; rintro e w5 ⟨rfl, hb5⟩
             have HBX := Lib.hid (HBX.out.trans (hb5.mono HBX.out.size))
             have hS0 := (HBX.out.cell (p := ⟨w.heap.size, 0, none⟩) hlt0).trans b0
             have hS1 := (HBX.out.cell (p := ⟨w.heap.size, 1, none⟩) hlt0).trans b1
             have hS2 := (HBX.out.cell (p := ⟨w.heap.size, 2, none⟩) hlt0).trans b2
             have hS3 := (HBX.out.cell (p := ⟨bb, off + h * 3, none⟩) hblw).trans d0
             have hS4 := (HBX.out.cell (p := ⟨bb, off + h * 3 + 1, none⟩) hblw).trans d1
             have hS5 := (HBX.out.cell (p := ⟨bb, off + h * 3 + 2, none⟩) hblw).trans d2
             clear hb5)
          | fail)
      all_goals
        by_cases hv0 : v < 0
        · have HL := Lib.hid (lo_step Ker.a Ker.b HO.out HX.out ((cmpP_lt xa xb a b).1 (by rw [← HV.out]; exact hv0)))
          go_wp2
          go_roundw
          case rel => exact ⟨h + 1, j, by go_num, rfl, by omega, by omega, HL.out, HHI.out, HBR.out.trans (HBX.out.mono HBR.out.size), HKR.out.below HBX.out hlt0⟩
          case measure => simp [intOf]; omega
        · have HL := Lib.hid (hi_step Ker.a Ker.b HO.out HX.out (show ltB xa xb a b = false by
            cases hz : ltB xa xb a b with
            | false => rfl
            | true => exact absurd ((cmpP_lt xa xb a b).2 hz) (by rw [← HV.out]; exact hv0)))
          go_wp2
          go_roundw
          case rel => exact ⟨i, h, rfl, rfl, by omega, by omega, HLO.out, HL.out, HBR.out.trans (HBX.out.mono HBR.out.size), HKR.out.below HBX.out hlt0⟩
          case measure => simp [intOf]; omega
    · obtain rfl : i = j := by omega
      have hni : ¬ (i : Int) < (i : Int) := by omega
      by_cases hiN : i < N
      · have hiN' : (i : Int) < (N : Int) := by omega
        obtain ⟨x, bb, off, hx, hA, hbl, hc⟩ := elem_at (cells := Ker.cells) (size := 3) (fun _ => rfl) (by omega) HR.out HBR.out i (by have := HN.out; omega)
        subst hA
        obtain ⟨xa, xb, xd⟩ := x
        have d0 : wr.cell? ⟨bb, off + i * 3, none⟩ = some (.int .i32 xa) := hc 0 _ (by omega) rfl
        have d1 : wr.cell? ⟨bb, off + i * 3 + 1, none⟩ = some (.int .i32 xb) := hc 1 _ (by omega) rfl
        have d2 : wr.cell? ⟨bb, off + i * 3 + 2, none⟩ = some (.int .i64 xd) := hc 2 _ (by omega) rfl
        have hblw : bb < wr.heap.size := by have := HBR.out.size; omega
        have HX := Lib.hid hx
        clear hc hx
        have hlt0 : w.heap.size < wr.heap.size := HKR.out.lt
        obtain ⟨v, hv⟩ : ∃ v, v = cmpP xa xb a b := ⟨_, rfl⟩
        have CC := Lib.hid (fun w => (show Calls Try.prog 75 #[.agg #[.int .i32 xa, .int .i32 xb, .int .i64 xd], .agg #[.int .i32 a, .int .i32 b, .int .i64 0]] w (Cls v w) by rw [hv]; exact cmpk_any _ _ _ _ _ _ w))
        have HV := Lib.hid hv
        clear hv
        go_upto_region 8 with (fail)
        have HBX := Lib.hid (show Below wr.heap.size wr wr.drew from (Below.refl _ _).drew)
        go_region_held3 (fun w' => w'.cell? ⟨w.heap.size, 0, none⟩ = some (.int .i32 a) ∧ w'.cell? ⟨w.heap.size, 1, none⟩ = some (.int .i32 b) ∧ w'.cell? ⟨w.heap.size, 2, none⟩ = some (.int .i64 0) ∧
          w'.cell? ⟨bb, off + i * 3, none⟩ = some (.int .i32 xa) ∧ w'.cell? ⟨bb, off + i * 3 + 1, none⟩ = some (.int .i32 xb) ∧ w'.cell? ⟨bb, off + i * 3 + 2, none⟩ = some (.int .i64 xd)) (first | with_reducible assumption | go_keep)
          (first
            | (go_at_call 75; refine (CC.out _).mono ?_; rintro e w5 ⟨rfl, hb5⟩
               have HBX := Lib.hid (HBX.out.trans (hb5.mono HBX.out.size))
               have hS0 := (HBX.out.cell (p := ⟨w.heap.size, 0, none⟩) hlt0).trans b0
               have hS1 := (HBX.out.cell (p := ⟨w.heap.size, 1, none⟩) hlt0).trans b1
               have hS2 := (HBX.out.cell (p := ⟨w.heap.size, 2, none⟩) hlt0).trans b2
               have hS3 := (HBX.out.cell (p := ⟨bb, off + i * 3, none⟩) hblw).trans d0
               have hS4 := (HBX.out.cell (p := ⟨bb, off + i * 3 + 1, none⟩) hblw).trans d1
               have hS5 := (HBX.out.cell (p := ⟨bb, off + i * 3 + 2, none⟩) hblw).trans d2
               clear hb5)
            | fail)
        all_goals
          go_wp2
          exact bodyPost_ret (v := .tuple #[.int .i64 (i : Int), .bool (v == 0)]) (by simp [results, Try.results74, go_sem]) rfl
            ⟨i, v == 0, rfl, HBR.out.trans (HBX.out.mono HBR.out.size), fun hz => by
              have hz' : cmpP xa xb a b = 0 := by rw [← HV.out]; simpa using hz
              obtain ⟨e1, e2⟩ := (cmpP_zero xa xb a b).1 hz'
              exact ⟨_, HX.out, e1, e2, firstK_at Ker.a Ker.b HO.out HX.out e1 e2⟩,
             fun hz => by
              have hz' : ¬ cmpP xa xb a b = 0 := by rw [← HV.out]; simpa using hz
              refine bs_none Ker.a Ker.b HO.out HLO.out HHI.out fun y hy he => hz' ((cmpP_zero xa xb a b).2 ?_)
              rw [HX.out] at hy
              injection hy with hy
              subst hy
              exact he⟩
      · have hiN' : ¬ (i : Int) < (N : Int) := by omega
        have hiNb : decide ((i : Int) < (N : Int)) = false := by simpa using hiN'
        go_upto_region 8 with (fail)
        go_quiet (fail)
        go_wp2
        exact bodyPost_ret (v := .tuple #[.int .i64 (i : Int), .bool false]) (by simp [results, Try.results74, go_sem]) rfl
          ⟨i, false, rfl, below_drewN HBR.out _, fun hz => by simp at hz, fun _ => bs_none Ker.a Ker.b HO.out HLO.out HHI.out fun y hy => by
            have := (List.getElem?_eq_some_iff.1 hy).1
            have := HN.out
            omega⟩
end Go.Proofs.Ytagokefbbdlpcaa
