/- The reference's Ligature of the font layer walked. -/
import Derived.Test.YtagokefbbdlpcaaK6
namespace Go.Proofs.Ytagokefbbdlpcaa
set_option linter.unusedVariables false
set_option linter.unusedSimpArgs false
open Go.RowKit

set_option maxRecDepth 100000 in
set_option maxHeartbeats 4000000 in
theorem rlig_any (hrv : RV) (f : Fnt) (a b : Int) (A1 : Option Addr) (c1 : Nat) (A2 : Option Addr) (c2 : Nat) (A3 : Option Addr) (c3 : Nat) (w : World) (hf : FM w f A1 c1 A2 c2 A3 c3) :
    Calls Try.prog 49 #[f.val A1 c1 A2 c2 A3 c3, .int .i32 a, .int .i32 b] w (LigIn f a b w) := by
  have hf1 := fm_box hf
  have hl1 := hf.l3
  unfold maxLen at hl1
  have HF := Lib.hid (hf1.below ((Below.refl _ _).alloc (Nat.le_refl _) (Obj.cells LZ 50)))
  have HB := Lib.hid (((Below.refl w.heap.size w).alloc (Nat.le_refl _) (Obj.cells (f.cs A1 c1 A2 c2 A3 c3) 38)).alloc (by simp) (Obj.cells LZ 50))
  have HK := Lib.hid ((Blk.new w 38 (f.cs A1 c1 A2 c2 A3 c3)).alloc (Obj.cells LZ 50))
  have hr0 := Blk.new (w.alloc (Obj.cells (f.cs A1 c1 A2 c2 A3 c3) 38)) 50 LZ
  rw [show (w.alloc (Obj.cells (f.cs A1 c1 A2 c2 A3 c3) 38)).heap.size = w.heap.size + 1 by simp] at hr0
  have HR := Lib.hid hr0
  clear hf hf1 hr0
  unfold Fnt.val
  go_enter Try.func49, Try.ntmps49
  go_wp2_with fail
  refine (hrv f A1 c1 A2 c2 A3 c3 _ HF.out).mono ?_
  rintro e w1 ⟨rfl, hb1⟩
  have HB1 := Lib.hid (HB.out.trans (hb1.mono HB.out.size))
  have HF1 := Lib.hid (HF.out.below hb1)
  have HK1 := Lib.hid (HK.out.below hb1 HK.out.lt)
  have HR1 := Lib.hid (HR.out.below hb1 HR.out.lt)
  clear hb1
  by_cases hv : vld f = 0
  · have hvb : (vld f == 0) = true := by simpa using hv
    have hvn : (vld f != 0) = false := by simpa using hv
    have HV := Lib.hid hv
    obtain ⟨N, hN⟩ : ∃ N, N = f.lig.length := ⟨_, rfl⟩
    have HN := Lib.hid hN
    rw [← hN] at hl1
    clear hN hv
    have HST := Lib.hid (show firstK Lig.a Lig.b a b f.lig = firstK Lig.a Lig.b a b (f.lig.drop 0) from rfl)
    go_wp2
    go_loopw [8] (fun sk wr => ∃ (k : Nat), sk = .int .i64 (k : Int) ∧ k ≤ N ∧ firstK Lig.a Lig.b a b f.lig = firstK Lig.a Lig.b a b (f.lig.drop k) ∧ Below w.heap.size w wr ∧ FM wr f A1 c1 A2 c2 A3 c3 ∧ Blk wr w.heap.size 38 (f.cs A1 c1 A2 c2 A3 c3) ∧ Blk wr (w.heap.size + 1) 50 LZ) (fun sk _ => N - (intOf sk).toNat)
    case atStart => exact ⟨0, rfl, by omega, HST.out, HB1.out, HF1.out, HK1.out, HR1.out⟩
    case round =>
      obtain ⟨k, rfl, hk, ho, hbr, hfr, hkr, hrr⟩ := hrel
      have HO := Lib.hid ho
      have HBR := Lib.hid hbr
      have HFR := Lib.hid hfr
      have HKR := Lib.hid hkr
      have HRR := Lib.hid hrr
      clear ho hbr hfr hkr hrr
      obtain ⟨g0, g1, g2, g3, g4, g5, g6, g7⟩ := box_cells HKR.out (Below.refl _ _)
      rw [← HN.out] at g7
      obtain ⟨z0, z1, z2, z3⟩ := lig_cells HRR.out
      have fr0 := HRR.out.frozen 0
      have fr1 := HRR.out.frozen 1
      have fr2 := HRR.out.frozen 2
      have fr3 := HRR.out.frozen 3
      by_cases hkn : k < N
      · have hk0 : (k : Int) < (N : Int) := by omega
        obtain ⟨x, bb, off, hx, hA, hbl, hc⟩ := elem_at (cells := Lig.cells) (size := 4) (fun _ => rfl) (by omega) HFR.out.r3 (Below.refl wr.heap.size wr) k (by rw [← HN.out]; exact hkn)
        subst hA
        obtain ⟨xa, xb, xg, xw⟩ := x
        have d0 : wr.cell? ⟨bb, off + k * 4, none⟩ = some (.int .i32 xa) := hc 0 _ (by omega) rfl
        have d1 : wr.cell? ⟨bb, off + k * 4 + 1, none⟩ = some (.int .i32 xb) := hc 1 _ (by omega) rfl
        have d2 : wr.cell? ⟨bb, off + k * 4 + 2, none⟩ = some (.int .i64 xg) := hc 2 _ (by omega) rfl
        have d3 : wr.cell? ⟨bb, off + k * 4 + 3, none⟩ = some (.int .i64 xw) := hc 3 _ (by omega) rfl
        have HD := Lib.hid (firstK_drop Lig.a Lig.b (a := a) (b := b) f.lig k _ hx)
        clear hc hx
        by_cases t1 : xa = a
        · have t1b : (xa == a) = true := by simpa using t1
          by_cases t2 : xb = b
          · have t2b : (xb == b) = true := by simpa using t2
            have hE : iLig f a b = some ⟨xa, xb, xg, xw⟩ := by simp only [iLig, HV.out, if_true]; rw [HO.out, HD.out, if_pos ⟨t1, t2⟩]
            have HE := Lib.hid hE
            obtain ⟨y0, y1, y2, y3⟩ := lig_cells (blk_set4 HRR.out (.int .i32 xa) (.int .i32 xb) (.int .i64 xg) (.int .i64 xw))
            clear hE t1 t2
            go_wp2
            exact bodyPost_ret (v := .tuple #[.agg #[.int .i32 xa, .int .i32 xb, .int .i64 xg, .int .i64 xw], .bool true]) (by simp [results, Try.results49, go_sem, y0, y1, y2, y3]) rfl
              ⟨by rw [HE.out]; rfl, below_set4 HBR.out (by omega) _ _ _ _⟩
          · have t2b : (xb == b) = false := by simpa using t2
            have HO2 := Lib.hid (show firstK Lig.a Lig.b a b f.lig = firstK Lig.a Lig.b a b (f.lig.drop (k + 1)) by rw [HO.out, HD.out, if_neg (fun h => t2 h.2)])
            go_wp2
            go_roundw
            case rel => exact ⟨k + 1, by go_num, by omega, HO2.out, HBR.out, HFR.out, HKR.out, HRR.out⟩
            case measure => simp [intOf]; omega
        · have t1b : (xa == a) = false := by simpa using t1
          have HO2 := Lib.hid (show firstK Lig.a Lig.b a b f.lig = firstK Lig.a Lig.b a b (f.lig.drop (k + 1)) by rw [HO.out, HD.out, if_neg (fun h => t1 h.1)])
          go_wp2
          go_roundw
          case rel => exact ⟨k + 1, by go_num, by omega, HO2.out, HBR.out, HFR.out, HKR.out, HRR.out⟩
          case measure => simp [intOf]; omega
      · obtain rfl : N = k := by omega
        have hns : ¬ ((N : Int) < (N : Int)) := by omega
        have hE : iLig f a b = none := by
          have : firstK Lig.a Lig.b a b f.lig = none := by rw [HO.out, List.drop_of_length_le (by rw [← HN.out]; exact Nat.le_refl _)]; rfl
          simp [iLig, HV.out, this]
        have HE := Lib.hid hE
        obtain ⟨y0, y1, y2, y3⟩ := lig_cells (blk_set4 HRR.out (.int .i32 0) (.int .i32 0) (.int .i64 0) (.int .i64 0))
        clear hE
        go_wp2
        exact bodyPost_ret (v := .tuple #[.agg LZ, .bool false]) (by simp [results, Try.results49, go_sem, y0, y1, y2, y3, LZ]) rfl
          ⟨by rw [HE.out]; rfl, below_set4 HBR.out (by omega) _ _ _ _⟩
  · have hvb : (vld f == 0) = false := by simpa using hv
    have hvn : (vld f != 0) = true := by simpa using hv
    have hE : iLig f a b = none := by simp [iLig, hv]
    have HE := Lib.hid hE
    obtain ⟨z0, z1, z2, z3⟩ := lig_cells HR1.out
    have fr0 := HR1.out.frozen 0
    have fr1 := HR1.out.frozen 1
    have fr2 := HR1.out.frozen 2
    have fr3 := HR1.out.frozen 3
    obtain ⟨y0, y1, y2, y3⟩ := lig_cells (blk_set4 HR1.out (.int .i32 0) (.int .i32 0) (.int .i64 0) (.int .i64 0))
    clear hv hE
    go_wp2
    exact bodyPost_ret (v := .tuple #[.agg LZ, .bool false]) (by simp [results, Try.results49, go_sem, y0, y1, y2, y3, LZ]) rfl
      ⟨by rw [HE.out]; rfl, below_set4 HB1.out (by omega) _ _ _ _⟩
end Go.Proofs.Ytagokefbbdlpcaa
