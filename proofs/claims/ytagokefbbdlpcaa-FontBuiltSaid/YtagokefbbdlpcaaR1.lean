/- The reference's good, Descent, Ascent, Height of the font layer walked (its Validate a premise, paid later). -/
import Derived.Test.YtagokefbbdlpcaaF9
import Derived.Outline
namespace Go.Proofs.Ytagokefbbdlpcaa
set_option linter.unusedVariables false
set_option linter.unusedSimpArgs false
open Go.RowKit

/-- The reference's Validate answers as vld. -/
def RV : Prop := ∀ (f : Fnt) (A1 : Option Addr) (c1 : Nat) (A2 : Option Addr) (c2 : Nat) (A3 : Option Addr) (c3 : Nat) (w : World), FM w f A1 c1 A2 c2 A3 c3 → Calls Try.prog 50 #[f.val A1 c1 A2 c2 A3 c3] w (Cls (vld f) w)

theorem good_any (hv : RV) (f : Fnt) (size : Int) (A1 : Option Addr) (c1 : Nat) (A2 : Option Addr) (c2 : Nat) (A3 : Option Addr) (c3 : Nat) (w : World) (hf : FM w f A1 c1 A2 c2 A3 c3) :
    Calls Try.prog 72 #[f.val A1 c1 A2 c2 A3 c3, .int .i64 size] w (Blb (useB f size) w) := by
  have HF := Lib.hid (fm_box hf)
  have HB := Lib.hid ((Below.refl w.heap.size w).alloc (Nat.le_refl _) (Obj.cells (f.cs A1 c1 A2 c2 A3 c3) 38))
  clear hf
  unfold Fnt.val
  go_enter Try.func72, Try.ntmps72
  go_wp2_with fail
  refine (hv f A1 c1 A2 c2 A3 c3 _ HF.out).mono ?_
  rintro e w1 ⟨rfl, hb1⟩
  have HB1 := Lib.hid (HB.out.trans (hb1.mono HB.out.size))
  clear hb1
  by_cases hz : vld f = 0
  · have hd : (vld f == 0) = true := by simpa using hz
    by_cases h1 : 1 ≤ size
    · by_cases h2 : size ≤ 1000
      · have HE := Lib.hid (show useB f size = true by simp [useB, inB, hz, h1, h2])
        clear hz
        go_wp2
        go_ret
        exact ⟨by rw [HE.out]; rfl, HB1.out⟩
      · have h2b : decide (size ≤ 1000) = false := by simpa using h2
        have H2B := Lib.hid h2b
        clear h2b
        have HE := Lib.hid (show useB f size = false by simp [useB, inB, hz, h1, h2])
        clear hz
        go_wp2
        go_ret
        exact ⟨ret_bool (show decide (size ≤ 1000) = useB f size by rw [HE.out]; exact H2B.out), HB1.out⟩
    · have HE := Lib.hid (show useB f size = false by simp [useB, inB, hz, h1])
      clear hz
      go_wp2
      go_ret
      exact ⟨by rw [HE.out]; rfl, HB1.out⟩
  · have hd : (vld f == 0) = false := by simpa using hz
    have HE := Lib.hid (show useB f size = false by simp [useB, hz])
    clear hz
    go_wp2
    go_ret
    exact ⟨by rw [HE.out]; rfl, HB1.out⟩

theorem rdescent_any (hv : RV) (f : Fnt) (s : Int) (A1 : Option Addr) (c1 : Nat) (A2 : Option Addr) (c2 : Nat) (A3 : Option Addr) (c3 : Nat) (w : World) (hf : FM w f A1 c1 A2 c2 A3 c3) :
    Calls Try.prog 55 #[f.val A1 c1 A2 c2 A3 c3, .int .i64 s] w (Cls (iDes f s) w) := by
  have HF := Lib.hid (fm_box hf)
  have HB := Lib.hid ((Below.refl w.heap.size w).alloc (Nat.le_refl _) (Obj.cells (f.cs A1 c1 A2 c2 A3 c3) 38))
  have HK := Lib.hid (Blk.new w 38 (f.cs A1 c1 A2 c2 A3 c3))
  clear hf
  unfold Fnt.val
  go_enter Try.func55, Try.ntmps55
  go_wp2_with fail
  refine (good_any hv f s A1 c1 A2 c2 A3 c3 _ HF.out).mono ?_
  rintro e w1 ⟨rfl, hb1⟩
  obtain ⟨g0, g1, g2, g3, g4, g5, g6, g7⟩ := box_cells HK.out hb1
  have HB1 := Lib.hid (HB.out.trans (hb1.mono HB.out.size))
  clear hb1
  cases hu : useB f s
  · have HE := Lib.hid (show iDes f s = 0 by simp [iDes, hu])
    clear hu
    go_wp2
    go_ret
    exact ⟨by rw [HE.out]; rfl, HB1.out⟩
  · have HE := Lib.hid (show iDes f s = rnd (f.d * s) f.u by simp [iDes, hu])
    obtain ⟨_, hh, hs, _⟩ := use_bd hu
    obtain ⟨k1, k2, k3, k4, k5, k6⟩ := head_bd hh
    clear hu hh
    have hm := Lib.hid (mul_bd (v := f.d) (by omega) hs)
    go_wp2_with fail
    refine (rscaled_any f s f.d A1 c1 A2 c2 A3 c3 _ k1 hm.out).mono ?_
    rintro e w2 ⟨rfl, hb2⟩
    have HB2 := Lib.hid (HB1.out.trans (hb2.mono HB1.out.size))
    clear hb2
    go_wp2
    go_ret
    exact ⟨by rw [HE.out]; rfl, HB2.out⟩

theorem rascent_any (hv : RV) (f : Fnt) (s : Int) (A1 : Option Addr) (c1 : Nat) (A2 : Option Addr) (c2 : Nat) (A3 : Option Addr) (c3 : Nat) (w : World) (hf : FM w f A1 c1 A2 c2 A3 c3) :
    Calls Try.prog 54 #[f.val A1 c1 A2 c2 A3 c3, .int .i64 s] w (Cls (iAsc f s) w) := by
  have HF := Lib.hid (fm_box hf)
  have HB := Lib.hid ((Below.refl w.heap.size w).alloc (Nat.le_refl _) (Obj.cells (f.cs A1 c1 A2 c2 A3 c3) 38))
  have HK := Lib.hid (Blk.new w 38 (f.cs A1 c1 A2 c2 A3 c3))
  clear hf
  unfold Fnt.val
  go_enter Try.func54, Try.ntmps54
  go_wp2_with fail
  refine (good_any hv f s A1 c1 A2 c2 A3 c3 _ HF.out).mono ?_
  rintro e w1 ⟨rfl, hb1⟩
  obtain ⟨g0, g1, g2, g3, g4, g5, g6, g7⟩ := box_cells HK.out hb1
  have HB1 := Lib.hid (HB.out.trans (hb1.mono HB.out.size))
  have HF1 := Lib.hid (HF.out.below hb1)
  have HK1 := Lib.hid (HK.out.below hb1 HK.out.lt)
  clear hb1
  cases hu : useB f s
  · have HE := Lib.hid (show iAsc f s = 0 by simp [iAsc, hu])
    clear hu
    go_wp2
    go_ret
    exact ⟨by rw [HE.out]; rfl, HB1.out⟩
  · have HU := Lib.hid hu
    obtain ⟨_, hh, hs, _⟩ := use_bd hu
    obtain ⟨k1, k2, k3, k4, k5, k6⟩ := head_bd hh
    have HD := Lib.hid (show iDes f s = rnd (f.d * s) f.u by simp [iDes, hu])
    clear hu hh
    have hm := Lib.hid (mul_bd (v := f.a) (by omega) hs)
    have hmd := Lib.hid (mul_bd (v := f.d) (by omega) hs)
    have K1 := Lib.hid k1
    go_wp2_with fail
    refine (rscaled_any f s f.a A1 c1 A2 c2 A3 c3 _ k1 hm.out).mono ?_
    rintro e w2 ⟨rfl, hb2⟩
    have HB2 := Lib.hid (HB1.out.trans (hb2.mono HB1.out.size))
    have HF2 := Lib.hid (HF1.out.below hb2)
    obtain ⟨m0, m1, m2, m3, m4, m5, m6, m7⟩ := box_cells HK1.out hb2
    clear hb2 g0 g1 g2 g3 g4 g5 g6 g7
    obtain ⟨v, hv⟩ : ∃ v, v = rnd (f.a * s) f.u := ⟨_, rfl⟩
    have HV := Lib.hid hv
    rw [← hv]
    clear hv
    by_cases hz : v = 0
    · have hd : (v == 0) = true := by simpa using hz
      have HZ := Lib.hid hz
      clear hz
      go_wp2_with fail
      refine (rscaled_any f s f.d A1 c1 A2 c2 A3 c3 _ K1.out hmd.out).mono ?_
      rintro e w3 ⟨rfl, hb3⟩
      rw [← HD.out]
      have HB3 := Lib.hid (HB2.out.trans (hb3.mono HB2.out.size))
      clear hb3
      by_cases hy : iDes f s = 0
      · have hd2 : (iDes f s == 0) = true := by simpa using hy
        have HE := Lib.hid (show iAsc f s = 1 by simp [iAsc, HU.out, ← HV.out, HZ.out, ← HD.out, hy])
        clear hy
        go_wp2
        go_ret
        exact ⟨by rw [HE.out]; rfl, HB3.out⟩
      · have hd2 : (iDes f s == 0) = false := by simpa using hy
        have HE := Lib.hid (show iAsc f s = v by simp only [iAsc, HU.out, if_true]; rw [← HV.out, ← HD.out, if_neg (fun h => hy h.2)])
        clear hy
        go_wp2
        go_ret
        exact ⟨by rw [HE.out]; rfl, HB3.out⟩
    · have hd : (v == 0) = false := by simpa using hz
      have HE := Lib.hid (show iAsc f s = v by simp only [iAsc, HU.out, if_true]; rw [← HV.out, if_neg (fun h => hz h.1)])
      clear hz
      go_wp2
      go_ret
      exact ⟨by rw [HE.out]; rfl, HB2.out⟩

set_option maxRecDepth 100000 in
set_option maxHeartbeats 4000000 in
theorem rheight_any (hv : RV) (f : Fnt) (s : Int) (A1 : Option Addr) (c1 : Nat) (A2 : Option Addr) (c2 : Nat) (A3 : Option Addr) (c3 : Nat) (w : World) (hf : FM w f A1 c1 A2 c2 A3 c3) :
    Calls Try.prog 56 #[f.val A1 c1 A2 c2 A3 c3, .int .i64 s] w (Cls (iHei f s) w) := by
  have HF := Lib.hid (fm_box hf)
  have HB := Lib.hid ((Below.refl w.heap.size w).alloc (Nat.le_refl _) (Obj.cells (f.cs A1 c1 A2 c2 A3 c3) 38))
  have HK := Lib.hid (Blk.new w 38 (f.cs A1 c1 A2 c2 A3 c3))
  clear hf
  unfold Fnt.val
  go_enter Try.func56, Try.ntmps56
  go_wp2_with fail
  refine (good_any hv f s A1 c1 A2 c2 A3 c3 _ HF.out).mono ?_
  rintro e w1 ⟨rfl, hb1⟩
  obtain ⟨g0, g1, g2, g3, g4, g5, g6, g7⟩ := box_cells HK.out hb1
  have HB1 := Lib.hid (HB.out.trans (hb1.mono HB.out.size))
  have HF1 := Lib.hid (HF.out.below hb1)
  have HK1 := Lib.hid (HK.out.below hb1 HK.out.lt)
  clear hb1
  cases hu : useB f s
  · have HE := Lib.hid (show iHei f s = 0 by simp [iHei, hu])
    clear hu
    go_wp2
    go_ret
    exact ⟨by rw [HE.out]; rfl, HB1.out⟩
  · have HU := Lib.hid hu
    obtain ⟨_, hh, hs, _⟩ := use_bd hu
    obtain ⟨k1, k2, k3, k4, k5, k6⟩ := head_bd hh
    have HE := Lib.hid (show iHei f s = iAsc f s + iDes f s + rnd (f.g * s) f.u by simp [iHei, hu])
    have hm1 := mul_bd (v := f.a) (by omega) hs
    have hm2 := mul_bd (v := f.d) (by omega) hs
    have hm3 := mul_bd (v := f.g) (by omega) hs
    have q1 := rnd_bd hm1 (b := f.u) (by omega)
    have q2 := rnd_bd hm2 (b := f.u) (by omega)
    have q3 := rnd_bd hm3 (b := f.u) (by omega)
    have p1 : -20000001 ≤ iAsc f s ∧ iAsc f s ≤ 20000001 := by simp only [iAsc, hu, if_true]; split <;> omega
    have p2 : -20000001 ≤ iDes f s ∧ iDes f s ≤ 20000001 := by simp only [iDes, hu, if_true]; exact q2
    have HM3 := Lib.hid hm3
    have K1 := Lib.hid k1
    clear hu hh hm1 hm2 hm3 q1 q2 k1 k2 k3 k4 k5 k6 hs
    obtain ⟨x, hx⟩ : ∃ x, x = iAsc f s := ⟨_, rfl⟩
    obtain ⟨y, hy⟩ : ∃ y, y = iDes f s := ⟨_, rfl⟩
    obtain ⟨z, hz⟩ : ∃ z, z = rnd (f.g * s) f.u := ⟨_, rfl⟩
    have CA := Lib.hid (fun w hf => (show Calls Try.prog 54 #[f.val A1 c1 A2 c2 A3 c3, .int .i64 s] w (Cls x w) by rw [hx]; exact rascent_any hv f s A1 c1 A2 c2 A3 c3 w hf))
    have CD := Lib.hid (fun w hf => (show Calls Try.prog 55 #[f.val A1 c1 A2 c2 A3 c3, .int .i64 s] w (Cls y w) by rw [hy]; exact rdescent_any hv f s A1 c1 A2 c2 A3 c3 w hf))
    have CS := Lib.hid (fun w => (show Calls Try.prog 73 #[f.val A1 c1 A2 c2 A3 c3, .int .i64 s, .int .i64 f.g] w (Cls z w) by rw [hz]; exact rscaled_any f s f.g A1 c1 A2 c2 A3 c3 w K1.out HM3.out))
    rw [← hx] at p1
    rw [← hy] at p2
    rw [← hz] at q3
    have HE2 := Lib.hid (show iHei f s = x + y + z by rw [HE.out, hx, hy, hz])
    obtain ⟨a1, a2⟩ := p1
    obtain ⟨a3, a4⟩ := p2
    obtain ⟨a5, a6⟩ := q3
    have w1' : IntKind.i64.wrap (x + y) = x + y := IntWalk.i64_in _ (by omega)
    have w2' : IntKind.i64.wrap (x + y + z) = x + y + z := IntWalk.i64_in _ (by omega)
    have W1 := Lib.hid w1'
    have W2 := Lib.hid w2'
    clear hx hy hz w1' w2'
    have hlt : w.heap.size < w1.heap.size := HK1.out.lt
    go_wp2
    have HBX := Lib.hid (show Below w1.heap.size w1 w1.drew from (Below.refl _ _).drew)
    have hS0 := (show w1.cell? ⟨w.heap.size, 0, none⟩ = some (.int .i64 f.u) ∧ w1.cell? ⟨w.heap.size, 1, none⟩ = some (.int .i64 f.a) ∧ w1.cell? ⟨w.heap.size, 2, none⟩ = some (.int .i64 f.d) ∧ w1.cell? ⟨w.heap.size, 3, none⟩ = some (.int .i64 f.g) ∧ w1.cell? ⟨w.heap.size, 4, none⟩ = some (.int .i64 f.df) ∧
    w1.cell? ⟨w.heap.size, 5, none⟩ = some (.slice A1 f.adv.length c1) ∧ w1.cell? ⟨w.heap.size, 6, none⟩ = some (.slice A2 f.ker.length c2) ∧ w1.cell? ⟨w.heap.size, 7, none⟩ = some (.slice A3 f.lig.length c3) from ⟨g0, g1, g2, g3, g4, g5, g6, g7⟩)
    clear g0 g1 g2 g3 g4 g5 g6 g7
    have e1 := W1.out
    have e2 := W2.out
    go_region_held3 (fun w' => w'.cell? ⟨w.heap.size, 0, none⟩ = some (.int .i64 f.u) ∧ w'.cell? ⟨w.heap.size, 1, none⟩ = some (.int .i64 f.a) ∧ w'.cell? ⟨w.heap.size, 2, none⟩ = some (.int .i64 f.d) ∧ w'.cell? ⟨w.heap.size, 3, none⟩ = some (.int .i64 f.g) ∧ w'.cell? ⟨w.heap.size, 4, none⟩ = some (.int .i64 f.df) ∧
    w'.cell? ⟨w.heap.size, 5, none⟩ = some (.slice A1 f.adv.length c1) ∧ w'.cell? ⟨w.heap.size, 6, none⟩ = some (.slice A2 f.ker.length c2) ∧ w'.cell? ⟨w.heap.size, 7, none⟩ = some (.slice A3 f.lig.length c3)) (first | with_reducible assumption | go_keep)
      (first
        | (go_at_call 54; refine (CA.out _ (HF1.out.below HBX.out)).mono ?_; rintro e w2 ⟨rfl, hb2⟩
           have HBX := Lib.hid (HBX.out.trans (hb2.mono HBX.out.size))
           have hS := box_cells HK1.out HBX.out
           clear hb2)
        | (go_at_call 55; refine (CD.out _ (HF1.out.below HBX.out)).mono ?_; rintro e w2 ⟨rfl, hb2⟩
           have HBX := Lib.hid (HBX.out.trans (hb2.mono HBX.out.size))
           have hS := box_cells HK1.out HBX.out
           clear hb2)
        | (go_at_call 73; refine (CS.out _).mono ?_; rintro e w2 ⟨rfl, hb2⟩
           have HBX := Lib.hid (HBX.out.trans (hb2.mono HBX.out.size))
           have hS := box_cells HK1.out HBX.out
           clear hb2)
        | fail)
    all_goals
      clear e1 e2
      go_wp2
      go_ret
      exact ⟨by rw [HE2.out]; rfl, HB1.out.trans (HBX.out.mono HB1.out.size)⟩
end Go.Proofs.Ytagokefbbdlpcaa
