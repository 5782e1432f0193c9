/- Kern of the font layer and of the reference walked. -/
import Derived.Test.YtagokefbbdlpcaaK3
import Derived.Test.YtagokefbbdlpcaaR2
namespace Go.Proofs.Ytagokefbbdlpcaa
set_option linter.unusedVariables false
set_option linter.unusedSimpArgs false
open Go.RowKit

def kerV (f : Fnt) (s : Int) (o : Option Ker) : Int := match o with | some k => rnd (k.d * s) f.u | none => 0
def iKer (f : Fnt) (s a b : Int) : Int := if useB f s then kerV f s (firstK Ker.a Ker.b a b f.ker) else 0

theorem use_short {f : Fnt} {s : Int} (h : useB f s = true) : f.adv.length ≤ 100 ∧ f.ker.length ≤ 100 ∧ f.lig.length ≤ 100 ∧ kerOrd f.ker = true ∧ ligOrd f.lig = true := by
  obtain ⟨hv, _⟩ := use_bd h
  obtain ⟨h1, _, h3⟩ := vld_zero hv
  simp only [ordB, Bool.and_eq_true] at h3
  simp only [longB, Bool.or_eq_false_iff, decide_eq_false_iff_not] at h1
  exact ⟨by omega, by omega, by omega, h3.2.1, h3.2.2⟩

set_option maxRecDepth 100000 in
set_option maxHeartbeats 4000000 in
theorem kern_any (f : Fnt) (s a b : Int) (A1 : Option Addr) (c1 : Nat) (A2 : Option Addr) (c2 : Nat) (A3 : Option Addr) (c3 : Nat) (w : World) (hf : FM w f A1 c1 A2 c2 A3 c3) :
    Calls Try.prog 52 #[f.val A1 c1 A2 c2 A3 c3, .int .i64 s, .int .i32 a, .int .i32 b] w (Cls (iKer f s a b) w) := by
  have HF := Lib.hid (fm_box hf)
  have HB := Lib.hid ((Below.refl w.heap.size w).alloc (Nat.le_refl _) (Obj.cells (f.cs A1 c1 A2 c2 A3 c3) 38))
  have HK := Lib.hid (Blk.new w 38 (f.cs A1 c1 A2 c2 A3 c3))
  clear hf
  unfold Fnt.val
  go_enter Try.func52, Try.ntmps52
  go_wp2_with fail
  refine (usable_any f s A1 c1 A2 c2 A3 c3 _ HF.out).mono ?_
  rintro e w1 ⟨rfl, hb1⟩
  have HB1 := Lib.hid (HB.out.trans (hb1.mono HB.out.size))
  have HF1 := Lib.hid (HF.out.below hb1)
  have HK1 := Lib.hid (HK.out.below hb1 HK.out.lt)
  clear hb1
  cases hu : useB f s
  · have HE := Lib.hid (show iKer f s a b = 0 by simp [iKer, hu])
    clear hu
    go_wp2
    go_ret
    exact ⟨by rw [HE.out]; rfl, HB1.out⟩
  · have HU := Lib.hid hu
    have US := Lib.hid (use_short hu)
    clear hu
    obtain ⟨g0, g1, g2, g3, g4, g5, g6, g7⟩ := box_cells HK1.out (Below.refl _ _)
    go_wp2_with fail
    refine (bsk_any f.ker A2 c2 a b _ HF1.out.r2 US.out.2.1 US.out.2.2.2.1).mono ?_
    rintro e w2 ⟨i, fd, rfl, hb2, hft, hff⟩
    have HB2 := Lib.hid (HB1.out.trans (hb2.mono HB1.out.size))
    have HF2 := Lib.hid (HF1.out.below hb2)
    have HK2 := Lib.hid (HK1.out.below hb2 HK1.out.lt)
    have HFT := Lib.hid hft
    have HFF := Lib.hid hff
    clear hb2 hft hff g0 g1 g2 g3 g4 g5 g6 g7
    cases fd with
    | false =>
      have HE := Lib.hid (show iKer f s a b = 0 by simp [iKer, HU.out, HFF.out rfl, kerV])
      go_wp2
      go_ret
      exact ⟨by rw [HE.out]; rfl, HB2.out⟩
    | true =>
      obtain ⟨x, hx, e1, e2, e3⟩ := HFT.out rfl
      obtain ⟨_, hh, hs, _, hka, _⟩ := use_bd HU.out
      obtain ⟨k1, _⟩ := head_bd hh
      have hxo := List.all_eq_true.1 hka x (List.mem_of_getElem? hx)
      simp only [kerOk, Bool.and_eq_true, inB_iff] at hxo
      have hm := Lib.hid (mul_bd (v := x.d) (by omega) hs)
      have HE := Lib.hid (show iKer f s a b = rnd (x.d * s) f.u by simp [iKer, HU.out, e3, kerV])
      have K1 := Lib.hid k1
      have hil := (List.getElem?_eq_some_iff.1 hx).1
      obtain ⟨x', bb, off, hx', hA, hbl, hc⟩ := elem_at (cells := Ker.cells) (size := 3) (fun _ => rfl) (by omega) HF2.out.r2 (Below.refl w2.heap.size w2) i hil
      rw [hx] at hx'
      injection hx' with hx'
      subst hx' hA
      obtain ⟨xa, xb, xd⟩ := x
      have d2 : w2.cell? ⟨bb, off + i * 3 + 2, none⟩ = some (.int .i64 xd) := hc 2 _ (by omega) rfl
      obtain ⟨g0, g1, g2, g3, g4, g5, g6, g7⟩ := box_cells HK2.out (Below.refl _ _)
      have hil' : (i : Int) < (f.ker.length : Int) := by omega
      have hlt0 : w.heap.size < w2.heap.size := HK2.out.lt
      clear hxo hka hh hs k1 e1 e2 e3 hx hc
      go_upto_region 6 with (fail)
      have HBX := Lib.hid (show Below w2.heap.size w2 w2.drew from (Below.refl _ _).drew)
      go_region_held3 (fun w' => w'.cell? ⟨w.heap.size, 0, none⟩ = some (.int .i64 f.u) ∧ w'.cell? ⟨w.heap.size, 1, none⟩ = some (.int .i64 f.a) ∧ w'.cell? ⟨w.heap.size, 2, none⟩ = some (.int .i64 f.d) ∧ w'.cell? ⟨w.heap.size, 3, none⟩ = some (.int .i64 f.g) ∧ w'.cell? ⟨w.heap.size, 4, none⟩ = some (.int .i64 f.df) ∧
        w'.cell? ⟨w.heap.size, 5, none⟩ = some (.slice A1 f.adv.length c1) ∧ w'.cell? ⟨w.heap.size, 6, none⟩ = some (.slice (some ⟨bb, off, none⟩) f.ker.length c2) ∧ w'.cell? ⟨w.heap.size, 7, none⟩ = some (.slice A3 f.lig.length c3) ∧ w'.cell? ⟨bb, off + i * 3 + 2, none⟩ = some (.int .i64 xd)) (first | with_reducible assumption | go_keep)
        (first
          | (go_at_call 46; refine (scaled_any f s xd A1 c1 (some ⟨bb, off, none⟩) c2 A3 c3 _ K1.out hm.out).mono ?_; rintro e w5 ⟨rfl, hb5⟩
             have HBX := Lib.hid (HBX.out.trans (hb5.mono HBX.out.size))
             have hS := box_cells HK2.out HBX.out
             have hS2 := (HBX.out.cell (p := ⟨bb, off + i * 3 + 2, none⟩) hbl).trans d2
             clear hb5)
          | fail)
      all_goals
        go_wp2
        go_ret
        exact ⟨by rw [HE.out]; rfl, HB2.out.trans (HBX.out.mono HB2.out.size)⟩
end Go.Proofs.Ytagokefbbdlpcaa
