/- Ligature of the font layer walked. -/
import Derived.Test.YtagokefbbdlpcaaK5
namespace Go.Proofs.Ytagokefbbdlpcaa
set_option linter.unusedVariables false
set_option linter.unusedSimpArgs false
open Go.RowKit

def iLig (f : Fnt) (a b : Int) : Option Lig := if vld f = 0 then firstK Lig.a Lig.b a b f.lig else none
def LZ : Array Value := #[.int .i32 0, .int .i32 0, .int .i64 0, .int .i64 0]
def ligC (o : Option Lig) : Array Value := match o with | some x => #[.int .i32 x.a, .int .i32 x.b, .int .i64 x.g, .int .i64 x.w] | none => LZ
def LigIn (f : Fnt) (a b : Int) (w : World) (e : Ending) (w' : World) : Prop :=
  e = .returned (.tuple #[.agg (ligC (iLig f a b)), .bool (iLig f a b).isSome]) ∧ Below w.heap.size w w'

theorem lig_cells {w : World} {r : Nat} {u0 u1 u2 u3 : Value} (h : Blk w r 50 #[u0, u1, u2, u3]) :
    w.cell? ⟨r, 0, none⟩ = some u0 ∧ w.cell? ⟨r, 1, none⟩ = some u1 ∧ w.cell? ⟨r, 2, none⟩ = some u2 ∧ w.cell? ⟨r, 3, none⟩ = some u3 := by
  refine ⟨?_, ?_, ?_, ?_⟩ <;> (rw [h.cell]; rfl)
theorem blk_set4 {w : World} {r : Nat} (h : Blk w r 50 LZ) (u0 u1 u2 u3 : Value) :
    Blk ((((w.setCell ⟨r, 0, none⟩ u0).setCell ⟨r, 1, none⟩ u1).setCell ⟨r, 2, none⟩ u2).setCell ⟨r, 3, none⟩ u3) r 50 #[u0, u1, u2, u3] := by
  have := (((h.set_ 0 u0).set_ 1 u1).set_ 2 u2).set_ 3 u3
  simpa [LZ] using this
theorem below_set4 {w w' : World} {r H : Nat} (h : Below H w w') (hr : H ≤ r) (u0 u1 u2 u3 : Value) :
    Below H w ((((w'.setCell ⟨r, 0, none⟩ u0).setCell ⟨r, 1, none⟩ u1).setCell ⟨r, 2, none⟩ u2).setCell ⟨r, 3, none⟩ u3) :=
  (((h.setCell (p := ⟨r, 0, none⟩) hr _).setCell (p := ⟨r, 1, none⟩) hr _).setCell (p := ⟨r, 2, none⟩) hr _).setCell (p := ⟨r, 3, none⟩) hr _

theorem vld_short {f : Fnt} (hv : vld f = 0) : f.adv.length ≤ 100 ∧ f.ker.length ≤ 100 ∧ f.lig.length ≤ 100 ∧ kerOrd f.ker = true ∧ ligOrd f.lig = true := by
  obtain ⟨h1, _, h3⟩ := vld_zero hv
  simp only [ordB, Bool.and_eq_true] at h3
  simp only [longB, Bool.or_eq_false_iff, decide_eq_false_iff_not] at h1
  exact ⟨by omega, by omega, by omega, h3.2.1, h3.2.2⟩

set_option maxRecDepth 100000 in
set_option maxHeartbeats 4000000 in
theorem lig_any (f : Fnt) (a b : Int) (A1 : Option Addr) (c1 : Nat) (A2 : Option Addr) (c2 : Nat) (A3 : Option Addr) (c3 : Nat) (w : World) (hf : FM w f A1 c1 A2 c2 A3 c3) :
    Calls Try.prog 48 #[f.val A1 c1 A2 c2 A3 c3, .int .i32 a, .int .i32 b] w (LigIn f a b w) := by
  have hf1 := fm_box hf
  have HF := Lib.hid (hf1.below ((Below.refl _ _).alloc (Nat.le_refl _) (Obj.cells LZ 50)))
  have HB := Lib.hid (((Below.refl w.heap.size w).alloc (Nat.le_refl _) (Obj.cells (f.cs A1 c1 A2 c2 A3 c3) 38)).alloc (by simp) (Obj.cells LZ 50))
  have HK := Lib.hid ((Blk.new w 38 (f.cs A1 c1 A2 c2 A3 c3)).alloc (Obj.cells LZ 50))
  have hr0 := Blk.new (w.alloc (Obj.cells (f.cs A1 c1 A2 c2 A3 c3) 38)) 50 LZ
  rw [show (w.alloc (Obj.cells (f.cs A1 c1 A2 c2 A3 c3) 38)).heap.size = w.heap.size + 1 by simp] at hr0
  have HR := Lib.hid hr0
  clear hf hf1 hr0
  unfold Fnt.val
  go_enter Try.func48, Try.ntmps48
  go_wp2_with fail
  refine (validate_any f A1 c1 A2 c2 A3 c3 _ HF.out).mono ?_
  rintro e w1 ⟨rfl, hb1⟩
  have HB1 := Lib.hid (HB.out.trans (hb1.mono HB.out.size))
  have HF1 := Lib.hid (HF.out.below hb1)
  have HK1 := Lib.hid (HK.out.below hb1 HK.out.lt)
  have HR1 := Lib.hid (HR.out.below hb1 HR.out.lt)
  clear hb1
  by_cases hv : vld f = 0
  · have hvb : (vld f == 0) = true := by simpa using hv
    have hvn : (vld f != 0) = false := by simpa using hv
    have HV := Lib.hid hv
    have US := Lib.hid (vld_short hv)
    obtain ⟨g0, g1, g2, g3, g4, g5, g6, g7⟩ := box_cells HK1.out (Below.refl _ _)
    clear hv
    go_wp2_with fail
    refine (bsl_any f.lig A3 c3 a b _ HF1.out.r3 US.out.2.2.1 US.out.2.2.2.2).mono ?_
    rintro e w2 ⟨i, fd, rfl, hb2, hft, hff⟩
    have HB2 := Lib.hid (HB1.out.trans (hb2.mono HB1.out.size))
    have HF2 := Lib.hid (HF1.out.below hb2)
    have HK2 := Lib.hid (HK1.out.below hb2 HK1.out.lt)
    have HR2 := Lib.hid (HR1.out.below hb2 HR1.out.lt)
    have HFT := Lib.hid hft
    have HFF := Lib.hid hff
    clear hb2 hft hff g0 g1 g2 g3 g4 g5 g6 g7
    obtain ⟨z0, z1, z2, z3⟩ := lig_cells HR2.out
    have fr0 := HR2.out.frozen 0
    have fr1 := HR2.out.frozen 1
    have fr2 := HR2.out.frozen 2
    have fr3 := HR2.out.frozen 3
    cases fd with
    | false =>
      have hE : iLig f a b = none := by simp [iLig, HV.out, HFF.out rfl]
      have HE := Lib.hid hE
      clear hE
      obtain ⟨y0, y1, y2, y3⟩ := lig_cells (blk_set4 HR2.out (.int .i32 0) (.int .i32 0) (.int .i64 0) (.int .i64 0))
      go_wp2
      exact bodyPost_ret (v := .tuple #[.agg LZ, .bool false]) (by simp [results, Try.results48, go_sem, y0, y1, y2, y3, LZ]) rfl
        ⟨by rw [HE.out]; rfl, below_set4 HB2.out (by omega) _ _ _ _⟩
    | true =>
      obtain ⟨x, hx, e1, e2, e3⟩ := HFT.out rfl
      have hE : iLig f a b = some x := by simp [iLig, HV.out, e3]
      have HE := Lib.hid hE
      have hil := (List.getElem?_eq_some_iff.1 hx).1
      obtain ⟨x', bb, off, hx', hA, hbl, hc⟩ := elem_at (cells := Lig.cells) (size := 4) (fun _ => rfl) (by omega) HF2.out.r3 (Below.refl w2.heap.size w2) i hil
      rw [hx] at hx'
      injection hx' with hx'
      subst hx' hA
      obtain ⟨xa, xb, xg, xw⟩ := x
      have d0 : w2.cell? ⟨bb, off + i * 4, none⟩ = some (.int .i32 xa) := hc 0 _ (by omega) rfl
      have d1 : w2.cell? ⟨bb, off + i * 4 + 1, none⟩ = some (.int .i32 xb) := hc 1 _ (by omega) rfl
      have d2 : w2.cell? ⟨bb, off + i * 4 + 2, none⟩ = some (.int .i64 xg) := hc 2 _ (by omega) rfl
      have d3 : w2.cell? ⟨bb, off + i * 4 + 3, none⟩ = some (.int .i64 xw) := hc 3 _ (by omega) rfl
      obtain ⟨g0, g1, g2, g3, g4, g5, g6, g7⟩ := box_cells HK2.out (Below.refl _ _)
      have hil' : (i : Int) < (f.lig.length : Int) := by omega
      obtain ⟨y0, y1, y2, y3⟩ := lig_cells (blk_set4 HR2.out (.int .i32 xa) (.int .i32 xb) (.int .i64 xg) (.int .i64 xw))
      clear e1 e2 e3 hx hc hE
      go_wp2
      exact bodyPost_ret (v := .tuple #[.agg #[.int .i32 xa, .int .i32 xb, .int .i64 xg, .int .i64 xw], .bool true]) (by simp [results, Try.results48, go_sem, y0, y1, y2, y3]) rfl
        ⟨by rw [HE.out]; rfl, below_set4 HB2.out (by omega) _ _ _ _⟩
  · have hvb : (vld f == 0) = false := by simpa using hv
    have hvn : (vld f != 0) = true := by simpa using hv
    have hE : iLig f a b = none := by simp [iLig, hv]
    have HE := Lib.hid hE
    obtain ⟨z0, z1, z2, z3⟩ := lig_cells HR1.out
    have fr0 := HR1.out.frozen 0
    have fr1 := HR1.out.frozen 1
    have fr2 := HR1.out.frozen 2
    have fr3 := HR1.out.frozen 3
    obtain ⟨y0, y1, y2, y3⟩ := lig_cells (blk_set4 HR1.out (.int .i32 0) (.int .i32 0) (.int .i64 0) (.int .i64 0))
    clear hv hE
    go_wp2
    exact bodyPost_ret (v := .tuple #[.agg LZ, .bool false]) (by simp [results, Try.results48, go_sem, y0, y1, y2, y3, LZ]) rfl
      ⟨by rw [HE.out]; rfl, below_set4 HB1.out (by omega) _ _ _ _⟩
end Go.Proofs.Ytagokefbbdlpcaa
