/- Descent, Ascent, Height, Advance of the font layer walked. -/
import Derived.Test.YtagokefbbdlpcaaF6
namespace Go.Proofs.Ytagokefbbdlpcaa
set_option linter.unusedVariables false
set_option linter.unusedSimpArgs false
open Go.RowKit

theorem inB_iff {n lo hi : Int} : inB n lo hi = true ↔ lo ≤ n ∧ n ≤ hi := by simp [inB]
theorem head_bd {f : Fnt} (h : headOk f = true) : (16 ≤ f.u ∧ f.u ≤ 4096) ∧ (0 ≤ f.a ∧ f.a ≤ 4096) ∧ (0 ≤ f.d ∧ f.d ≤ 4096) ∧ (0 ≤ f.g ∧ f.g ≤ 4096) ∧ 1 ≤ f.a + f.d ∧ (0 ≤ f.df ∧ f.df ≤ 4096) := by
  simp only [headOk, Bool.and_eq_true, inB_iff, decide_eq_true_eq] at h
  exact h
theorem vld_zero {f : Fnt} (h : vld f = 0) : longB f = false ∧ rangesB f = true ∧ ordB f = true := by
  unfold vld at h
  split at h
  · omega
  · rename_i h1
    split at h
    · rename_i h2
      split at h
      · rename_i h3
        exact ⟨by simpa using h1, h2, h3⟩
      · omega
    · omega
theorem use_bd {f : Fnt} {s : Int} (h : useB f s = true) : vld f = 0 ∧ headOk f = true ∧ (1 ≤ s ∧ s ≤ 1000) ∧ f.adv.all advOk = true ∧ f.ker.all kerOk = true ∧ f.lig.all ligOk = true := by
  simp only [useB, Bool.and_eq_true, inB_iff, decide_eq_true_eq] at h
  obtain ⟨_, h2, _⟩ := vld_zero h.2
  simp only [rangesB, Bool.and_eq_true] at h2
  exact ⟨h.2, h2.1, h.1, h2.2.1, h2.2.2.1, h2.2.2.2⟩
theorem mul_bd {v s : Int} (hv : -4096 ≤ v ∧ v ≤ 4096) (hs : 1 ≤ s ∧ s ≤ 1000) : -10000000 ≤ v * s ∧ v * s ≤ 10000000 := by
  have h1 := Int.mul_nonneg (show 0 ≤ 4096 - v by omega) (show 0 ≤ s by omega)
  have h2 := Int.mul_nonneg (show 0 ≤ 4096 + v by omega) (show 0 ≤ s by omega)
  rw [Int.sub_mul] at h1
  rw [Int.add_mul] at h2
  omega
theorem rnd_bd {a b : Int} (ha : -10000000 ≤ a ∧ a ≤ 10000000) (hb : 1 ≤ b ∧ b ≤ 4096) : -20000001 ≤ rnd a b ∧ rnd a b ≤ 20000001 := by
  unfold rnd
  constructor
  · refine Int.le_ediv_of_mul_le (by omega) ?_
    have := Int.mul_le_mul_of_nonneg_left (show (1 : Int) ≤ 2 * b by omega) (show (0 : Int) ≤ 20000001 by omega)
    have e : -20000001 * (2 * b) = -(20000001 * (2 * b)) := by rw [Int.neg_mul]
    omega
  · have h1 : (2 * a + b) / (2 * b) < 20000002 := by
      refine Int.ediv_lt_of_lt_mul (by omega) ?_
      have := Int.mul_le_mul_of_nonneg_left (show (1 : Int) ≤ 2 * b by omega) (show (0 : Int) ≤ 20000002 by omega)
      omega
    omega

def iDes (f : Fnt) (s : Int) : Int := if useB f s then rnd (f.d * s) f.u else 0
def iAsc (f : Fnt) (s : Int) : Int := if useB f s then (if rnd (f.a * s) f.u = 0 ∧ rnd (f.d * s) f.u = 0 then 1 else rnd (f.a * s) f.u) else 0
def iHei (f : Fnt) (s : Int) : Int := if useB f s then iAsc f s + iDes f s + rnd (f.g * s) f.u else 0
/-- The width of the last entry that holds r. -/
def lastW : Int → List Adv → Int → Int
  | v, [], _ => v
  | v, x :: t, r => lastW (if x.f ≤ r ∧ r ≤ x.t then x.w else v) t r
def mute (r : Int) : Bool := decide (1 ≤ (rfind r).c ∧ (rfind r).c ≤ 5)
def iAdv (f : Fnt) (s r : Int) : Int := if useB f s then (if mute r then 0 else rnd (lastW f.df f.adv r * s) f.u) else 0

/-- The cells of a boxed font behind a call. -/
theorem box_cells {w w1 : World} {f : Fnt} {A1 A2 A3 : Option Addr} {c1 c2 c3 H : Nat} (h : Blk w H 38 (f.cs A1 c1 A2 c2 A3 c3)) (hb : Below w.heap.size w w1) :
    w1.cell? ⟨H, 0, none⟩ = some (.int .i64 f.u) ∧ w1.cell? ⟨H, 1, none⟩ = some (.int .i64 f.a) ∧ w1.cell? ⟨H, 2, none⟩ = some (.int .i64 f.d) ∧ w1.cell? ⟨H, 3, none⟩ = some (.int .i64 f.g) ∧ w1.cell? ⟨H, 4, none⟩ = some (.int .i64 f.df) ∧
    w1.cell? ⟨H, 5, none⟩ = some (.slice A1 f.adv.length c1) ∧ w1.cell? ⟨H, 6, none⟩ = some (.slice A2 f.ker.length c2) ∧ w1.cell? ⟨H, 7, none⟩ = some (.slice A3 f.lig.length c3) := by
  have h := h.below hb h.lt
  refine ⟨?_, ?_, ?_, ?_, ?_, ?_, ?_, ?_⟩ <;> (rw [h.cell]; rfl)

theorem descent_any (f : Fnt) (s : Int) (A1 : Option Addr) (c1 : Nat) (A2 : Option Addr) (c2 : Nat) (A3 : Option Addr) (c3 : Nat) (w : World) (hf : FM w f A1 c1 A2 c2 A3 c3) :
    Calls Try.prog 29 #[f.val A1 c1 A2 c2 A3 c3, .int .i64 s] w (Cls (iDes f s) w) := by
  have HF := Lib.hid (fm_box hf)
  have HB := Lib.hid ((Below.refl w.heap.size w).alloc (Nat.le_refl _) (Obj.cells (f.cs A1 c1 A2 c2 A3 c3) 38))
  have HK := Lib.hid (Blk.new w 38 (f.cs A1 c1 A2 c2 A3 c3))
  clear hf
  unfold Fnt.val
  go_enter Try.func29, Try.ntmps29
  go_wp2_with fail
  refine (usable_any f s A1 c1 A2 c2 A3 c3 _ HF.out).mono ?_
  rintro e w1 ⟨rfl, hb1⟩
  obtain ⟨g0, g1, g2, g3, g4, g5, g6, g7⟩ := box_cells HK.out hb1
  have HB1 := Lib.hid (HB.out.trans (hb1.mono HB.out.size))
  clear hb1
  cases hu : useB f s
  · have HE := Lib.hid (show iDes f s = 0 by simp [iDes, hu])
    clear hu
    go_wp2
    go_ret
    exact ⟨by rw [HE.out]; rfl, HB1.out⟩
  · have HE := Lib.hid (show iDes f s = rnd (f.d * s) f.u by simp [iDes, hu])
    obtain ⟨_, hh, hs, _⟩ := use_bd hu
    obtain ⟨k1, k2, k3, k4, k5, k6⟩ := head_bd hh
    clear hu hh
    have hm := Lib.hid (mul_bd (v := f.d) (by omega) hs)
    go_wp2_with fail
    refine (scaled_any f s f.d A1 c1 A2 c2 A3 c3 _ k1 hm.out).mono ?_
    rintro e w2 ⟨rfl, hb2⟩
    have HB2 := Lib.hid (HB1.out.trans (hb2.mono HB1.out.size))
    clear hb2
    go_wp2
    go_ret
    exact ⟨by rw [HE.out]; rfl, HB2.out⟩

theorem ascent_any (f : Fnt) (s : Int) (A1 : Option Addr) (c1 : Nat) (A2 : Option Addr) (c2 : Nat) (A3 : Option Addr) (c3 : Nat) (w : World) (hf : FM w f A1 c1 A2 c2 A3 c3) :
    Calls Try.prog 28 #[f.val A1 c1 A2 c2 A3 c3, .int .i64 s] w (Cls (iAsc f s) w) := by
  have HF := Lib.hid (fm_box hf)
  have HB := Lib.hid ((Below.refl w.heap.size w).alloc (Nat.le_refl _) (Obj.cells (f.cs A1 c1 A2 c2 A3 c3) 38))
  have HK := Lib.hid (Blk.new w 38 (f.cs A1 c1 A2 c2 A3 c3))
  clear hf
  unfold Fnt.val
  go_enter Try.func28, Try.ntmps28
  go_wp2_with fail
  refine (usable_any f s A1 c1 A2 c2 A3 c3 _ HF.out).mono ?_
  rintro e w1 ⟨rfl, hb1⟩
  obtain ⟨g0, g1, g2, g3, g4, g5, g6, g7⟩ := box_cells HK.out hb1
  have HB1 := Lib.hid (HB.out.trans (hb1.mono HB.out.size))
  have HF1 := Lib.hid (HF.out.below hb1)
  have HK1 := Lib.hid (HK.out.below hb1 HK.out.lt)
  clear hb1
  cases hu : useB f s
  · have HE := Lib.hid (show iAsc f s = 0 by simp [iAsc, hu])
    clear hu
    go_wp2
    go_ret
    exact ⟨by rw [HE.out]; rfl, HB1.out⟩
  · have HU := Lib.hid hu
    obtain ⟨_, hh, hs, _⟩ := use_bd hu
    obtain ⟨k1, k2, k3, k4, k5, k6⟩ := head_bd hh
    have HD := Lib.hid (show iDes f s = rnd (f.d * s) f.u by simp [iDes, hu])
    clear hu hh
    have hm := Lib.hid (mul_bd (v := f.a) (by omega) hs)
    go_wp2_with fail
    refine (scaled_any f s f.a A1 c1 A2 c2 A3 c3 _ k1 hm.out).mono ?_
    rintro e w2 ⟨rfl, hb2⟩
    have HB2 := Lib.hid (HB1.out.trans (hb2.mono HB1.out.size))
    have HF2 := Lib.hid (HF1.out.below hb2)
    obtain ⟨m0, m1, m2, m3, m4, m5, m6, m7⟩ := box_cells HK1.out hb2
    clear hb2 g0 g1 g2 g3 g4 g5 g6 g7
    obtain ⟨v, hv⟩ : ∃ v, v = rnd (f.a * s) f.u := ⟨_, rfl⟩
    have HV := Lib.hid hv
    rw [← hv]
    clear hv
    by_cases hz : v = 0
    · have hd : (v == 0) = true := by simpa using hz
      have HZ := Lib.hid hz
      clear hz
      go_wp2_with fail
      refine (descent_any f s A1 c1 A2 c2 A3 c3 _ HF2.out).mono ?_
      rintro e w3 ⟨rfl, hb3⟩
      have HB3 := Lib.hid (HB2.out.trans (hb3.mono HB2.out.size))
      clear hb3
      by_cases hy : iDes f s = 0
      · have hd2 : (iDes f s == 0) = true := by simpa using hy
        have HE := Lib.hid (show iAsc f s = 1 by simp [iAsc, HU.out, ← HV.out, HZ.out, ← HD.out, hy])
        clear hy
        go_wp2
        go_ret
        exact ⟨by rw [HE.out]; rfl, HB3.out⟩
      · have hd2 : (iDes f s == 0) = false := by simpa using hy
        have HE := Lib.hid (show iAsc f s = v by simp only [iAsc, HU.out, if_true]; rw [← HV.out, ← HD.out, if_neg (fun h => hy h.2)])
        clear hy
        go_wp2
        go_ret
        exact ⟨by rw [HE.out]; rfl, HB3.out⟩
    · have hd : (v == 0) = false := by simpa using hz
      have HE := Lib.hid (show iAsc f s = v by simp only [iAsc, HU.out, if_true]; rw [← HV.out, if_neg (fun h => hz h.1)])
      clear hz
      go_wp2
      go_ret
      exact ⟨by rw [HE.out]; rfl, HB2.out⟩

theorem lastW_drop (l : List Adv) (v r : Int) (k : Nat) (x : Adv) (h : l[k]? = some x) : lastW v (l.drop k) r = lastW (if x.f ≤ r ∧ r ≤ x.t then x.w else v) (l.drop (k + 1)) r := by
  obtain ⟨hk, hp⟩ := List.getElem?_eq_some_iff.1 h
  rw [List.drop_eq_getElem_cons hk, hp, lastW]
end Go.Proofs.Ytagokefbbdlpcaa
