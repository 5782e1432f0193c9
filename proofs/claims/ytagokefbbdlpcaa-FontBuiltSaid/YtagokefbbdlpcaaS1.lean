/- A law over a list of integers; the plain part of FontScales. -/
import Derived.Test.YtagokefbbdlpcaaG5
namespace Go.Proofs.Ytagokefbbdlpcaa
set_option linter.unusedVariables false
set_option linter.unusedSimpArgs false
open Go.RowKit

/-- A law over a list of integers: whatever list comes in, it returns true and leaves memory below as it was. -/
def LawAny (fn : Nat) : Prop := ∀ (A : Option Addr) (n c : Nat) (zs : List Int) (w : World), n ≤ c → c ≤ maxLen → Reads w w.heap.size 1 A n (ints zs) → (∀ z ∈ zs, (Lit.int .i64 z).wf = true) →
  Calls Try.prog fn #[.slice A n c] w fun e w' => e = .returned (.bool true) ∧ Below w.heap.size w w'

theorem law_of_row {fn : Nat} (h : LawAny fn) (a0 : Option Addr) (len0 cap0 : Nat) (z0 : List Int) (w : World)
    (w0 : (a0 = none ∧ len0 = 0 ∧ cap0 = 0 ∧ z0 = []) ∨ ∃ x, a0 = some x ∧ len0 ≤ cap0 ∧ cap0 ≤ maxLen ∧ z0.length = cap0 ∧ (∀ i, i < z0.length → w.cell? (x.add i) = some (.int .i64 (z0.getD i 0))) ∧ ∀ n ∈ z0, (Lit.int .i64 n).wf = true) :
    Calls Try.prog fn #[.slice a0 len0 cap0] w fun e w' => e = .returned (.bool true) ∧ Below w.heap.size w w' := by
  rcases w0 with ⟨rfl, rfl, rfl, rfl⟩ | ⟨x, rfl, hl, hm, hz, hcell, hwz⟩
  · exact h none 0 0 [] w (Nat.le_refl _) (by unfold maxLen; omega) Reads.none_ (by simp)
  · refine h (some x) len0 cap0 (z0.take len0) w hl hm ?_ (fun z hz' => hwz z (List.mem_of_mem_take hz'))
    refine ⟨by simp [ints]; omega, fun hn => ⟨x, rfl, ?_, fun j u hu => ?_⟩⟩
    · have := World.block_lt_of_cell? w _ (hcell 0 (by omega))
      rwa [block_of_add] at this
    · have hj : j < len0 := by
        rcases Nat.lt_or_ge j (ints (z0.take len0)).length with h | h
        · simp [ints] at h; omega
        · rw [List.getElem?_eq_none h] at hu; cases hu
      rw [hcell j (by omega)]
      have := ints_get _ _ _ hu
      rw [this]
      simp [List.getD, List.getElem?_take, hj]

theorem rnd_mono {a b u : Int} (hu : 1 ≤ u) (h : a ≤ b) : rnd a u ≤ rnd b u := by
  unfold rnd
  exact Int.ediv_le_ediv (by omega) (by omega)
theorem rnd_nn {a u : Int} (hu : 1 ≤ u) (h : 0 ≤ a) : 0 ≤ rnd a u := by
  unfold rnd
  exact Int.ediv_nonneg (by omega) (by omega)
theorem use_of {f : Fnt} {s : Int} (hv : vld f = 0) (hs : 1 ≤ s ∧ s ≤ 1000) : useB f s = true := by
  simp only [useB, Bool.and_eq_true, inB_iff, decide_eq_true_eq]
  exact ⟨hs, hv⟩
theorem mute_mark : mute 769 = true := by kernel_rfl

structure Scl (f : Fnt) (s x y z : Int) : Prop where
  hx : iAsc f s = x
  hy : iDes f s = y
  hz : iHei f s = z
  h1 : 1 ≤ x + y
  h2 : x + y ≤ z
  x0 : 0 ≤ x ∧ x ≤ 20000001
  y0 : 0 ≤ y ∧ y ≤ 20000001
  m0 : iAdv f s 769 = 0

theorem scl {f : Fnt} {s : Int} (hv : vld f = 0) (hs : 1 ≤ s ∧ s ≤ 1000) : Scl f s (iAsc f s) (iDes f s) (iHei f s) := by
  have hu := use_of hv hs
  obtain ⟨_, hh, _⟩ := use_bd hu
  obtain ⟨k1, k2, k3, k4, k5, k6⟩ := head_bd hh
  have na := rnd_nn (u := f.u) (by omega) (Int.mul_nonneg k2.1 (show 0 ≤ s by omega))
  have nd := rnd_nn (u := f.u) (by omega) (Int.mul_nonneg k3.1 (show 0 ≤ s by omega))
  have ng := rnd_nn (u := f.u) (by omega) (Int.mul_nonneg k4.1 (show 0 ≤ s by omega))
  have ba := rnd_bd (mul_bd (v := f.a) (by omega) hs) (b := f.u) (by omega)
  have bd := rnd_bd (mul_bd (v := f.d) (by omega) hs) (b := f.u) (by omega)
  have e1 : iDes f s = rnd (f.d * s) f.u := by simp [iDes, hu]
  have e2 : iAsc f s = if rnd (f.a * s) f.u = 0 ∧ rnd (f.d * s) f.u = 0 then 1 else rnd (f.a * s) f.u := by simp [iAsc, hu]
  have e3 : iHei f s = iAsc f s + iDes f s + rnd (f.g * s) f.u := by simp [iHei, hu]
  refine ⟨rfl, rfl, rfl, ?_, by omega, ?_, by omega, by simp [iAdv, mute_mark]⟩
  · rw [e1, e2]; split <;> omega
  · rw [e2]; split <;> omega

theorem scl_mono {f : Fnt} {s r : Int} (hv : vld f = 0) (hs : 2 ≤ s ∧ s ≤ 1000) : iDes f (s - 1) ≤ iDes f s ∧ iAdv f (s - 1) r ≤ iAdv f s r := by
  have hu := use_of hv (show 1 ≤ s ∧ s ≤ 1000 by omega)
  have hu' := use_of hv (show 1 ≤ s - 1 ∧ s - 1 ≤ 1000 by omega)
  obtain ⟨_, hh, _, ha, _⟩ := use_bd hu
  obtain ⟨k1, k2, k3, k4, k5, k6⟩ := head_bd hh
  have hw := lastW_bd f.adv r ha f.df k6
  refine ⟨?_, ?_⟩
  · simp only [iDes, hu, hu', if_true]
    exact rnd_mono (by omega) (Int.mul_le_mul_of_nonneg_left (by omega) k3.1)
  · simp only [iAdv, hu, hu', if_true]
    split
    · omega
    · exact rnd_mono (by omega) (Int.mul_le_mul_of_nonneg_left (by omega) hw.1)
end Go.Proofs.Ytagokefbbdlpcaa
