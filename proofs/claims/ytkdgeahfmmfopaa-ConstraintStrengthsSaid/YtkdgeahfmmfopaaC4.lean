/- Satisfied of the reference walked. -/
import Derived.Test.YtkdgeahfmmfopaaC3
import Derived.Test.YtkdgeahfmmfopaaP4
namespace Go.Proofs.Ytkdgeahfmmfopaa
set_option linter.unusedVariables false
set_option linter.unusedSimpArgs false
open Go.RowKit

theorem value_reads {w : World} {B n c : Nat} {A : Option Addr} {x : List Int} (h : Reads w B 1 A n (ints x)) (hn : n ≤ 65536) (i : Int) (hi : i < n) :
    Calls Try.prog 31 #[.slice A n c, .int .i64 i] w fun e w' => e = .returned (.int .i64 (val x i)) ∧ w' = w := by
  have hl : x.length = n := by have := h.1; simpa [ints] using this
  by_cases h0 : i < 0
  · refine (value_neg _ i w h0).mono ?_
    rintro e w' ⟨rfl, rfl⟩
    exact ⟨by simp [val, h0], rfl⟩
  · obtain ⟨b, off, rfl, hb, hc⟩ := h.plain (by omega) (by omega)
    have hk : i.toNat < x.length := by omega
    refine (value_pos b off n c i (x[i.toNat]?.getD 0) w (by omega) hi hn (hc i.toNat _ (by simp [ints, List.getElem?_eq_getElem hk]))).mono ?_
    rintro e w' ⟨rfl, rfl⟩
    exact ⟨by simp [val, h0], rfl⟩

set_option maxRecDepth 100000 in
theorem sat_any (A : Option Addr) (n c B : Nat) (x : List Int) (cc : Con) (w : World) (hr : Reads w B 1 A n (ints x)) (hB : B ≤ w.heap.size) (hn : n ≤ 65536) (hok : ConOk n cc) (hx : ∀ z ∈ x, 0 ≤ z ∧ z ≤ 1048576) :
    Calls Try.prog 17 #[.slice A n c, cc.val] w fun e w' => e = .returned (.bool (satC x cc)) ∧ Below w.heap.size w w' := by
  have hl : x.length = n := by have := hr.1; simpa [ints] using this
  obtain ⟨h1, h2, h3, h4, h5, h6, h7, h8⟩ := hok
  obtain ⟨a1, a2⟩ := val_bound hx cc.A (by omega)
  obtain ⟨b1, b2⟩ := val_bound hx cc.B (by omega)
  have hsat : satC x cc = if cc.R = 0 then decide (val x cc.B + cc.C ≤ val x cc.A) else if cc.R = 1 then decide (val x cc.A ≤ val x cc.B + cc.C) else decide (val x cc.A = val x cc.B + cc.C) := rfl
  have hwe : IntKind.i64.wrap (val x cc.B + cc.C) = val x cc.B + cc.C := IntWalk.i64_in _ (by omega)
  obtain ⟨cA, cB, cR, cC, cS⟩ := cc
  unfold Con.val
  dsimp only at *
  have HSAT := Lib.hid hsat
  have HR := Lib.hid hr
  clear hsat hr hl hx
  have hcalls := fun (W : World) (hW : W.heap = (w.alloc (.cells #[.int .i64 cA, .int .i64 cB, .int .i64 cR, .int .i64 cC, .int .i64 cS] 40)).heap) (i : Int) (hi : i < n) => (value_reads (w := W) (c := c) (by
      have := HR.out.alloc hB (.cells #[.int .i64 cA, .int .i64 cB, .int .i64 cR, .int .i64 cC, .int .i64 cS] 40)
      refine this.keep fun p hp => ?_
      exact World.cell?_of_block (by rw [hW])) hn i hi : Calls Try.prog 31 #[.slice A n c, .int .i64 i] W fun e w' => e = .returned (.int .i64 (val x i)) ∧ w' = W)
  have HC := Lib.hid hcalls
  clear hcalls
  by_cases r0 : cR = 0
  · have e0 : (cR == 0) = true := by simpa using r0
    have R0 := Lib.hid r0
    clear r0
    go_enter Try.func17, Try.ntmps17
    go_wp2
    go_quiet ((go_at_call 31; exact Calls.quiet_of_same (HC.out _ (by rfl) _ (by omega))))
    go_wp2
    go_ret
    refine ⟨ret_bool ?_, below_drewN ((Below.refl _ _).alloc (Nat.le_refl _) _) _⟩
    rw [HSAT.out, if_pos R0.out]
  · have e0 : (cR == 0) = false := by simpa using r0
    by_cases r1 : cR = 1
    · have e1 : (cR == 1) = true := by simpa using r1
      have R0 := Lib.hid r0
      have R1 := Lib.hid r1
      clear r0 r1
      go_enter Try.func17, Try.ntmps17
      go_wp2
      go_quiet ((go_at_call 31; exact Calls.quiet_of_same (HC.out _ (by rfl) _ (by omega))))
      go_wp2
      go_ret
      refine ⟨ret_bool ?_, below_drewN ((Below.refl _ _).alloc (Nat.le_refl _) _) _⟩
      rw [HSAT.out, if_neg R0.out, if_pos R1.out]
    · have e1 : (cR == 1) = false := by simpa using r1
      have R0 := Lib.hid r0
      have R1 := Lib.hid r1
      clear r0 r1
      go_enter Try.func17, Try.ntmps17
      go_wp2
      go_quiet ((go_at_call 31; exact Calls.quiet_of_same (HC.out _ (by rfl) _ (by omega))))
      go_wp2
      go_ret
      refine ⟨ret_bool ?_, below_drewN ((Below.refl _ _).alloc (Nat.le_refl _) _) _⟩
      rw [HSAT.out, if_neg R0.out, if_neg R1.out]
      rw [Bool.eq_iff_iff]
      simp
end Go.Proofs.Ytkdgeahfmmfopaa
