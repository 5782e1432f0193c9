/- The plain law of the mirrors, and the sanity check of layer 3. -/
import Derived.Test.YtagokefbbdlpcaaM3
import Derived.Test.YtagokefbbdlpcaaB1
namespace Go.Proofs.Ytagokefbbdlpcaa
set_option linter.unusedVariables false
set_option linter.unusedSimpArgs false
open Go.RowKit

def MirOk (r : Int) : Prop := iMir r = (oth PR r).1 ∧ iMir (iMir r) = r ∧ iBra r = rb PR r ∧
  ((iBra r).1 ≠ 0 → iMir r = (iBra r).2 ∧ (iBra (iBra r).2).2 = r ∧ (iBra (iBra r).2).1 + (iBra r).1 = 3 ∧ 0 ≤ (iBra (iBra r).2).1 ∧ (iBra (iBra r).2).1 ≤ 2)
instance (r : Int) : Decidable (MirOk r) := by unfold MirOk; infer_instance

theorem oth_notin (L : List (Int × Int)) (r : Int) (h : ∀ p ∈ L, p.1 ≠ r ∧ p.2 ≠ r) : oth L r = (r, -1) := by
  induction L with
  | nil => rfl
  | cons p t ih =>
    obtain ⟨h1, h2⟩ := h p (by simp)
    rw [oth, if_neg h1, if_neg h2]
    exact ih fun q hq => h q (by simp [hq])
theorem rb_notin (L : List (Int × Int)) (r : Int) (h : ∀ p ∈ L, p.1 ≠ r ∧ p.2 ≠ r) : rb L r = (0, 0) := by
  induction L with
  | nil => rfl
  | cons p t ih =>
    obtain ⟨h1, h2⟩ := h p (by simp)
    have := ih fun q hq => h q (by simp [hq])
    rw [rb, if_neg h1, if_neg h2, this]
    split <;> rfl
def ends : List Int := PR.flatMap fun p => [p.1, p.2]
theorem ends_ok : ∀ r ∈ ends, MirOk r := by decide +kernel
theorem sub_BR : ∀ p ∈ BR, p ∈ PR := by decide +kernel
theorem sub_OT : ∀ p ∈ OT, p ∈ PR := by decide +kernel

theorem mir_ok (r : Int) : MirOk r := by
  by_cases h : r ∈ ends
  · exact ends_ok r h
  · have hP : ∀ p ∈ PR, p.1 ≠ r ∧ p.2 ≠ r := fun p hp => ⟨fun e => h (by subst e; exact List.mem_flatMap.2 ⟨p, hp, by simp⟩), fun e => h (by subst e; exact List.mem_flatMap.2 ⟨p, hp, by simp⟩)⟩
    have e1 := oth_notin PR r hP
    have e2 := oth_notin BR r fun p hp => hP p (sub_BR p hp)
    have e3 := oth_notin OT r fun p hp => hP p (sub_OT p hp)
    have e4 := rb_notin PR r hP
    have m : iMir r = r := by simp [iMir, e2, e3]
    have b : iBra r = (0, 0) := by simp [iBra, e2]
    exact ⟨by rw [m, e1], by rw [m, m], by rw [b, e4], fun hne => absurd (by rw [b]) hne⟩

def Tru (w : World) (e : Ending) (w' : World) : Prop := e = .returned (.bool true) ∧ Below w.heap.size w w'

theorem awake3_any (w : World) : Calls Try.prog 19 #[] w (Tru w) := by
  have k1 : ∀ w, Calls Try.prog 15 #[.int .i32 1488] w (Cls 1 w) := fun w => by have := bidi_any 1488 w (by omega); rwa [show (rfind 1488).d = 1 by kernel_rfl] at this
  have k2 : ∀ w, Calls Try.prog 11 #[.int .i32 55] w (Cls 4 w) := fun w => by have := word_any 55 w (by omega); rwa [show (rfind 55).w = 4 by kernel_rfl] at this
  have k3 : ∀ w, Calls Try.prog 9 #[.int .i32 769] w (Cls 4 w) := fun w => by have := brk_any 769 w (by omega); rwa [show (rfind 769).c = 4 by kernel_rfl] at this
  have k4 : ∀ w, Calls Try.prog 20 #[.int .i32 40] w (Rn 41 w) := fun w => by have := mirror_any 40 w; rwa [show iMir 40 = 41 by kernel_rfl] at this
  have K1 := Lib.hid k1
  have K2 := Lib.hid k2
  have K3 := Lib.hid k3
  have K4 := Lib.hid k4
  clear k1 k2 k3 k4
  go_enter Try.func19, Try.ntmps19
  go_wp2_with fail
  refine (K1.out _).mono ?_
  rintro e w1 ⟨rfl, hb1⟩
  have HB1 := Lib.hid hb1
  clear hb1
  go_wp2_with fail
  refine (K2.out _).mono ?_
  rintro e w2 ⟨rfl, hb2⟩
  have HB2 := Lib.hid (HB1.out.trans (hb2.mono HB1.out.size))
  clear hb2
  go_wp2_with fail
  refine (K3.out _).mono ?_
  rintro e w3 ⟨rfl, hb3⟩
  have HB3 := Lib.hid (HB2.out.trans (hb3.mono HB2.out.size))
  clear hb3
  go_wp2_with fail
  refine (K4.out _).mono ?_
  rintro e w4 ⟨rfl, hb4⟩
  have HB4 := Lib.hid (HB3.out.trans (hb4.mono HB3.out.size))
  clear hb4
  go_wp2
  go_ret
  exact ⟨rfl, HB4.out⟩
end Go.Proofs.Ytagokefbbdlpcaa
