/- Mirror and Bracket of both walked. -/
import Derived.Test.YtagokefbbdlpcaaM1
namespace Go.Proofs.Ytagokefbbdlpcaa
set_option linter.unusedVariables false
set_option linter.unusedSimpArgs false
open Go.RowKit

def BR : List (Int × Int) := [(40, 41), (91, 93), (123, 125), (12296, 12297), (12298, 12299), (12300, 12301), (12302, 12303), (12304, 12305)]
def OT : List (Int × Int) := [(60, 62), (171, 187), (8804, 8805)]
/-- The reference's pairs, and whether a pair is one of brackets. -/
def PR : List (Int × Int) := [(40, 41), (60, 62), (91, 93), (123, 125), (171, 187), (8804, 8805), (12296, 12297), (12298, 12299), (12300, 12301), (12302, 12303), (12304, 12305)]

def RowAt (L : List (Int × Int)) (w : World) (e : Ending) (w' : World) : Prop :=
  ∃ b, e = .returned (.slice (some ⟨b, 0, none⟩) L.length L.length) ∧ b < w'.heap.size ∧ (∀ i u, (pcells L)[i]? = some u → w'.cell? ⟨b, i, none⟩ = some u) ∧ Below w.heap.size w w'

theorem rowAt_new (L : List (Int × Int)) (w : World) (t : TypeId) : RowAt L w (.returned (.slice (some ⟨w.heap.size, 0, none⟩) L.length L.length)) (w.alloc (.cells (pcells L).toArray t)) :=
  ⟨_, rfl, by simp, fun i u hu => by rw [(Blk.new w t (pcells L).toArray).cell]; simpa using hu, (Below.refl _ _).alloc (Nat.le_refl _) _⟩

theorem brackets_any (w : World) : Calls Try.prog 39 #[] w (RowAt BR w) := by
  go_enter Try.func39, Try.ntmps39
  go_wp2
  go_ret
  exact rowAt_new BR w 83
theorem others_any (w : World) : Calls Try.prog 40 #[] w (RowAt OT w) := by
  go_enter Try.func40, Try.ntmps40
  go_wp2
  go_ret
  exact rowAt_new OT w 83
def Row22 (w : World) (e : Ending) (w' : World) : Prop :=
  ∃ b, e = .returned (.slice (some ⟨b, 0, none⟩) 22 22) ∧ b < w'.heap.size ∧ (∀ i u, (pcells PR)[i]? = some u → w'.cell? ⟨b, i, none⟩ = some u) ∧ Below w.heap.size w w'
theorem pairs_any (w : World) : Calls Try.prog 41 #[] w (Row22 w) := by
  go_enter Try.func41, Try.ntmps41
  go_wp2
  go_ret
  exact ⟨_, rfl, by simp, fun i u hu => by
    have := (Blk.new w 21 (pcells PR).toArray).cell i
    rw [show (pcells PR).toArray[i]? = some u by simpa using hu] at this
    exact this, (Below.refl _ _).alloc (Nat.le_refl _) _⟩

/-- Mirror of the implementation. -/
def iMir (r : Int) : Int := if (oth BR r).2 < 0 then (oth OT r).1 else (oth BR r).1
def Rn (v : Int) (w : World) (e : Ending) (w' : World) : Prop := e = .returned (.int .i32 v) ∧ Below w.heap.size w w'

theorem mirror_any (r : Int) (w : World) : Calls Try.prog 20 #[.int .i32 r] w (Rn (iMir r) w) := by
  go_enter Try.func20, Try.ntmps20
  go_wp2_with fail
  refine (brackets_any _).mono ?_
  rintro e w1 ⟨b, rfl, hb, hc, hb1⟩
  have HC := Lib.hid hc
  have HB1 := Lib.hid hb1
  clear hc hb1
  go_wp2_with fail
  refine (other_any b 8 BR r _ rfl (by omega) hb HC.out).mono ?_
  rintro e w2 ⟨rfl, hb2⟩
  have HB2 := Lib.hid (HB1.out.trans (hb2.mono HB1.out.size))
  clear hb2
  by_cases ho : (oth BR r).2 < 0
  · have hd : decide ((oth BR r).2 < 0) = true := by simpa using ho
    have HM := Lib.hid (show iMir r = (oth OT r).1 from if_pos ho)
    clear ho
    go_wp2_with fail
    refine (others_any _).mono ?_
    rintro e w3 ⟨b3, rfl, hb3, hc3, hbl3⟩
    have HC3 := Lib.hid hc3
    have HB3 := Lib.hid (HB2.out.trans (hbl3.mono HB2.out.size))
    clear hc3 hbl3
    go_wp2_with fail
    refine (other_any b3 3 OT r _ rfl (by omega) hb3 HC3.out).mono ?_
    rintro e w4 ⟨rfl, hb4⟩
    have HB4 := Lib.hid (HB3.out.trans (hb4.mono HB3.out.size))
    clear hb4
    go_wp2
    go_ret
    exact ⟨by rw [HM.out]; rfl, HB4.out⟩
  · have hd : decide ((oth BR r).2 < 0) = false := by simpa using ho
    have HM := Lib.hid (show iMir r = (oth BR r).1 from if_neg ho)
    clear ho
    go_wp2
    go_ret
    exact ⟨by rw [HM.out]; rfl, HB2.out⟩

def iBra (r : Int) : Int × Int := if (oth BR r).2 = 1 then (1, (oth BR r).1) else if (oth BR r).2 = 0 then (2, (oth BR r).1) else (0, 0)
def Bra (o : Int × Int) (w : World) (e : Ending) (w' : World) : Prop := e = .returned (.tuple #[.int .i64 o.1, .int .i32 o.2]) ∧ Below w.heap.size w w'

theorem bracket_any (r : Int) (w : World) : Calls Try.prog 21 #[.int .i32 r] w (Bra (iBra r) w) := by
  go_enter Try.func21, Try.ntmps21
  go_wp2_with fail
  refine (brackets_any _).mono ?_
  rintro e w1 ⟨b, rfl, hb, hc, hb1⟩
  have HC := Lib.hid hc
  have HB1 := Lib.hid hb1
  clear hc hb1
  go_wp2_with fail
  refine (other_any b 8 BR r _ rfl (by omega) hb HC.out).mono ?_
  rintro e w2 ⟨rfl, hb2⟩
  have HB2 := Lib.hid (HB1.out.trans (hb2.mono HB1.out.size))
  clear hb2
  by_cases ho : (oth BR r).2 = 1
  · have hd : ((oth BR r).2 == 1) = true := by simpa using ho
    have HM := Lib.hid (show iBra r = (1, (oth BR r).1) from if_pos ho)
    clear ho
    go_wp2
    go_ret2
    exact ⟨by rw [HM.out]; rfl, HB2.out⟩
  · have hd : ((oth BR r).2 == 1) = false := by simpa using ho
    by_cases ho2 : (oth BR r).2 = 0
    · have hd2 : ((oth BR r).2 == 0) = true := by simpa using ho2
      have HM := Lib.hid (show iBra r = (2, (oth BR r).1) from (if_neg ho).trans (if_pos ho2))
      clear ho ho2
      go_wp2
      go_ret2
      exact ⟨by rw [HM.out]; rfl, HB2.out⟩
    · have hd2 : ((oth BR r).2 == 0) = false := by simpa using ho2
      have HM := Lib.hid (show iBra r = (0, 0) from (if_neg ho).trans (if_neg ho2))
      clear ho ho2
      go_wp2
      go_ret2
      exact ⟨by rw [HM.out]; rfl, HB2.out⟩
end Go.Proofs.Ytagokefbbdlpcaa
