/- The five classes of both, and the sanity check's. -/
import Derived.Test.YtagokefbbdlpcaaA7
namespace Go.Proofs.Ytagokefbbdlpcaa
set_option linter.unusedVariables false
set_option linter.unusedSimpArgs false
open Go.RowKit

def TRow.okB (x : TRow) : Bool := decide (0 ≤ x.b ∧ x.b ≤ 255 ∧ 0 ≤ x.w ∧ x.w ≤ 255 ∧ 0 ≤ x.n ∧ x.n ≤ 255 ∧ 0 ≤ x.d ∧ x.d ≤ 255 ∧ 0 ≤ x.j ∧ x.j ≤ 255)
theorem look_ok (T : List TRow) (r : Int) (h : T.all TRow.okB = true) : (look T r).okB = true := by
  induction T with
  | nil => rfl
  | cons t T ih =>
    simp only [List.all_cons, Bool.and_eq_true] at h
    simp only [look]
    split
    · split
      · exact h.1
      · rfl
    · exact ih h.2
theorem ok_T1 : T1.all TRow.okB = true := by kernel_rfl
theorem ok_T2 : T2.all TRow.okB = true := by kernel_rfl
theorem ok_T3 : T3.all TRow.okB = true := by kernel_rfl
theorem ok_T4 : T4.all TRow.okB = true := by kernel_rfl
theorem ifind_ok (r : Int) : (ifind r).okB = true := by
  unfold ifind
  split
  · split <;> rfl
  · split
    · exact look_ok _ _ ok_T1
    · split
      · exact look_ok _ _ ok_T2
      · split
        · exact look_ok _ _ ok_T3
        · exact look_ok _ _ ok_T4

/-- A class: a number, and memory below is as it was. -/
def Cls (v : Int) (w : World) (e : Ending) (w' : World) : Prop := e = .returned (.int .i64 v) ∧ Below w.heap.size w w'

theorem found_open {w w' : World} {x : TRow} {e : Ending} (h : Found w x e w') : e = .returned (.agg #[.int .i32 x.f, .int .i32 x.l, .int .u8 x.b, .int .u8 x.w, .int .u8 x.n, .int .u8 x.d, .int .u8 x.j]) ∧ Below w.heap.size w w' := h
theorem row_open {w w' : World} {r : Int} {x : Row} {e : Ending} (h : Below37 r x w e w') : e = .returned (.agg #[.int .i64 x.c, .int .i64 x.w, .int .i64 x.l, .int .i64 x.d, .int .i64 x.j]) ∧ Below w.heap.size w w' := h

theorem brk_any (r : Int) (w : World) (h : -2147483648 ≤ r) : Calls Try.prog 9 #[.int .i32 r] w (Cls (rfind r).c w) := by
  have hok := ifind_ok r
  simp only [TRow.okB, decide_eq_true_eq] at hok
  have he := find_eq r (by omega)
  have HE := Lib.hid (show (ifind r).b = (rfind r).c from by rw [← he]; rfl)
  clear he
  obtain ⟨o1, o2, o3, o4, o5, o6, o7, o8, o9, o10⟩ := hok
  go_enter Try.func9, Try.ntmps9
  go_wp2_with fail
  refine (find_any r _).mono ?_
  intro e w1 hf
  obtain ⟨rfl, hb⟩ := found_open hf
  have HB := Lib.hid hb
  clear hf hb
  generalize ifind r = x at *
  have hfl : ∀ W : World, (Instr.field 56 (.agg #[.int .i32 x.f, .int .i32 x.l, .int .u8 x.b, .int .u8 x.w, .int .u8 x.n, .int .u8 x.d, .int .u8 x.j]) 2).run Try.prog W = .ok (.int .u8 x.b) W := fun W => by kernel_rfl
  go_wp2
  go_ret
  exact ⟨by rw [HE.out]; rfl, HB.out⟩
theorem rbrk_any (r : Int) (w : World) : Calls Try.prog 10 #[.int .i32 r] w (Cls (rfind r).c w) := by
  go_enter Try.func10, Try.ntmps10
  go_wp2_with fail
  refine (rfind_any r _).mono ?_
  intro e w1 hf
  obtain ⟨rfl, hb⟩ := row_open hf
  have HB := Lib.hid hb
  clear hf hb
  generalize rfind r = x at *
  have hfl : ∀ W : World, (Instr.field 59 (.agg #[.int .i64 x.c, .int .i64 x.w, .int .i64 x.l, .int .i64 x.d, .int .i64 x.j]) 0).run Try.prog W = .ok (.int .i64 x.c) W := fun W => by kernel_rfl
  go_wp2
  go_ret
  exact ⟨rfl, HB.out⟩

theorem word_any (r : Int) (w : World) (h : -2147483648 ≤ r) : Calls Try.prog 11 #[.int .i32 r] w (Cls (rfind r).w w) := by
  have hok := ifind_ok r
  simp only [TRow.okB, decide_eq_true_eq] at hok
  have he := find_eq r (by omega)
  have HE := Lib.hid (show (ifind r).w = (rfind r).w from by rw [← he]; rfl)
  clear he
  obtain ⟨o1, o2, o3, o4, o5, o6, o7, o8, o9, o10⟩ := hok
  go_enter Try.func11, Try.ntmps11
  go_wp2_with fail
  refine (find_any r _).mono ?_
  intro e w1 hf
  obtain ⟨rfl, hb⟩ := found_open hf
  have HB := Lib.hid hb
  clear hf hb
  generalize ifind r = x at *
  have hfl : ∀ W : World, (Instr.field 56 (.agg #[.int .i32 x.f, .int .i32 x.l, .int .u8 x.b, .int .u8 x.w, .int .u8 x.n, .int .u8 x.d, .int .u8 x.j]) 3).run Try.prog W = .ok (.int .u8 x.w) W := fun W => by kernel_rfl
  go_wp2
  go_ret
  exact ⟨by rw [HE.out]; rfl, HB.out⟩
theorem rword_any (r : Int) (w : World) : Calls Try.prog 12 #[.int .i32 r] w (Cls (rfind r).w w) := by
  go_enter Try.func12, Try.ntmps12
  go_wp2_with fail
  refine (rfind_any r _).mono ?_
  intro e w1 hf
  obtain ⟨rfl, hb⟩ := row_open hf
  have HB := Lib.hid hb
  clear hf hb
  generalize rfind r = x at *
  have hfl : ∀ W : World, (Instr.field 59 (.agg #[.int .i64 x.c, .int .i64 x.w, .int .i64 x.l, .int .i64 x.d, .int .i64 x.j]) 1).run Try.prog W = .ok (.int .i64 x.w) W := fun W => by kernel_rfl
  go_wp2
  go_ret
  exact ⟨rfl, HB.out⟩

theorem line_any (r : Int) (w : World) (h : -2147483648 ≤ r) : Calls Try.prog 13 #[.int .i32 r] w (Cls (rfind r).l w) := by
  have hok := ifind_ok r
  simp only [TRow.okB, decide_eq_true_eq] at hok
  have he := find_eq r (by omega)
  have HE := Lib.hid (show (ifind r).n = (rfind r).l from by rw [← he]; rfl)
  clear he
  obtain ⟨o1, o2, o3, o4, o5, o6, o7, o8, o9, o10⟩ := hok
  go_enter Try.func13, Try.ntmps13
  go_wp2_with fail
  refine (find_any r _).mono ?_
  intro e w1 hf
  obtain ⟨rfl, hb⟩ := found_open hf
  have HB := Lib.hid hb
  clear hf hb
  generalize ifind r = x at *
  have hfl : ∀ W : World, (Instr.field 56 (.agg #[.int .i32 x.f, .int .i32 x.l, .int .u8 x.b, .int .u8 x.w, .int .u8 x.n, .int .u8 x.d, .int .u8 x.j]) 4).run Try.prog W = .ok (.int .u8 x.n) W := fun W => by kernel_rfl
  go_wp2
  go_ret
  exact ⟨by rw [HE.out]; rfl, HB.out⟩
theorem rline_any (r : Int) (w : World) : Calls Try.prog 14 #[.int .i32 r] w (Cls (rfind r).l w) := by
  go_enter Try.func14, Try.ntmps14
  go_wp2_with fail
  refine (rfind_any r _).mono ?_
  intro e w1 hf
  obtain ⟨rfl, hb⟩ := row_open hf
  have HB := Lib.hid hb
  clear hf hb
  generalize rfind r = x at *
  have hfl : ∀ W : World, (Instr.field 59 (.agg #[.int .i64 x.c, .int .i64 x.w, .int .i64 x.l, .int .i64 x.d, .int .i64 x.j]) 2).run Try.prog W = .ok (.int .i64 x.l) W := fun W => by kernel_rfl
  go_wp2
  go_ret
  exact ⟨rfl, HB.out⟩

theorem bidi_any (r : Int) (w : World) (h : -2147483648 ≤ r) : Calls Try.prog 15 #[.int .i32 r] w (Cls (rfind r).d w) := by
  have hok := ifind_ok r
  simp only [TRow.okB, decide_eq_true_eq] at hok
  have he := find_eq r (by omega)
  have HE := Lib.hid (show (ifind r).d = (rfind r).d from by rw [← he]; rfl)
  clear he
  obtain ⟨o1, o2, o3, o4, o5, o6, o7, o8, o9, o10⟩ := hok
  go_enter Try.func15, Try.ntmps15
  go_wp2_with fail
  refine (find_any r _).mono ?_
  intro e w1 hf
  obtain ⟨rfl, hb⟩ := found_open hf
  have HB := Lib.hid hb
  clear hf hb
  generalize ifind r = x at *
  have hfl : ∀ W : World, (Instr.field 56 (.agg #[.int .i32 x.f, .int .i32 x.l, .int .u8 x.b, .int .u8 x.w, .int .u8 x.n, .int .u8 x.d, .int .u8 x.j]) 5).run Try.prog W = .ok (.int .u8 x.d) W := fun W => by kernel_rfl
  go_wp2
  go_ret
  exact ⟨by rw [HE.out]; rfl, HB.out⟩
theorem rbidi_any (r : Int) (w : World) : Calls Try.prog 16 #[.int .i32 r] w (Cls (rfind r).d w) := by
  go_enter Try.func16, Try.ntmps16
  go_wp2_with fail
  refine (rfind_any r _).mono ?_
  intro e w1 hf
  obtain ⟨rfl, hb⟩ := row_open hf
  have HB := Lib.hid hb
  clear hf hb
  generalize rfind r = x at *
  have hfl : ∀ W : World, (Instr.field 59 (.agg #[.int .i64 x.c, .int .i64 x.w, .int .i64 x.l, .int .i64 x.d, .int .i64 x.j]) 3).run Try.prog W = .ok (.int .i64 x.d) W := fun W => by kernel_rfl
  go_wp2
  go_ret
  exact ⟨rfl, HB.out⟩

theorem join_any (r : Int) (w : World) (h : -2147483648 ≤ r) : Calls Try.prog 17 #[.int .i32 r] w (Cls (rfind r).j w) := by
  have hok := ifind_ok r
  simp only [TRow.okB, decide_eq_true_eq] at hok
  have he := find_eq r (by omega)
  have HE := Lib.hid (show (ifind r).j = (rfind r).j from by rw [← he]; rfl)
  clear he
  obtain ⟨o1, o2, o3, o4, o5, o6, o7, o8, o9, o10⟩ := hok
  go_enter Try.func17, Try.ntmps17
  go_wp2_with fail
  refine (find_any r _).mono ?_
  intro e w1 hf
  obtain ⟨rfl, hb⟩ := found_open hf
  have HB := Lib.hid hb
  clear hf hb
  generalize ifind r = x at *
  have hfl : ∀ W : World, (Instr.field 56 (.agg #[.int .i32 x.f, .int .i32 x.l, .int .u8 x.b, .int .u8 x.w, .int .u8 x.n, .int .u8 x.d, .int .u8 x.j]) 6).run Try.prog W = .ok (.int .u8 x.j) W := fun W => by kernel_rfl
  go_wp2
  go_ret
  exact ⟨by rw [HE.out]; rfl, HB.out⟩
theorem rjoin_any (r : Int) (w : World) : Calls Try.prog 18 #[.int .i32 r] w (Cls (rfind r).j w) := by
  go_enter Try.func18, Try.ntmps18
  go_wp2_with fail
  refine (rfind_any r _).mono ?_
  intro e w1 hf
  obtain ⟨rfl, hb⟩ := row_open hf
  have HB := Lib.hid hb
  clear hf hb
  generalize rfind r = x at *
  have hfl : ∀ W : World, (Instr.field 59 (.agg #[.int .i64 x.c, .int .i64 x.w, .int .i64 x.l, .int .i64 x.d, .int .i64 x.j]) 4).run Try.prog W = .ok (.int .i64 x.j) W := fun W => by kernel_rfl
  go_wp2
  go_ret
  exact ⟨rfl, HB.out⟩

end Go.Proofs.Ytagokefbbdlpcaa
