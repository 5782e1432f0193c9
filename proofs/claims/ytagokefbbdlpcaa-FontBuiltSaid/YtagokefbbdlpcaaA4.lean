/- The binary search of the implementation walked. -/
import Derived.Test.YtagokefbbdlpcaaA3
namespace Go.Proofs.Ytagokefbbdlpcaa
set_option linter.unusedVariables false
set_option linter.unusedSimpArgs false
open Go.RowKit

theorem tcells_length (T : List TRow) : (tcells T).length = T.length * 7 := by
  induction T with
  | nil => rfl
  | cons x T ih => simp [tcells, TRow.cells] at ih ⊢; omega
theorem tcells_at (T : List TRow) (i j : Nat) (x : TRow) (h : T[i]? = some x) (hj : j < 7) : (tcells T)[i * 7 + j]? = x.cells[j]? := by
  induction T generalizing i with
  | nil => simp at h
  | cons y T ih =>
    match i, h with
    | 0, h =>
      simp at h
      subst h
      simp only [tcells, List.flatMap_cons]
      rw [List.getElem?_append_left (by simp [TRow.cells]; omega)]
      simp
    | i + 1, h =>
      have := ih i (by simpa using h)
      simp only [tcells, List.flatMap_cons] at this ⊢
      rw [List.getElem?_append_right (by simp [TRow.cells]; omega)]
      rw [← this]
      congr 1
      simp [TRow.cells]
      omega

/-- The row of r in a table in ascending order. -/
def look : List TRow → Int → TRow
  | [], _ => TRow.zero
  | t :: ts, r => if r ≤ t.l then (if t.f ≤ r then t else TRow.zero) else look ts r

theorem look_at (T : List TRow) (r : Int) : ∀ k, k ≤ T.length → (∀ i x, i < k → T[i]? = some x → x.l < r) → (∀ x, T[k]? = some x → r ≤ x.l) →
    look T r = match T[k]? with | none => TRow.zero | some x => if x.f ≤ r then x else TRow.zero := by
  induction T with
  | nil => intro k hk h1 h2; simp [look]
  | cons t T ih =>
    intro k hk h1 h2
    match k with
    | 0 =>
      have := h2 t (by simp)
      simp [look, this]
    | k + 1 =>
      have h0 := h1 0 t (by omega) (by simp)
      rw [look, if_neg (by omega)]
      have := ih k (by simpa using hk) (fun i x hi hx => h1 (i + 1) x (by omega) (by simpa using hx)) (fun x hx => h2 x (by simpa using hx))
      simpa using this

def Asc (T : List TRow) : Prop := ∀ (i j : Nat) (x y : TRow), i ≤ j → T[i]? = some x → T[j]? = some y → x.l ≤ y.l

def Found (w : World) (v : TRow) (e : Ending) (w' : World) : Prop := e = .returned (.agg v.cells) ∧ Below w.heap.size w w'

theorem res60 (a' : Act) (W : World) (H : Nat) (v : TRow) (R : Ending → World → Prop) (h2 : a'.eval (.tmp 4) = .pointer (some ⟨H, 0, none⟩)) (hd : a'.defers = []) (hb : Blk W H 56 v.cells) (hR : R (.returned (.agg v.cells)) W) : bodyPost Try.prog Try.f60 R .ret a' W :=
  ⟨hd, _, results_cell_row (fn := Try.f60) Try.results60 a'.tmps W H 56 v.cells (0, 0) _ h2 hb Try.underlying56 rfl (by kernel_rfl), hR⟩

set_option maxHeartbeats 1000000 in
theorem search_any (b n : Nat) (T : List TRow) (r : Int) (w : World) (hn : T.length = n) (hn1 : 1 ≤ n) (hn2 : n ≤ 1000) (hc : ∀ i u, (tcells T)[i]? = some u → w.cell? ⟨b, i, none⟩ = some u) (hs : Asc T) :
    Calls Try.prog 60 #[.slice (some ⟨b, 0, none⟩) n n, .int .i32 r] w (Found w (look T r)) := by
  have hbw : b < w.heap.size := by
    have := hc 0 _ (List.getElem?_eq_getElem (by rw [tcells_length]; omega))
    exact World.block_lt_of_cell? w _ this
  have cell := fun (i : Nat) (x : TRow) (hx : T[i]? = some x) (j : Nat) (u : Value) (hj : j < 7) (hu : x.cells[j]? = some u) => hc (i * 7 + j) u (by rw [tcells_at T i j x hx hj]; exact hu)
  have CELL := Lib.hid cell
  have HS := Lib.hid hs
  have HN := Lib.hid hn
  clear hc cell hs hn
  go_enter Try.func60, Try.ntmps60
  go_wp2
  go_loop [5, 6] (fun s5 s6 => ∃ lo hi : Nat, s5 = .int .i64 (lo : Int) ∧ s6 = .int .i64 (hi : Int) ∧ lo ≤ hi ∧ hi ≤ n ∧ (∀ i x, i < lo → T[i]? = some x → x.l < r) ∧ (∀ i x, hi ≤ i → T[i]? = some x → r ≤ x.l)) (fun s5 s6 => (intOf s6).toNat - (intOf s5).toNat)
  case atStart => exact ⟨0, n, rfl, rfl, by omega, Nat.le_refl _, fun i x hi => absurd hi (Nat.not_lt_zero _), fun i x hi hx => by
    have := (List.getElem?_eq_some_iff.1 hx).1
    have := HN.out
    omega⟩
  case round =>
    obtain ⟨lo, hi, rfl, rfl, h1, h2, h3, h4⟩ := hrel
    have H3 := Lib.hid h3
    have H4 := Lib.hid h4
    clear h3 h4
    by_cases hlt : lo < hi
    · have hlt' : (lo : Int) < (hi : Int) := by omega
      obtain ⟨m, hm⟩ : ∃ m, m = (lo + hi) / 2 := ⟨_, rfl⟩
      have hmid : ((lo : Int) + (hi : Int)) / 2 = (m : Int) := by rw [hm]; omega
      have hmn : m < n := by omega
      have hm1 : lo ≤ m := by omega
      have hm2 : m < hi := by omega
      have hx : T[m]? = some (T[m]'(by rw [HN.out]; exact hmn)) := List.getElem?_eq_getElem _
      generalize T[m]'(by rw [HN.out]; exact hmn) = x at hx
      have c1 : w.cell? ⟨b, m * 7 + 1, none⟩ = some (.int .i32 x.l) := CELL.out m x hx 1 _ (by omega) rfl
      have hmn' : (m : Int) < (n : Int) := by omega
      have HX := Lib.hid hx
      clear hx hm
      by_cases hr : x.l < r
      · go_wp2
        go_round
        case rel =>
          refine ⟨m + 1, hi, by go_num, rfl, by omega, h2, fun i y hi hy => ?_, H4.out⟩
          have := HS.out i m y x (by omega) hy HX.out
          omega
        case measure => simp [intOf]; omega
      · go_wp2
        go_round
        case rel =>
          refine ⟨lo, m, rfl, congrArg (Value.int IntKind.i64) hmid, by omega, by omega, H3.out, fun i y hi hy => ?_⟩
          have := HS.out m i x y hi HX.out hy
          omega
        case measure => simp [intOf]; omega
    · obtain rfl : lo = hi := by omega
      have hlook := look_at T r lo (by rw [HN.out]; exact h2) H3.out (fun x hx => H4.out lo x (Nat.le_refl _) hx)
      have HL := Lib.hid hlook
      clear hlook
      by_cases hln : lo < n
      · have hlt' : (lo : Int) < (n : Int) := by omega
        have hx : T[lo]? = some (T[lo]'(by rw [HN.out]; exact hln)) := List.getElem?_eq_getElem _
        generalize T[lo]'(by rw [HN.out]; exact hln) = x at hx
        have c0 : w.cell? ⟨b, lo * 7, none⟩ = some (.int .i32 x.f) := CELL.out lo x hx 0 _ (by omega) rfl
        have c1 : w.cell? ⟨b, lo * 7 + 1, none⟩ = some (.int .i32 x.l) := CELL.out lo x hx 1 _ (by omega) rfl
        have c2 : w.cell? ⟨b, lo * 7 + 2, none⟩ = some (.int .u8 x.b) := CELL.out lo x hx 2 _ (by omega) rfl
        have c3 : w.cell? ⟨b, lo * 7 + 3, none⟩ = some (.int .u8 x.w) := CELL.out lo x hx 3 _ (by omega) rfl
        have c4 : w.cell? ⟨b, lo * 7 + 4, none⟩ = some (.int .u8 x.n) := CELL.out lo x hx 4 _ (by omega) rfl
        have c5 : w.cell? ⟨b, lo * 7 + 5, none⟩ = some (.int .u8 x.d) := CELL.out lo x hx 5 _ (by omega) rfl
        have c6 : w.cell? ⟨b, lo * 7 + 6, none⟩ = some (.int .u8 x.j) := CELL.out lo x hx 6 _ (by omega) rfl
        have HX := Lib.hid hx
        clear hx
        by_cases hr : x.f ≤ r
        · have HE := Lib.hid (show look T r = x by rw [HL.out, HX.out]; exact if_pos hr)
          go_wp2
          exact res60 _ _ w.heap.size x _ rfl rfl (Blk.new w 56 _) ⟨by rw [HE.out], (Below.refl _ _).alloc (Nat.le_refl _) _⟩
        · have HE := Lib.hid (show look T r = TRow.zero by rw [HL.out, HX.out]; exact if_neg hr)
          go_wp2
          exact res60 _ _ w.heap.size TRow.zero _ rfl rfl (Blk.new w 56 _) ⟨by rw [HE.out], (Below.refl _ _).alloc (Nat.le_refl _) _⟩
      · have hlt' : (n : Int) ≤ (lo : Int) := by omega
        go_wp2
        exact res60 _ _ w.heap.size TRow.zero _ rfl rfl (Blk.new w 56 _) ⟨by rw [HL.out, List.getElem?_eq_none (by rw [HN.out]; omega)], (Below.refl _ _).alloc (Nat.le_refl _) _⟩
end Go.Proofs.Ytagokefbbdlpcaa
