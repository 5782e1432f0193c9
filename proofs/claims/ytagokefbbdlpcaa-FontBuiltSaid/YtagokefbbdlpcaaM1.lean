/- The mirrored pairs of the implementation walked. -/
import Derived.Test.YtagokefbbdlpcaaA3
import Derived.Outline
namespace Go.Proofs.Ytagokefbbdlpcaa
set_option linter.unusedVariables false
set_option linter.unusedSimpArgs false
open Go.RowKit

def pcells (L : List (Int × Int)) : List Value := L.flatMap fun p => [.int .i32 p.1, .int .i32 p.2]
/-- The other rune of the pair that holds r, and its index. -/
def oth : List (Int × Int) → Int → Int × Int
  | [], r => (r, -1)
  | p :: t, r => if p.1 = r then (p.2, 1) else if p.2 = r then (p.1, 0) else oth t r

theorem pcells_length (L : List (Int × Int)) : (pcells L).length = L.length * 2 := by
  induction L with
  | nil => rfl
  | cons x L ih => simp [pcells] at ih ⊢; omega
theorem pcells_at (L : List (Int × Int)) (i : Nat) (p : Int × Int) (h : L[i]? = some p) : (pcells L)[i * 2]? = some (.int .i32 p.1) ∧ (pcells L)[i * 2 + 1]? = some (.int .i32 p.2) := by
  induction L generalizing i with
  | nil => simp at h
  | cons y L ih =>
    match i, h with
    | 0, h =>
      simp at h
      subst h
      exact ⟨rfl, rfl⟩
    | i + 1, h =>
      have := ih i (by simpa using h)
      simp only [pcells, List.flatMap_cons] at this ⊢
      rw [List.getElem?_append_right (by simp; omega), List.getElem?_append_right (by simp; omega)]
      rw [show (i + 1) * 2 - [Value.int IntKind.i32 y.1, Value.int IntKind.i32 y.2].length = i * 2 by simp; omega, show (i + 1) * 2 + 1 - [Value.int IntKind.i32 y.1, Value.int IntKind.i32 y.2].length = i * 2 + 1 by simp; omega]
      exact this
theorem oth_drop (L : List (Int × Int)) (r : Int) (k : Nat) (p : Int × Int) (h : L[k]? = some p) : oth (L.drop k) r = if p.1 = r then (p.2, 1) else if p.2 = r then (p.1, 0) else oth (L.drop (k + 1)) r := by
  have hk := (List.getElem?_eq_some_iff.1 h)
  obtain ⟨hk, hp⟩ := hk
  rw [List.drop_eq_getElem_cons hk, hp, oth]

def Oth (o : Int × Int) (w : World) (e : Ending) (w' : World) : Prop := e = .returned (.tuple #[.int .i32 o.1, .int .i64 o.2]) ∧ Below w.heap.size w w'

set_option maxHeartbeats 1000000 in
theorem other_any (b n : Nat) (L : List (Int × Int)) (r : Int) (w : World) (hn : L.length = n) (hn2 : n ≤ 1000) (hb : b < w.heap.size) (hc : ∀ i u, (pcells L)[i]? = some u → w.cell? ⟨b, i, none⟩ = some u) :
    Calls Try.prog 38 #[.slice (some ⟨b, 0, none⟩) n n, .int .i32 r] w (Oth (oth L r) w) := by
  have HC := Lib.hid hc
  have HN := Lib.hid hn
  have hst : oth (L.drop 0) r = oth L r := by simp
  have HST := Lib.hid hst
  clear hc hn hst
  go_enter Try.func38, Try.ntmps38
  go_wp2
  go_loopw [11] (fun s11 wr => ∃ k : Nat, s11 = .int .i64 (k : Int) ∧ k ≤ n ∧ oth (L.drop k) r = oth L r ∧ Below w.heap.size w wr) (fun s11 _ => n - (intOf s11).toNat)
  case atStart => exact ⟨0, rfl, by omega, HST.out, Below.refl _ _⟩
  case round =>
    obtain ⟨k, rfl, hk, ho, hbl⟩ := hrel
    have HO := Lib.hid ho
    have HB := Lib.hid hbl
    clear ho hbl
    by_cases hkn : k < n
    · have hk0 : (k : Int) < (n : Int) := by omega
      have hx : L[k]? = some (L[k]'(by rw [HN.out]; exact hkn)) := List.getElem?_eq_getElem _
      generalize L[k]'(by rw [HN.out]; exact hkn) = p at hx
      obtain ⟨p1, p2⟩ := p
      obtain ⟨x0, x1⟩ := pcells_at L k _ hx
      have c0 : wr.cell? ⟨b, k * 2, none⟩ = some (.int .i32 p1) := (HB.out.cell (p := ⟨b, k * 2, none⟩) hb).trans (HC.out _ _ x0)
      have c1 : wr.cell? ⟨b, k * 2 + 1, none⟩ = some (.int .i32 p2) := (HB.out.cell (p := ⟨b, k * 2 + 1, none⟩) hb).trans (HC.out _ _ x1)
      have HD := Lib.hid (oth_drop L r k _ hx)
      clear hx x0 x1
      have HBN := Lib.hid (HB.out.alloc HB.out.size (Obj.cells #[.int .i32 p1, .int .i32 p2] 83))
      go_wp2
      go_loop [15] (fun s15 => (s15 = .int .i64 0) ∨ (s15 = .int .i64 1 ∧ p1 ≠ r) ∨ (s15 = .int .i64 2 ∧ p1 ≠ r ∧ p2 ≠ r)) (fun s15 => 2 - (intOf s15).toNat)
      case atStart => exact .inl rfl
      case round =>
        rcases hrel with rfl | ⟨rfl, hp1⟩ | ⟨rfl, hp1, hp2⟩
        · by_cases h1 : p1 = r
          · have hb1 : (p1 == r) = true := by simpa using h1
            have HE := Lib.hid (show oth L r = (p2, 1) by rw [← HO.out, HD.out]; exact if_pos h1)
            clear h1
            go_wp2
            go_ret2
            rw [HE.out]
            exact ⟨rfl, HBN.out⟩
          · have hb1 : (p1 == r) = false := by simpa using h1
            have H1 := Lib.hid h1
            clear h1
            go_wp2
            go_round
            case rel => exact .inr (.inl ⟨rfl, H1.out⟩)
            case measure => simp [intOf]
        · by_cases h2 : p2 = r
          · have hb1 : (p2 == r) = true := by simpa using h2
            have HE := Lib.hid (show oth L r = (p1, 0) by rw [← HO.out, HD.out]; exact (if_neg hp1).trans (if_pos h2))
            clear h2 hp1
            go_wp2
            go_ret2
            rw [HE.out]
            exact ⟨rfl, HBN.out⟩
          · have hb1 : (p2 == r) = false := by simpa using h2
            have H1 := Lib.hid hp1
            have H2 := Lib.hid h2
            clear h2 hp1
            go_wp2
            go_round
            case rel => exact .inr (.inr ⟨rfl, H1.out, H2.out⟩)
            case measure => simp [intOf]
        · have HE := Lib.hid (show oth (L.drop (k + 1)) r = oth L r by rw [← HO.out, HD.out]; exact ((if_neg hp1).trans (if_neg hp2)).symm)
          clear hp1 hp2
          go_wp2
          go_roundw
          case rel => exact ⟨k + 1, by go_num, by omega, HE.out, HBN.out⟩
          case measure => simp [intOf]; omega
    · obtain rfl : k = n := by omega
      have HE := Lib.hid (show oth L r = (r, -1) by rw [← HO.out, List.drop_of_length_le (by rw [HN.out]; exact Nat.le_refl _)]; rfl)
      go_wp2
      go_ret2
      rw [HE.out]
      exact ⟨rfl, HB.out⟩
end Go.Proofs.Ytagokefbbdlpcaa
