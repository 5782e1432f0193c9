/- Mirror and Bracket of the reference walked. -/
import Derived.Test.YtagokefbbdlpcaaM2
namespace Go.Proofs.Ytagokefbbdlpcaa
set_option linter.unusedVariables false
set_option linter.unusedSimpArgs false
open Go.RowKit

set_option maxHeartbeats 1000000 in
theorem rmirror_any (r : Int) (w : World) : Calls Try.prog 23 #[.int .i32 r] w (Rn (oth PR r).1 w) := by
  go_enter Try.func23, Try.ntmps23
  go_wp2_with fail
  refine (pairs_any _).mono ?_
  rintro e w1 ⟨b, rfl, hb, hc, hb1⟩
  have HC := Lib.hid hc
  have HB1 := Lib.hid hb1
  have HST := Lib.hid (show oth (PR.drop 0) r = oth PR r from rfl)
  clear hc hb1
  go_wp2
  go_loop [4] (fun s4 => ∃ k i : Nat, s4 = .int .i64 (i : Int) ∧ i ≤ 22 ∧ i = k * 2 ∧ oth (PR.drop k) r = oth PR r) (fun s4 => 22 - (intOf s4).toNat)
  case atStart => exact ⟨0, 0, rfl, by omega, rfl, HST.out⟩
  case round =>
    obtain ⟨k, i, rfl, hi, hik, ho⟩ := hrel
    have HO := Lib.hid ho
    clear ho
    by_cases hkn : i < 22
    · have hk0 : (i : Int) < 22 := by omega
      have hk1 : (i : Int) + 1 < 22 := by omega
      have hk11 : k < PR.length := by show k < 11; omega
      have hx : PR[k]? = some (PR[k]'hk11) := List.getElem?_eq_getElem _
      generalize PR[k]'hk11 = p at hx
      obtain ⟨p1, p2⟩ := p
      obtain ⟨x0, x1⟩ := pcells_at PR k _ hx
      rw [← hik] at x0 x1
      have c0 : w1.cell? ⟨b, i, none⟩ = some (.int .i32 p1) := HC.out _ _ x0
      have c1 : w1.cell? ⟨b, i + 1, none⟩ = some (.int .i32 p2) := HC.out _ _ x1
      have HD := Lib.hid (oth_drop PR r k _ hx)
      have HIK := Lib.hid hik
      clear hx x0 x1 hik hk11
      by_cases h1 : p1 = r
      · have hb1 : (p1 == r) = true := by simpa using h1
        have HE := Lib.hid (show oth PR r = (p2, 1) by rw [← HO.out, HD.out]; exact if_pos h1)
        clear h1
        go_wp2
        go_ret
        exact ⟨by rw [HE.out]; rfl, HB1.out⟩
      · have hb1 : (p1 == r) = false := by simpa using h1
        by_cases h2 : p2 = r
        · have hb2 : (p2 == r) = true := by simpa using h2
          have HE := Lib.hid (show oth PR r = (p1, 0) by rw [← HO.out, HD.out]; exact (if_neg h1).trans (if_pos h2))
          clear h1 h2
          go_wp2
          go_ret
          exact ⟨by rw [HE.out]; rfl, HB1.out⟩
        · have hb2 : (p2 == r) = false := by simpa using h2
          have HE := Lib.hid (show oth (PR.drop (k + 1)) r = oth PR r by rw [← HO.out, HD.out]; exact ((if_neg h1).trans (if_neg h2)).symm)
          clear h1 h2
          go_wp2
          go_round
          case rel => exact ⟨k + 1, i + 2, by go_num, by have := HIK.out; omega, by have := HIK.out; omega, HE.out⟩
          case measure => simp [intOf]; omega
    · obtain rfl : i = 22 := by omega
      obtain rfl : k = 11 := by omega
      have HE := Lib.hid (show oth PR r = (r, -1) by rw [← HO.out]; rfl)
      go_wp2
      go_ret
      exact ⟨by rw [HE.out]; rfl, HB1.out⟩

/-- Bracket of the reference. -/
def rb : List (Int × Int) → Int → Int × Int
  | [], r => (0, 0)
  | p :: t, r => if p.1 = 60 ∨ p.1 = 171 ∨ p.1 = 8804 then rb t r else if p.1 = r then (1, p.2) else if p.2 = r then (2, p.1) else rb t r
theorem rb_drop (L : List (Int × Int)) (r : Int) (k : Nat) (p : Int × Int) (h : L[k]? = some p) : rb (L.drop k) r = if p.1 = 60 ∨ p.1 = 171 ∨ p.1 = 8804 then rb (L.drop (k + 1)) r else if p.1 = r then (1, p.2) else if p.2 = r then (2, p.1) else rb (L.drop (k + 1)) r := by
  obtain ⟨hk, hp⟩ := (List.getElem?_eq_some_iff.1 h)
  rw [List.drop_eq_getElem_cons hk, hp, rb]

set_option maxHeartbeats 1000000 in
theorem rbracket_any (r : Int) (w : World) : Calls Try.prog 22 #[.int .i32 r] w (Bra (rb PR r) w) := by
  go_enter Try.func22, Try.ntmps22
  go_wp2_with fail
  refine (pairs_any _).mono ?_
  rintro e w1 ⟨b, rfl, hb, hc, hb1⟩
  have HC := Lib.hid hc
  have HB1 := Lib.hid hb1
  have HST := Lib.hid (show rb (PR.drop 0) r = rb PR r from rfl)
  clear hc hb1
  go_wp2
  go_loop [5] (fun s4 => ∃ k i : Nat, s4 = .int .i64 (i : Int) ∧ i ≤ 22 ∧ i = k * 2 ∧ rb (PR.drop k) r = rb PR r) (fun s4 => 22 - (intOf s4).toNat)
  case atStart => exact ⟨0, 0, rfl, by omega, rfl, HST.out⟩
  case round =>
    obtain ⟨k, i, rfl, hi, hik, ho⟩ := hrel
    have HO := Lib.hid ho
    clear ho
    by_cases hkn : i < 22
    · have hk0 : (i : Int) < 22 := by omega
      have hk1 : (i : Int) + 1 < 22 := by omega
      have hk2 : (0 : Int) ≤ (i : Int) + 1 := by omega
      have hk11 : k < PR.length := by show k < 11; omega
      have hx : PR[k]? = some (PR[k]'hk11) := List.getElem?_eq_getElem _
      generalize PR[k]'hk11 = p at hx
      obtain ⟨p1, p2⟩ := p
      obtain ⟨x0, x1⟩ := pcells_at PR k _ hx
      rw [← hik] at x0 x1
      have c0 : w1.cell? ⟨b, i, none⟩ = some (.int .i32 p1) := HC.out _ _ x0
      have c1 : w1.cell? ⟨b, i + 1, none⟩ = some (.int .i32 p2) := HC.out _ _ x1
      have HD := Lib.hid (rb_drop PR r k _ hx)
      have HIK := Lib.hid hik
      clear hx x0 x1 hik hk11
      by_cases hs1 : p1 = 60
      · have d1 : (p1 == 60) = true := by simpa using hs1
        have HE := Lib.hid (show rb (PR.drop (k + 1)) r = rb PR r by rw [← HO.out, HD.out]; exact (if_pos (.inl hs1)).symm)
        clear hs1
        go_wp2
        go_round
        case rel => exact ⟨k + 1, i + 2, by go_num, by have := HIK.out; omega, by have := HIK.out; omega, HE.out⟩
        case measure => simp [intOf]; omega
      · have d1 : (p1 == 60) = false := by simpa using hs1
        by_cases hs2 : p1 = 171
        · have d2 : (p1 == 171) = true := by simpa using hs2
          have HE := Lib.hid (show rb (PR.drop (k + 1)) r = rb PR r by rw [← HO.out, HD.out]; exact (if_pos (.inr (.inl hs2))).symm)
          clear hs1 hs2
          go_wp2
          go_round
          case rel => exact ⟨k + 1, i + 2, by go_num, by have := HIK.out; omega, by have := HIK.out; omega, HE.out⟩
          case measure => simp [intOf]; omega
        · have d2 : (p1 == 171) = false := by simpa using hs2
          by_cases hs3 : p1 = 8804
          · have d3 : (p1 == 8804) = true := by simpa using hs3
            have HE := Lib.hid (show rb (PR.drop (k + 1)) r = rb PR r by rw [← HO.out, HD.out]; exact (if_pos (.inr (.inr hs3))).symm)
            clear hs1 hs2 hs3
            go_wp2
            go_round
            case rel => exact ⟨k + 1, i + 2, by go_num, by have := HIK.out; omega, by have := HIK.out; omega, HE.out⟩
            case measure => simp [intOf]; omega
          · have d3 : (p1 == 8804) = false := by simpa using hs3
            have hnot : ¬ (p1 = 60 ∨ p1 = 171 ∨ p1 = 8804) := by omega
            have HD2 := Lib.hid (HD.out.trans (if_neg hnot))
            clear hs1 hs2 hs3 hnot
            by_cases h1 : p1 = r
            · have hb1 : (p1 == r) = true := by simpa using h1
              have HE := Lib.hid (show rb PR r = (1, p2) by rw [← HO.out, HD2.out]; exact if_pos h1)
              clear h1
              go_wp2
              go_quiet (fail)
              go_wp2
              go_ret2
              exact ⟨by rw [HE.out]; rfl, below_drewN HB1.out _⟩
            · have hb1 : (p1 == r) = false := by simpa using h1
              by_cases h2 : p2 = r
              · have hb2 : (p2 == r) = true := by simpa using h2
                have HE := Lib.hid (show rb PR r = (2, p1) by rw [← HO.out, HD2.out]; exact (if_neg h1).trans (if_pos h2))
                clear h1 h2
                go_wp2
                go_quiet (fail)
                go_wp2
                go_ret2
                exact ⟨by rw [HE.out]; rfl, below_drewN HB1.out _⟩
              · have hb2 : (p2 == r) = false := by simpa using h2
                have HE := Lib.hid (show rb (PR.drop (k + 1)) r = rb PR r by rw [← HO.out, HD2.out]; exact ((if_neg h1).trans (if_neg h2)).symm)
                clear h1 h2
                go_wp2
                go_round
                case rel => exact ⟨k + 1, i + 2, by go_num, by have := HIK.out; omega, by have := HIK.out; omega, HE.out⟩
                case measure => simp [intOf]; omega
    · obtain rfl : i = 22 := by omega
      obtain rfl : k = 11 := by omega
      have HE := Lib.hid (show rb PR r = (0, 0) by rw [← HO.out]; rfl)
      go_wp2
      go_ret2
      exact ⟨by rw [HE.out]; rfl, HB1.out⟩
end Go.Proofs.Ytagokefbbdlpcaa
