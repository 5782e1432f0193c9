/- least of the reference walked: the loops. -/
import Derived.Test.YtkdgeahfmmfopaaA7
import Derived.Deep.DeepCutAuto
namespace Go.Proofs.Ytkdgeahfmmfopaa
set_option linter.unusedVariables false
set_option linter.unusedSimpArgs false
open Go.RowKit

theorem own_zero {w : World} {n : Nat} (hn : n ≤ 65536) {i0 : TypeInfo} (hi0 : Try.prog.info? 3 = some i0) (hz0 : i0.zero = some (.int .i64 0)) (hz1 : i0.size = 1) (hz2 : i0.bytes = 8) :
    ∃ w', (Instr.makeSlice 24 (.int .i64 (n : Int)) (.int .i64 (n : Int))).run Try.prog w = .ok (.slice (some ⟨w.heap.size, 0, none⟩) n n) w' ∧
      w'.ownsRow w.heap.size 3 1 (.slice (some ⟨w.heap.size, 0, none⟩) n n) n (ints (List.replicate n 0)) ∧ Below w.heap.size w w' := by
  obtain ⟨w', h1, h2, h3⟩ := run_make_full (P := Try.prog) w w.heap.size 24 3 i0 (.int .i64 0) 1 Try.underlying24 hi0 hz0 hz1 .i64 .i64 n (by rw [hz2]; omega) (by unfold maxLen; omega) (Nat.le_refl _)
  refine ⟨w', h1, ?_, (Below.refl _ _).grown h3 (Nat.le_refl _) (by simp)⟩
  have e : (madeCells (Value.int IntKind.i64 0).cells (n * 1)).toList = ints (List.replicate n 0) := by
    have : (Value.int IntKind.i64 0).cells = #[.int .i64 0] := rfl
    rw [this, toList_madeCells_one]
    simp [ints]
  rwa [e] at h2

theorem firstC_skip {x : List Int} {any : Bool} {c : Con} (h : c.R = 1) : firstC x any c = some (x, any) := by simp [firstC, h]
theorem firstC_fail {x : List Int} {any : Bool} {c : Con} (h : c.R ≠ 1) (h2 : (RR x c.A (val x c.B + c.C)).2.2 = false) : firstC x any c = none := by simp [firstC, h, h2]
theorem firstC_ok {x : List Int} {any : Bool} {c : Con} (h : c.R ≠ 1) (h2 : (RR x c.A (val x c.B + c.C)).2.2 = true) : firstC x any c = some ((RR x c.A (val x c.B + c.C)).1, any || (RR x c.A (val x c.B + c.C)).2.1) := by simp [firstC, h, h2]
theorem secondC_skip {x : List Int} {any : Bool} {c : Con} (h : c.R = 0) : secondC x any c = some (x, any) := by simp [secondC, h]
theorem secondC_fail {x : List Int} {any : Bool} {c : Con} (h : c.R ≠ 0) (h2 : (RR x c.B (val x c.A - c.C)).2.2 = false) : secondC x any c = none := by simp [secondC, h, h2]
theorem secondC_ok {x : List Int} {any : Bool} {c : Con} (h : c.R ≠ 0) (h2 : (RR x c.B (val x c.A - c.C)).2.2 = true) : secondC x any c = some ((RR x c.B (val x c.A - c.C)).1, any || (RR x c.B (val x c.A - c.C)).2.1) := by simp [secondC, h, h2]
theorem oneC_none {x : List Int} {any : Bool} {c : Con} (h : firstC x any c = none) : oneC x any c true = none := by simp [oneC, h]
theorem oneC_some {x : List Int} {any : Bool} {c : Con} {s : List Int × Bool} (h : firstC x any c = some s) : oneC x any c true = secondC s.1 s.2 c := by simp [oneC, h]
theorem rGo_none {l : List Con} {acc : List Bool} {f k : Nat} {x : List Int} (hk : k ≤ l.length) (h : rSw x l acc k = none) : rGo l acc f x = none := by
  cases f with
  | zero => rfl
  | succ f =>
    have := rSw_none h (l.length - k)
    rw [show k + (l.length - k) = l.length by omega] at this
    simp [rGo, this]

set_option maxRecDepth 100000 in
set_option maxHeartbeats 4000000 in
theorem least_any (A2 A3 : Option Addr) (n m c2 c3 B2 B3 : Nat) (l : List Con) (acc : List Bool) (w : World) (hn : n ≤ 1000)
    (hlm : l.length = m) (hr2 : Reads w B2 5 A2 m (conCells l)) (hB2 : B2 ≤ w.heap.size) (hm : m ≤ 1000) (hL : ∀ c ∈ l, ConOk n c)
    (hla : acc.length = m) (hr3 : Reads w B3 1 A3 m (bools acc)) (hB3 : B3 ≤ w.heap.size) :
    Calls Try.prog 30 #[.int .i64 n, .slice A2 m c2, .slice A3 m c3] w (Least2 n (rLeast n l acc) w) := by
  obtain ⟨i0, hi0, hz0, hz1, hz2⟩ := info_parts int_info
  obtain ⟨w1, hmk, hown, hbel⟩ := own_zero (w := w) (n := n) (by omega) hi0 hz0 hz1 hz2
  have HR2 := Lib.hid hr2
  have HR3 := Lib.hid hr3
  have HL := Lib.hid hL
  have Hm := Lib.hid hlm
  have Ha := Lib.hid hla
  clear hr2 hr3 hL hlm hla
  have hg1 : w.heap.size < w1.heap.size := (hown.lt w.heap.size rfl).2
  have hg0 : ∃ g, g = w.heap.size := ⟨_, rfl⟩
  obtain ⟨g, hg⟩ := hg0
  have hge : w.heap.size ≤ g := by omega
  rw [← hg] at hown hmk hbel hg1
  have HG := Lib.hid hg
  clear hg
  go_enter Try.func30, Try.ntmps30
  go_wp2
  go_loopw [9] (fun i wr => ∃ (r : Nat) (x : List Int), i = .int .i64 (r : Int) ∧ r ≤ n + 2 ∧ x.length = n ∧ (∀ z ∈ x, 0 ≤ z ∧ z ≤ 1048576) ∧ rLeast n l acc = rGo l acc (n + 2 - r) x ∧ wr.ownsRow g 3 1 (.slice (some ⟨g, 0, none⟩) n n) n (ints x) ∧ Below g w wr) (fun i _ => n + 3 - (intOf i).toNat)
  case atStart => exact ⟨0, List.replicate n 0, rfl, by omega, by simp, fun z hz => by rw [List.eq_of_mem_replicate hz]; omega, rfl, hown, hbel⟩
  case round =>
    obtain ⟨r, x, rfl, hr1, hxl, hxb, hres, ho, hb⟩ := hrel
    have HXL := Lib.hid hxl
    have HXB := Lib.hid hxb
    have HRES := Lib.hid hres
    clear hxl hxb hres
    by_cases hrn : r ≤ n + 1
    · have hrd : decide ((r : Int) ≤ (n : Int) + 1) = true := by simp; omega
      go_wp2
      go_loopw [10, 11] (fun an i ws => ∃ (k : Nat) (y : List Int) (any : Bool), i = .int .i64 (k : Int) ∧ k ≤ m ∧ an = .bool any ∧ rSw x l acc k = some (y, any) ∧ y.length = n ∧ (∀ z ∈ y, 0 ≤ z ∧ z ≤ 1048576) ∧ ws.ownsRow g 3 1 (.slice (some ⟨g, 0, none⟩) n n) n (ints y) ∧ Below g w ws) (fun _ i _ => m - (intOf i).toNat)
      case atStart => exact ⟨0, x, false, rfl, by omega, rfl, rfl, HXL.out, HXB.out, ho, hb⟩
      case round =>
        obtain ⟨k, y, any, rfl, hk, rfl, hsw, hyl, hyb, hok, hbk⟩ := hrel
        have HSW := Lib.hid hsw
        have HYL := Lib.hid hyl
        have HYB := Lib.hid hyb
        clear hsw hyl hyb
        by_cases hkm : k < m
        · obtain ⟨b2, off2, rfl, hb2, hc2⟩ := HR2.out.plain (by omega) (by omega)
          obtain ⟨b3, off3, rfl, hb3, hc3⟩ := HR3.out.plain (by omega) (by omega)
          have hlk : l[k]? = some (l[k]'(by have := Hm.out; omega)) := List.getElem?_eq_getElem _
          have hak : acc[k]? = some (acc[k]'(by have := Ha.out; omega)) := List.getElem?_eq_getElem _
          obtain ⟨f1, f2, f3, f4, f5, f6, f7, f8⟩ := HL.out _ (List.mem_of_getElem? hlk)
          have hnx : rSw x l acc (k + 1) = oneC y any (l[k]'(by have := Hm.out; omega)) (acc[k]'(by have := Ha.out; omega)) := by simp only [rSw, HSW.out, hlk, hak, Option.getD_some]
          generalize l[k]'(by have := Hm.out; omega) = c at hlk f1 f2 f3 f4 f5 f6 f7 f8 hnx
          generalize acc[k]'(by have := Ha.out; omega) = ak at hak hnx
          have hcell : ∀ j u, c.cells[j]? = some u → j < 5 → wr.cell? ⟨b2, off2 + (k * 5 + j), none⟩ = some u := fun j u hu hj =>
            (hbk.cell (p := ⟨b2, off2 + (k * 5 + j), none⟩) (by simp; have := HG.out; omega)).trans (hc2 _ _ (by rw [con_cells_at l k j c hlk hj]; exact hu))
          have d0 : wr.cell? ⟨b2, off2 + k * 5, none⟩ = some (.int .i64 c.A) := hcell 0 _ rfl (by omega)
          have d1 : wr.cell? ⟨b2, off2 + k * 5 + 1, none⟩ = some (.int .i64 c.B) := hcell 1 _ rfl (by omega)
          have d2 : wr.cell? ⟨b2, off2 + k * 5 + 2, none⟩ = some (.int .i64 c.R) := hcell 2 _ rfl (by omega)
          have d3 : wr.cell? ⟨b2, off2 + k * 5 + 3, none⟩ = some (.int .i64 c.C) := hcell 3 _ rfl (by omega)
          have d4 : wr.cell? ⟨b2, off2 + k * 5 + 4, none⟩ = some (.int .i64 c.S) := hcell 4 _ rfl (by omega)
          have da : wr.cell? ⟨b3, off3 + k, none⟩ = some (.bool ak) := (hbk.cell (p := ⟨b3, off3 + k, none⟩) (by simp; have := HG.out; omega)).trans (hc3 k _ (by simp [bools, hak]))
          have HNX := Lib.hid hnx
          have hgr : g < wr.heap.size := (hok.lt g rfl).2
          clear hcell hc2 hc3 hnx hlk hak
          have hkn : (k : Int) < (m : Int) := by omega
          have hk0 : (0 : Int) ≤ (k : Int) := by omega
          cases ak with
          | false =>
            go_wp2
            go_roundw
            case rel => exact ⟨k + 1, y, any, by go_num, by omega, rfl, by rw [HNX.out]; rfl, HYL.out, HYB.out, hok, hbk⟩
            case measure => simp [intOf]; omega
          | true =>
            have hcB := val_bound HYB.out c.B (by have := HYL.out; omega)
            have w1e : IntKind.i64.wrap (val y c.B + c.C) = val y c.B + c.C := IntWalk.i64_in _ (by omega)
            obtain ⟨v1, v2⟩ := hcB
            go_upto_if 42 with (fail)
            go_cut [10] (fun s10 wx => ∃ (y1 : List Int) (any1 : Bool), s10 = .bool any1 ∧ firstC y any c = some (y1, any1) ∧ y1.length = n ∧ (∀ z ∈ y1, 0 ≤ z ∧ z ≤ 1048576) ∧ wx.ownsRow g 3 1 (.slice (some ⟨g, 0, none⟩) n n) n (ints y1) ∧ Below g w wx ∧
              wx.cell? ⟨wr.heap.size, 0, none⟩ = some (.int .i64 c.A) ∧ wx.cell? ⟨wr.heap.size, 1, none⟩ = some (.int .i64 c.B) ∧ wx.cell? ⟨wr.heap.size, 2, none⟩ = some (.int .i64 c.R) ∧ wx.cell? ⟨wr.heap.size, 3, none⟩ = some (.int .i64 c.C) ∧ wr.heap.size < wx.heap.size)
            case first =>
              by_cases hR1 : c.R = 1
              · have e1 : (c.R != 1) = false := by simpa using hR1
                have HR1 := Lib.hid hR1
                clear hR1
                go_wp2
                go_meet
                case rel => exact ⟨y, any, rfl, firstC_skip HR1.out, HYL.out, HYB.out, hok.alloc _, hbk.alloc (by omega) _, by simp, by simp, by simp, by simp, by simp⟩
              · have e1 : (c.R != 1) = true := by simpa using hR1
                cases hpos : (RR y c.A (val y c.B + c.C)).2.2 with
                | false =>
                  go_wp2
                  go_region_held3 (fun w' => w'.cell? ⟨wr.heap.size, 0, none⟩ = some (.int .i64 c.A) ∧ w'.cell? ⟨wr.heap.size, 1, none⟩ = some (.int .i64 c.B) ∧ w'.cell? ⟨wr.heap.size, 2, none⟩ = some (.int .i64 c.R) ∧ w'.cell? ⟨wr.heap.size, 3, none⟩ = some (.int .i64 c.C))
                    (first | go_keep | (go_split_ands; refine ⟨?_, ?_, ?_, ?_⟩ <;> (rw [hg4.cell_far _ (by simp) (by simp; omega)]; assumption)))
                    (first
                      | (go_at_call 31; refine (value_own (w := _) (by exact hok.alloc _) HYL.out (by omega) c.B f4).mono ?_; rintro e w' ⟨rfl, rfl⟩)
                      | (go_at_call 35; refine (rraise_any (w := _) (by exact hok.alloc _) HYL.out (by omega) _ _ f2).mono ?_; rintro e w4 ⟨rfl, ho4, hg4, hs4⟩))
                  go_wp2
                  go_ret2
                  have HNX2 := HNX.out
                  rw [oneC_none (firstC_fail hR1 hpos)] at HNX2
                  rw [HRES.out, rGo_none (by have := Hm.out; omega) HNX2]
                  exact ⟨rfl, by have := HG.out; subst this; exact (hbk.alloc (by omega) _).drew.grown hg4 (by simp; omega) (fun k hk => by cases hk; exact Nat.le_refl _)⟩
                | true =>
                  cases any with
                  | true =>
                    go_wp2
                    go_region_held3 (fun w' => w'.cell? ⟨wr.heap.size, 0, none⟩ = some (.int .i64 c.A) ∧ w'.cell? ⟨wr.heap.size, 1, none⟩ = some (.int .i64 c.B) ∧ w'.cell? ⟨wr.heap.size, 2, none⟩ = some (.int .i64 c.R) ∧ w'.cell? ⟨wr.heap.size, 3, none⟩ = some (.int .i64 c.C))
                      (first | go_keep | (go_split_ands; refine ⟨?_, ?_, ?_, ?_⟩ <;> (rw [hg4.cell_far _ (by simp) (by simp; omega)]; assumption)))
                      (first
                        | (go_at_call 31; refine (value_own (w := _) (by exact hok.alloc _) HYL.out (by omega) c.B f4).mono ?_; rintro e w' ⟨rfl, rfl⟩)
                        | (go_at_call 35; refine (rraise_any (w := _) (by exact hok.alloc _) HYL.out (by omega) _ _ f2).mono ?_; rintro e w4 ⟨rfl, ho4, hg4, hs4⟩))
                    go_wp2
                    go_meet
                    case rel =>
                      obtain ⟨q0, q1, q2, q3⟩ : w4.cell? ⟨wr.heap.size, 0, none⟩ = some (.int .i64 c.A) ∧ w4.cell? ⟨wr.heap.size, 1, none⟩ = some (.int .i64 c.B) ∧ w4.cell? ⟨wr.heap.size, 2, none⟩ = some (.int .i64 c.R) ∧ w4.cell? ⟨wr.heap.size, 3, none⟩ = some (.int .i64 c.C) := by assumption
                      exact ⟨_, true, rfl, firstC_ok hR1 hpos, by rw [RR_length]; exact HYL.out, RR_bound HYB.out (by have := HYL.out; omega) hpos, ho4, (hbk.alloc (by omega) _).drew.grown hg4 (by simp; omega) (fun k hk => by cases hk; exact Nat.le_refl _), q0, q1, q2, q3, by rw [hs4]; simp⟩
                  | false =>
                    go_wp2
                    go_region_held3 (fun w' => w'.cell? ⟨wr.heap.size, 0, none⟩ = some (.int .i64 c.A) ∧ w'.cell? ⟨wr.heap.size, 1, none⟩ = some (.int .i64 c.B) ∧ w'.cell? ⟨wr.heap.size, 2, none⟩ = some (.int .i64 c.R) ∧ w'.cell? ⟨wr.heap.size, 3, none⟩ = some (.int .i64 c.C))
                      (first | go_keep | (go_split_ands; refine ⟨?_, ?_, ?_, ?_⟩ <;> (rw [hg4.cell_far _ (by simp) (by simp; omega)]; assumption)))
                      (first
                        | (go_at_call 31; refine (value_own (w := _) (by exact hok.alloc _) HYL.out (by omega) c.B f4).mono ?_; rintro e w' ⟨rfl, rfl⟩)
                        | (go_at_call 35; refine (rraise_any (w := _) (by exact hok.alloc _) HYL.out (by omega) _ _ f2).mono ?_; rintro e w4 ⟨rfl, ho4, hg4, hs4⟩))
                    go_wp2
                    go_meet
                    case rel =>
                      obtain ⟨q0, q1, q2, q3⟩ : w4.cell? ⟨wr.heap.size, 0, none⟩ = some (.int .i64 c.A) ∧ w4.cell? ⟨wr.heap.size, 1, none⟩ = some (.int .i64 c.B) ∧ w4.cell? ⟨wr.heap.size, 2, none⟩ = some (.int .i64 c.R) ∧ w4.cell? ⟨wr.heap.size, 3, none⟩ = some (.int .i64 c.C) := by assumption
                      exact ⟨_, _, rfl, firstC_ok hR1 hpos, by rw [RR_length]; exact HYL.out, RR_bound HYB.out (by have := HYL.out; omega) hpos, ho4, (hbk.alloc (by omega) _).drew.grown hg4 (by simp; omega) (fun k hk => by cases hk; exact Nat.le_refl _), q0, q1, q2, q3, by rw [hs4]; simp⟩
            case rest =>
              obtain ⟨y1, any1, rfl, hfc, hyl1, hyb1, ho1, hb1, q0, q1, q2, q3, hsz⟩ := hcut
              have HFC := Lib.hid hfc
              have HYL1 := Lib.hid hyl1
              have HYB1 := Lib.hid hyb1
              obtain ⟨v3, v4⟩ := val_bound hyb1 c.A (by omega)
              have w2e : IntKind.i64.wrap (val y1 c.A - c.C) = val y1 c.A - c.C := IntWalk.i64_in _ (by omega)
              clear hfc hyl1 hyb1
              by_cases hR0 : c.R = 0
              · have e1 : (c.R != 0) = false := by simpa using hR0
                have HR0 := Lib.hid hR0
                clear hR0
                go_wp2
                go_roundw
                case rel => exact ⟨k + 1, y1, any1, by go_num, by omega, rfl, by rw [HNX.out, oneC_some HFC.out]; exact secondC_skip HR0.out, HYL1.out, HYB1.out, ho1, hb1⟩
                case measure => simp [intOf]; omega
              · have e1 : (c.R != 0) = true := by simpa using hR0
                cases hpos : (RR y1 c.B (val y1 c.A - c.C)).2.2 with
                | false =>
                  go_wp2
                  go_region_held3 (fun w' => w'.cell? ⟨wr.heap.size, 0, none⟩ = some (.int .i64 c.A) ∧ w'.cell? ⟨wr.heap.size, 1, none⟩ = some (.int .i64 c.B) ∧ w'.cell? ⟨wr.heap.size, 3, none⟩ = some (.int .i64 c.C))
                    (first | go_keep | (go_split_ands; refine ⟨?_, ?_, ?_⟩ <;> (rw [hg4.cell_far _ (by simpa using hsz) (by simp; omega)]; assumption)))
                    (first
                      | (go_at_call 31; refine (value_own (w := _) (by exact ho1) HYL1.out (by omega) c.A f2).mono ?_; rintro e w' ⟨rfl, rfl⟩)
                      | (go_at_call 35; refine (rraise_any (w := _) (by exact ho1) HYL1.out (by omega) _ _ f4).mono ?_; rintro e w4 ⟨rfl, ho4, hg4, hs4⟩))
                  go_wp2
                  go_ret2
                  have HNX2 := HNX.out
                  rw [oneC_some HFC.out, secondC_fail hR0 hpos] at HNX2
                  rw [HRES.out, rGo_none (by have := Hm.out; omega) HNX2]
                  exact ⟨rfl, by have := HG.out; subst this; exact hb1.drew.grown hg4 (by have := hsz; simp; omega) (fun k hk => by cases hk; exact Nat.le_refl _)⟩
                | true =>
                  cases any1 with
                  | true =>
                    go_wp2
                    go_region_held3 (fun w' => w'.cell? ⟨wr.heap.size, 0, none⟩ = some (.int .i64 c.A) ∧ w'.cell? ⟨wr.heap.size, 1, none⟩ = some (.int .i64 c.B) ∧ w'.cell? ⟨wr.heap.size, 3, none⟩ = some (.int .i64 c.C))
                      (first | go_keep | (go_split_ands; refine ⟨?_, ?_, ?_⟩ <;> (rw [hg4.cell_far _ (by simpa using hsz) (by simp; omega)]; assumption)))
                      (first
                        | (go_at_call 31; refine (value_own (w := _) (by exact ho1) HYL1.out (by omega) c.A f2).mono ?_; rintro e w' ⟨rfl, rfl⟩)
                        | (go_at_call 35; refine (rraise_any (w := _) (by exact ho1) HYL1.out (by omega) _ _ f4).mono ?_; rintro e w4 ⟨rfl, ho4, hg4, hs4⟩))
                    go_wp2
                    go_roundw
                    case rel =>
                      refine ⟨k + 1, _, _, by go_num, by omega, rfl, ?_, by rw [RR_length]; exact HYL1.out, RR_bound HYB1.out (by have := HYL1.out; omega) hpos, ho4, hb1.drew.grown hg4 (by have := hsz; simp; omega) (fun k hk => by cases hk; exact Nat.le_refl _)⟩
                      rw [HNX.out, oneC_some HFC.out]
                      exact secondC_ok hR0 hpos
                    case measure => simp [intOf]; omega
                  | false =>
                    go_wp2
                    go_region_held3 (fun w' => w'.cell? ⟨wr.heap.size, 0, none⟩ = some (.int .i64 c.A) ∧ w'.cell? ⟨wr.heap.size, 1, none⟩ = some (.int .i64 c.B) ∧ w'.cell? ⟨wr.heap.size, 3, none⟩ = some (.int .i64 c.C))
                      (first | go_keep | (go_split_ands; refine ⟨?_, ?_, ?_⟩ <;> (rw [hg4.cell_far _ (by simpa using hsz) (by simp; omega)]; assumption)))
                      (first
                        | (go_at_call 31; refine (value_own (w := _) (by exact ho1) HYL1.out (by omega) c.A f2).mono ?_; rintro e w' ⟨rfl, rfl⟩)
                        | (go_at_call 35; refine (rraise_any (w := _) (by exact ho1) HYL1.out (by omega) _ _ f4).mono ?_; rintro e w4 ⟨rfl, ho4, hg4, hs4⟩))
                    go_wp2
                    go_roundw
                    case rel =>
                      refine ⟨k + 1, _, _, by go_num, by omega, rfl, ?_, by rw [RR_length]; exact HYL1.out, RR_bound HYB1.out (by have := HYL1.out; omega) hpos, ho4, hb1.drew.grown hg4 (by have := hsz; simp; omega) (fun k hk => by cases hk; exact Nat.le_refl _)⟩
                      rw [HNX.out, oneC_some HFC.out]
                      exact secondC_ok hR0 hpos
                    case measure => simp [intOf]; omega
        · obtain rfl : k = m := by omega
          have hrs : rSw x l acc l.length = some (y, any) := by rw [Hm.out]; exact HSW.out
          have HRS := Lib.hid hrs
          clear hrs
          cases any with
          | false =>
            go_wp2
            go_ret2
            rw [HRES.out]
            have : rGo l acc (n + 2 - r) x = some y := by
              rw [show n + 2 - r = (n + 1 - r) + 1 by omega]
              simp [rGo, HRS.out]
            rw [this]
            exact ⟨_, rfl, by have := HG.out; subst this; exact hok, HYL.out, HYB.out, by have := HG.out; subst this; exact hbk⟩
          | true =>
            go_wp2
            go_roundw
            case rel =>
              refine ⟨r + 1, y, by go_num, by omega, HYL.out, HYB.out, ?_, hok, hbk⟩
              rw [HRES.out, show n + 2 - r = (n + 2 - (r + 1)) + 1 by omega]
              simp [rGo, HRS.out]
            case measure => simp [intOf]; omega
    · obtain rfl : r = n + 2 := by omega
      go_wp2
      go_ret2
      rw [HRES.out, show n + 2 - (n + 2) = 0 by omega]
      exact ⟨rfl, by have := HG.out; subst this; exact hb⟩
end Go.Proofs.Ytkdgeahfmmfopaa
