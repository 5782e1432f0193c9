/- raise of the constraint solver walked. -/
import Derived.Test.YtkdgeahfmmfopaaA5
namespace Go.Proofs.Ytkdgeahfmmfopaa
set_option linter.unusedVariables false
set_option linter.unusedSimpArgs false
open Go.RowKit

/-- One bound of a sweep: the values, and whether one was raised. -/
def stepSw (s : List Int × Bool) (b : Bd) : List Int × Bool :=
  if s.1[b.t.toNat]?.getD (0 : Int) < s.1[b.f.toNat]?.getD (0 : Int) + b.c then (s.1.set b.t.toNat (s.1[b.f.toNat]?.getD (0 : Int) + b.c), true) else s

/-- One sweep over the first k bounds. -/
def sw (vs : List Int) (L : List Bd) : Nat → List Int × Bool
  | 0 => (vs, false)
  | k + 1 =>
    match L[k]? with
    | none => sw vs L k
    | some b => stepSw (sw vs L k) b

def badB (p : List Int) : Bool := decide ((0 : Int) < p[0]?.getD (0 : Int)) || decide (1048576 < maxUpTo p p.length)

/-- The rounds from round r on, at most so many. -/
def iGo (n : Nat) (L : List Bd) : Nat → Nat → List Int → Option (List Int)
  | 0, _, _ => none
  | fuel + 1, r, p =>
    if badB (sw p L L.length).1 then none
    else if (sw p L L.length).2 = false then some (sw p L L.length).1
    else if n < r then none
    else iGo n L fuel (r + 1) (sw p L L.length).1

def iRaise (vs : List Int) (L : List Bd) : Option (List Int) := iGo vs.length L (vs.length + 2) 0 vs

theorem sw_length (vs : List Int) (L : List Bd) (k : Nat) : (sw vs L k).1.length = vs.length := by
  induction k with
  | zero => rfl
  | succ k ih =>
    simp only [sw]
    split
    · exact ih
    · unfold stepSw
      split
      · simpa using ih
      · exact ih

def BdOk (n : Nat) (b : Bd) : Prop := 0 ≤ b.f ∧ b.f < n ∧ 0 ≤ b.t ∧ b.t < n ∧ -1048576 ≤ b.c ∧ b.c ≤ 1048576

theorem getD_mem_bound {l : List Int} {lo hi : Int} (h : ∀ z ∈ l, lo ≤ z ∧ z ≤ hi) (i : Nat) (hi' : i < l.length) : lo ≤ l[i]?.getD 0 ∧ l[i]?.getD 0 ≤ hi := by
  rw [List.getElem?_eq_getElem hi']
  exact h _ (List.getElem_mem hi')

theorem sw_bound (n : Nat) (vs : List Int) (L : List Bd) (hl : vs.length = n) (hv : ∀ z ∈ vs, 0 ≤ z ∧ z ≤ 1048576) (hL : ∀ b ∈ L, BdOk n b) (k : Nat) :
    ∀ z ∈ (sw vs L k).1, 0 ≤ z ∧ z ≤ 1048576 * ((k : Int) + 1) := by
  induction k with
  | zero => intro z hz; have := hv z hz; simp; omega
  | succ k ih =>
    have ih' : ∀ z ∈ (sw vs L k).1, 0 ≤ z ∧ z ≤ 1048576 * (((k + 1 : Nat) : Int) + 1) := fun z hz => by have := ih z hz; omega
    simp only [sw]
    split
    · exact ih'
    · rename_i b hb
      unfold stepSw
      split
      · rename_i hlt
        obtain ⟨h1, h2, h3, h4, h5, h6⟩ := hL b (List.mem_of_getElem? hb)
        have hlen := sw_length vs L k
        intro z hz
        rcases List.mem_or_eq_of_mem_set hz with hz | rfl
        · exact ih' z hz
        · have a1 := getD_mem_bound ih b.f.toNat (by omega)
          have a2 := getD_mem_bound ih b.t.toNat (by omega)
          constructor <;> omega
      · exact ih'

/-- What raise returns: a new row of values and true, or nothing and false. -/
def Raised (n : Nat) (r : Option (List Int)) (w : World) (e : Ending) (w' : World) : Prop :=
  match r with
  | some p => ∃ v : Value, e = .returned (.tuple #[v, .bool true]) ∧ w'.ownsRow w.heap.size 3 1 v n (ints p) ∧ Below w.heap.size w w'
  | none => e = .returned (.tuple #[.slice none 0 0, .bool false]) ∧ Below w.heap.size w w'

theorem flat_ints (zs : List Int) : Flat (ints zs) := by
  intro u hu
  simp only [ints, List.mem_map] at hu
  obtain ⟨a, _, rfl⟩ := hu
  rfl

/-- An own row of a number of elements over 0 lies in a block. -/
theorem own_form {w : World} {base e size n : Nat} {v : Value} {xs : List Value} (h : w.ownsRow base e size v n xs) (hn : 0 < n) :
    ∃ g cap, v = .slice (some ⟨g, 0, none⟩) n cap ∧ base ≤ g ∧ g < w.heap.size ∧ n ≤ cap := by
  rcases h.2 with ⟨_, h0⟩ | ⟨g, cap, cur, rfl, hb, hg, hn, _⟩
  · omega
  · exact ⟨g, cap, rfl, hb, (Array.getElem?_eq_some_iff.1 hg).1, hn⟩

theorem own_int_at {w : World} {base g n cap : Nat} {q : List Int} (h : w.ownsRow base 3 1 (.slice (some ⟨g, 0, none⟩) n cap) n (ints q)) (hl : q.length = n) (i : Nat) (hi : i < n) :
    w.cell? ⟨g, i, none⟩ = some (.int .i64 (q[i]?.getD 0)) := by
  rw [h.cellAt i (by omega)]
  simp [ints, List.getElem?_eq_getElem (show i < q.length by omega)]

theorem own_int_set {w : World} {base g n cap : Nat} {q : List Int} (h : w.ownsRow base 3 1 (.slice (some ⟨g, 0, none⟩) n cap) n (ints q)) (i : Nat) (x : Int) :
    (w.setCell ⟨g, i, none⟩ (.int .i64 x)).ownsRow base 3 1 (.slice (some ⟨g, 0, none⟩) n cap) n (ints (q.set i x)) := by
  have := (h.stored i (.int .i64 x)).1
  rwa [show (ints q).set i (.int .i64 x) = ints (q.set i x) by simp [ints, List.map_set]] at this

theorem own_drewN {w : World} {base e size n : Nat} {v : Value} {xs : List Value} (h : w.ownsRow base e size v n xs) (k : Nat) : (w.drewN k).ownsRow base e size v n xs := h

theorem bd_cells_at (L : List Bd) (k j : Nat) (b : Bd) (hb : L[k]? = some b) (hj : j < 3) : (bdCells L)[k * 3 + j]? = b.cells[j]? := by
  induction L generalizing k with
  | nil => simp at hb
  | cons x r ih =>
    cases k with
    | zero =>
      simp at hb
      subst hb
      simp only [bdCells, List.flatMap_cons]
      rw [List.getElem?_append_left (by simp [Bd.cells]; omega)]
      congr 1
      omega
    | succ k =>
      simp only [bdCells, List.flatMap_cons]
      rw [List.getElem?_append_right (by simp [Bd.cells]; omega)]
      have : (k + 1) * 3 + j - x.cells.length = k * 3 + j := by simp [Bd.cells]; omega
      rw [this]
      exact ih k (by simpa using hb)

theorem bd_length (L : List Bd) : (bdCells L).length = L.length * 3 := by
  induction L with
  | nil => rfl
  | cons x r ih => simp only [bdCells, List.flatMap_cons, List.length_append] at ih ⊢; rw [ih]; simp [Bd.cells]; omega

theorem maxUpTo_le {q : List Int} {M : Int} : ∀ {k : Nat}, maxUpTo q k ≤ M → ∀ j, j < k → q[j]?.getD 0 ≤ M := by
  intro k
  induction k with
  | zero => intro _ j hj; omega
  | succ k ih =>
    intro h j hj
    simp only [maxUpTo] at h
    split at h
    · by_cases e : j = k
      · subst e; exact h
      · exact ih (by omega) j (by omega)
    · by_cases e : j = k
      · subst e; omega
      · exact ih h j (by omega)

theorem iGo_bad {n : Nat} {L : List Bd} {f r : Nat} {p : List Int} (hf : 0 < f) (h : badB (sw p L L.length).1 = true) : iGo n L f r p = none := by
  obtain ⟨f, rfl⟩ : ∃ f', f = f' + 1 := ⟨f - 1, by omega⟩
  simp [iGo, h]
theorem iGo_done {n : Nat} {L : List Bd} {f r : Nat} {p : List Int} (hf : 0 < f) (h : badB (sw p L L.length).1 = false) (h2 : (sw p L L.length).2 = false) : iGo n L f r p = some (sw p L L.length).1 := by
  obtain ⟨f, rfl⟩ : ∃ f', f = f' + 1 := ⟨f - 1, by omega⟩
  simp [iGo, h, h2]
theorem iGo_over {n : Nat} {L : List Bd} {f r : Nat} {p : List Int} (hf : 0 < f) (h : badB (sw p L L.length).1 = false) (h2 : (sw p L L.length).2 = true) (h3 : n < r) : iGo n L f r p = none := by
  obtain ⟨f, rfl⟩ : ∃ f', f = f' + 1 := ⟨f - 1, by omega⟩
  simp [iGo, h, h2, h3]
theorem iGo_next {n : Nat} {L : List Bd} {f r : Nat} {p : List Int} (hf : 0 < f) (h : badB (sw p L L.length).1 = false) (h2 : (sw p L L.length).2 = true) (h3 : ¬ n < r) : iGo n L f r p = iGo n L (f - 1) (r + 1) (sw p L L.length).1 := by
  obtain ⟨f, rfl⟩ : ∃ f', f = f' + 1 := ⟨f - 1, by omega⟩
  simp [iGo, h, h2, h3]

set_option maxHeartbeats 1000000 in
theorem raise_any (A A2 : Option Addr) (n c m c2 B B2 : Nat) (vs : List Int) (L : List Bd) (w : World) (hA : A = none → n = 0 ∧ c = 0) (hl : vs.length = n) (hr : Reads w B 1 A n (ints vs)) (hB : B ≤ w.heap.size) (hn0 : 0 < n) (hn : n ≤ 1000)
    (hlm : L.length = m) (hr2 : Reads w B2 3 A2 m (bdCells L)) (hB2 : B2 ≤ w.heap.size) (hm : m ≤ 2000) (hv : ∀ z ∈ vs, 0 ≤ z ∧ z ≤ 1048576) (hL : ∀ b ∈ L, BdOk n b) :
    Calls Try.prog 27 #[.slice A n c, .slice A2 m c2] w (Raised n (iRaise vs L) w) := by
  have HR := Lib.hid hr
  have HR2 := Lib.hid hr2
  have HV := Lib.hid hv
  have HL := Lib.hid hL
  have Hl := Lib.hid hl
  have Hm := Lib.hid hlm
  have HA := Lib.hid hA
  clear hr hr2 hv hL hl hlm hA
  go_enter Try.func27, Try.ntmps27
  go_wp2_with (go_at_call 28; refine (clone_int A n c B (ints vs) _ HA.out HR.out hB (flat_ints vs) (by omega)).mono ?_; rintro e w1 ⟨v, rfl, hown, hbel⟩)
  obtain ⟨g, cap, rfl, hg1, hg2, hcap⟩ := own_form hown hn0
  go_loopw [6] (fun i wr => ∃ (r : Nat) (p : List Int), i = .int .i64 (r : Int) ∧ r ≤ n + 1 ∧ p.length = n ∧ (∀ z ∈ p, 0 ≤ z ∧ z ≤ 1048576) ∧ iRaise vs L = iGo n L (n + 2 - r) r p ∧ wr.ownsRow w.heap.size 3 1 (.slice (some ⟨g, 0, none⟩) n cap) n (ints p) ∧ Below w.heap.size w wr) (fun i _ => n + 2 - (intOf i).toNat)
  case atStart => exact ⟨0, vs, rfl, by omega, Hl.out, HV.out, by unfold iRaise; rw [Hl.out]; rfl, hown, hbel⟩
  case round =>
    obtain ⟨r, p, rfl, hr1, hpl, hpb, hres, ho, hb⟩ := hrel
    have HPL := Lib.hid hpl
    have HPB := Lib.hid hpb
    have HRES := Lib.hid hres
    clear hpl hpb hres
    go_wp2
    go_loopw [7, 17] (fun ch i ws => ∃ k : Nat, i = .int .i64 (k : Int) ∧ k ≤ m ∧ ch = .bool (sw p L k).2 ∧ ws.ownsRow w.heap.size 3 1 (.slice (some ⟨g, 0, none⟩) n cap) n (ints (sw p L k).1) ∧ Below w.heap.size w ws) (fun _ i _ => m - (intOf i).toNat)
    case atStart => exact ⟨0, rfl, by omega, rfl, ho, hb⟩
    case round =>
      obtain ⟨k, rfl, hk, rfl, hok, hbk⟩ := hrel
      by_cases hkm : k < m
      · obtain ⟨b2, off2, rfl, hb2, hc2⟩ := HR2.out.plain (by omega) (by omega)
        have hLk : L[k]? = some (L[k]'(by have := Hm.out; omega)) := List.getElem?_eq_getElem _
        obtain ⟨f1, f2, f3, f4, f5, f6⟩ := HL.out _ (List.mem_of_getElem? hLk)
        have hsw : sw p L (k + 1) = stepSw (sw p L k) (L[k]'(by have := Hm.out; omega)) := by simp only [sw, hLk]
        generalize L[k]'(by have := Hm.out; omega) = b at hLk f1 f2 f3 f4 f5 f6 hsw
        have HSW := Lib.hid hsw
        have hcell : ∀ j u, b.cells[j]? = some u → j < 3 → wr.cell? ⟨b2, off2 + (k * 3 + j), none⟩ = some u := fun j u hu hj =>
          (hbk.cell (p := ⟨b2, off2 + (k * 3 + j), none⟩) (by simp; omega)).trans (hc2 _ _ (by rw [bd_cells_at L k j b hLk hj]; exact hu))
        have d0 : wr.cell? ⟨b2, off2 + k * 3, none⟩ = some (.int .i64 b.f) := hcell 0 _ rfl (by omega)
        have d1 : wr.cell? ⟨b2, off2 + k * 3 + 1, none⟩ = some (.int .i64 b.t) := hcell 1 _ rfl (by omega)
        have d2 : wr.cell? ⟨b2, off2 + k * 3 + 2, none⟩ = some (.int .i64 b.c) := hcell 2 _ rfl (by omega)
        clear hcell hc2 hsw hLk
        have hql : (sw p L k).1.length = n := by rw [sw_length]; exact HPL.out
        have hqb := sw_bound n p L HPL.out HPB.out HL.out k
        have cf : wr.cell? ⟨g, b.f.toNat, none⟩ = some (.int .i64 ((sw p L k).1[b.f.toNat]?.getD 0)) := own_int_at hok hql _ (by omega)
        have ct : wr.cell? ⟨g, b.t.toNat, none⟩ = some (.int .i64 ((sw p L k).1[b.t.toNat]?.getD 0)) := own_int_at hok hql _ (by omega)
        have hgr : g < wr.heap.size := (hok.lt g rfl).2
        have ff : wr.frozen? ⟨g, b.t.toNat, none⟩ = false := hok.frozenAt _
        obtain ⟨bf1, bf2⟩ := getD_mem_bound hqb b.f.toNat (by omega)
        obtain ⟨bt1, bt2⟩ := getD_mem_bound hqb b.t.toNat (by omega)
        have HST : Hid (∀ F T, (sw p L k).1[b.f.toNat]?.getD 0 = F → (sw p L k).1[b.t.toNat]?.getD 0 = T → sw p L (k + 1) = if T < F + b.c then ((sw p L k).1.set b.t.toNat (F + b.c), true) else sw p L k) := by
          intro F T hF hT
          rw [HSW.out, ← hF, ← hT]
          rfl
        clear hqb hql
        have HST2 := HST.out _ _ rfl rfl
        clear HST HSW
        generalize (sw p L k).1[b.f.toNat]?.getD 0 = F at *
        generalize (sw p L k).1[b.t.toNat]?.getD 0 = T at *
        have HST3 := Lib.hid HST2
        clear HST2
        by_cases hgt : T < F + b.c
        · go_wp2
          go_quiet (fail)
          go_wp2
          go_roundw
          case rel =>
            refine ⟨k + 1, by go_num, by omega, ?_, ?_, ?_⟩
            · rw [HST3.out, if_pos hgt]
            · rw [HST3.out, if_pos hgt]
              exact own_int_set (own_drewN (hok.alloc _) _) _ _
            · exact (below_drewN (hbk.alloc hbk.size _) _).setCell hg1 _
          case measure => simp [intOf]; omega
        · go_wp2
          go_quiet (fail)
          go_wp2
          go_roundw
          case rel =>
            refine ⟨k + 1, by go_num, by omega, ?_, ?_, ?_⟩
            · rw [HST3.out, if_neg (by omega)]
            · rw [HST3.out, if_neg (by omega)]
              exact (own_drewN (hok.alloc _) _)
            · exact below_drewN (hbk.alloc hbk.size _) _
          case measure => simp [intOf]; omega
      · obtain rfl : k = m := by omega
        have hql : (sw p L k).1.length = n := by rw [sw_length]; exact HPL.out
        have hqb := sw_bound n p L HPL.out HPB.out HL.out k
        have hq0 : ∀ z ∈ (sw p L k).1, 0 ≤ z := fun z hz => (hqb z hz).1
        have hbad : badB (sw p L k).1 = (decide ((0 : Int) < (sw p L k).1[0]?.getD (0 : Int)) || decide (1048576 < maxUpTo (sw p L k).1 n)) := by unfold badB; rw [hql]
        have HK := Lib.hid (show k = L.length from Hm.out.symm)
        have HQL := Lib.hid hql
        have HQ0 := Lib.hid hq0
        have HBAD := Lib.hid hbad
        clear hql hqb hq0 hbad hkm
        have c0 : wr.cell? ⟨g, 0, none⟩ = some (.int .i64 ((sw p L k).1[0]?.getD 0)) := own_int_at hok HQL.out _ (by omega)
        have HC := Lib.hid (fun j (hj : j < n) => (by simpa using own_int_at hok HQL.out j hj : wr.cell? ⟨g, 0 + j, none⟩ = some (.int .i64 ((sw p L k).1[j]?.getD 0))))
        have hp0 : (0 : Int) < (n : Int) := by omega
        by_cases hpos : (0 : Int) < (sw p L k).1[0]?.getD 0
        · go_wp2
          go_ret2
          rw [HRES.out, iGo_bad (by omega) (by rw [← HK.out, HBAD.out]; simp [hpos])]
          exact ⟨rfl, hbk⟩
        · have hpd : decide ((0 : Int) < (sw p L k).1[0]?.getD (0 : Int)) = false := by simpa using hpos
          have h34 := fun W (hW : W = wr) => by subst hW; exact max_any g 0 n cap (sw p L k).1 W hn0 (by omega) HC.out
          by_cases hmx : (1048576 : Int) < maxUpTo (sw p L k).1 n
          · have H34 := Lib.hid h34
            clear h34
            go_wp2_with (go_at_call 34; refine (H34.out _ rfl).mono ?_; rintro e w2 ⟨rfl, rfl⟩)
            go_ret2
            rw [HRES.out, iGo_bad (by omega) (by rw [← HK.out, HBAD.out]; simp [hmx])]
            exact ⟨rfl, hbk⟩
          · have hmd : decide (1048576 < maxUpTo (sw p L k).1 n) = false := by simpa using hmx
            have hgood : badB (sw p L k).1 = false := by rw [HBAD.out, hpd, hmd]; rfl
            have HGOOD := Lib.hid hgood
            have H34 := Lib.hid h34
            clear h34 hgood
            by_cases hch : (sw p L k).2 = true
            · generalize hgen : (sw p L k).2 = ch at *
              subst hch
              have HGEN := Lib.hid hgen
              clear hgen
              by_cases hnr : n < r
              · go_wp2_with (go_at_call 34; refine (H34.out _ rfl).mono ?_; rintro e w2 ⟨rfl, rfl⟩)
                go_ret2
                rw [HRES.out, iGo_over (by omega) (by rw [← HK.out, HGOOD.out]) (by rw [← HK.out, HGEN.out]) hnr]
                exact ⟨rfl, hbk⟩
              · go_wp2_with (go_at_call 34; refine (H34.out _ rfl).mono ?_; rintro e w2 ⟨rfl, rfl⟩)
                go_roundw
                case rel =>
                  refine ⟨r + 1, (sw p L k).1, by go_num, by omega, HQL.out, fun z hz => ⟨HQ0.out z hz, ?_⟩, ?_, hok, hbk⟩
                  · obtain ⟨j, hj, rfl⟩ := List.getElem_of_mem hz
                    have hj' : j < n := by have := HQL.out; omega
                    have := maxUpTo_le (M := 1048576) (by omega) j hj'
                    rwa [List.getElem?_eq_getElem hj] at this
                  · rw [HRES.out, iGo_next (by omega) (by rw [← HK.out, HGOOD.out]) (by rw [← HK.out, HGEN.out]) (by omega), ← HK.out]
                    congr 1
                case measure => simp [intOf]; omega
            · have hcf : (sw p L k).2 = false := by simpa using hch
              have HCF := Lib.hid hcf
              generalize hgen : (sw p L k).2 = ch at *
              subst hcf
              have HGEN := Lib.hid hgen
              clear hgen hch
              go_wp2_with (go_at_call 34; refine (H34.out _ rfl).mono ?_; rintro e w2 ⟨rfl, rfl⟩)
              go_ret2
              rw [HRES.out, iGo_done (by omega) (by rw [← HK.out, HGOOD.out]) (by rw [← HK.out, HGEN.out]), ← HK.out]
              exact ⟨_, rfl, hok, hbk⟩
end Go.Proofs.Ytkdgeahfmmfopaa
