/- Arguments opened: a struct of eight fields by value, slices of the font's three kinds of entries. -/
import Derived.Test.YtagokefbbdlpcaaF3
import Derived.Lib.SmallJoins
namespace Go.Proofs.Ytagokefbbdlpcaa
set_option linter.unusedVariables false
set_option linter.unusedSimpArgs false
open Go.Joins Go.ChangeShapes Go.WideShapes Go.RowKit Go.Deep

theorem build_list {α : Type} (P : Nat → α → Prop) : ∀ n : Nat, (∀ i, i < n → ∃ c, P i c) → ∃ l : List α, l.length = n ∧ ∀ i c, l[i]? = some c → P i c := by
  intro n
  induction n with
  | zero => intro _; exact ⟨[], rfl, fun i c h => by simp at h⟩
  | succ n ih =>
    intro h
    obtain ⟨l, hl, hp⟩ := ih fun i hi => h i (by omega)
    obtain ⟨c, hc⟩ := h n (by omega)
    refine ⟨l ++ [c], by simp [hl], fun i x hx => ?_⟩
    rw [List.getElem?_append] at hx
    split at hx
    · exact hp i x hx
    · rename_i hge
      have : i = n := by
        rcases Nat.lt_or_ge (i - l.length) 1 with h1 | h1
        · omega
        · rw [List.getElem?_eq_none (by simpa using h1)] at hx; cases hx
      subst this
      rw [show i - l.length = 0 by omega] at hx
      simp at hx
      subst hx
      exact hc

theorem reads_of {α : Type} (cells : α → List Value) (size : Nat) (hs : ∀ x, (cells x).length = size) (hp : 0 < size) {w : World} {a : Addr} {l : List α}
    (h : ∀ i c, l[i]? = some c → ∀ j u, (cells c)[j]? = some u → w.cell? (a.add (i * size + j)) = some u) : Reads w w.heap.size size (some a) l.length (l.flatMap cells) := by
  refine ⟨flat_len cells size hs l, fun hn => ⟨a, rfl, ?_, fun k u hk => ?_⟩⟩
  · have hl : l[0]? = some (l[0]'hn) := List.getElem?_eq_getElem hn
    have hz : (cells (l[0]'hn))[0]? = some ((cells (l[0]'hn))[0]'(by rw [hs]; exact hp)) := List.getElem?_eq_getElem _
    have := h 0 _ hl 0 _ hz
    have := World.block_lt_of_cell? w _ this
    rwa [block_of_add] at this
  · have hlen := flat_len cells size hs l
    have hk5 : k < l.length * size := by
      rcases Nat.lt_or_ge k (l.flatMap cells).length with h | h
      · omega
      · rw [List.getElem?_eq_none h] at hk; cases hk
    have hi : k / size < l.length := Nat.div_lt_of_lt_mul (by rw [Nat.mul_comm]; exact hk5)
    have hlk : l[k / size]? = some (l[k / size]'hi) := List.getElem?_eq_getElem hi
    have hj : k % size < size := Nat.mod_lt _ hp
    have e : k / size * size + k % size = k := by rw [Nat.mul_comm]; exact Nat.div_add_mod k size
    have hat := flat_at cells size hs l (k / size) (k % size) _ hlk hj
    rw [e] at hat
    rw [hat] at hk
    have := h _ _ hlk _ _ hk
    rwa [e] at this
section
variable {H : Type} {enc : TypeId × Value → H} {P : Program} {w : World} {base : Nat} {spare : Nat → Bool} {held : Bool}
set_option maxHeartbeats 1000000 in
theorem open_agg8 {r : Reach} {b0 : Nat} {t : TypeId} {f0 f1 f2 f3 f4 f5 f6 f7 : Field} {v : Value} {d : DataW H} {p : List MemPlace} (hs : P.underlying t = some (.struct #[f0, f1, f2, f3, f4, f5, f6, f7])) (hone : oneCellFields P #[f0, f1, f2, f3, f4, f5, f6, f7] = true) (hC : P.cellsOf t = 8)
    (hv : Value.okWide P w r b0 t v) (h : DataW.Trod enc P w base spare held t v d p) :
    ∃ (v0 v1 v2 v3 v4 v5 v6 v7 : Value) (y0 y1 y2 y3 y4 y5 y6 y7 : DataW H × List MemPlace) (n : Nat), v = .agg #[v0, v1, v2, v3, v4, v5, v6, v7] ∧
      DataW.trod enc P w base spare held n f0.type [v0] = some y0 ∧ DataW.trod enc P w base spare held n f1.type [v1] = some y1 ∧ DataW.trod enc P w base spare held n f2.type [v2] = some y2 ∧ DataW.trod enc P w base spare held n f3.type [v3] = some y3 ∧ DataW.trod enc P w base spare held n f4.type [v4] = some y4 ∧ DataW.trod enc P w base spare held n f5.type [v5] = some y5 ∧ DataW.trod enc P w base spare held n f6.type [v6] = some y6 ∧ DataW.trod enc P w base spare held n f7.type [v7] = some y7 := by
  obtain ⟨cs, rfl, hsz⟩ := okWide_struct hs hv
  obtain ⟨l⟩ := cs
  match l, hsz.trans hC with
  | [c0, c1, c2, c3, c4, c5, c6, c7], _ =>
    obtain ⟨fuel, hf⟩ := h
    obtain ⟨xs, n, _, hx, _, hlen, hg⟩ := DataW.trod_struct hs hf
    obtain ⟨o0, k0⟩ := hone_of hone 0 f0 rfl
    obtain ⟨o1, k1⟩ := hone_of hone 1 f1 rfl
    obtain ⟨o2, k2⟩ := hone_of hone 2 f2 rfl
    obtain ⟨o3, k3⟩ := hone_of hone 3 f3 rfl
    obtain ⟨o4, k4⟩ := hone_of hone 4 f4 rfl
    obtain ⟨o5, k5⟩ := hone_of hone 5 f5 rfl
    obtain ⟨o6, k6⟩ := hone_of hone 6 f6 rfl
    obtain ⟨o7, k7⟩ := hone_of hone 7 f7 rfl
    match xs, hlen with
    | [y0, y1, y2, y3, y4, y5, y6, y7], _ =>
      exact ⟨c0, c1, c2, c3, c4, c5, c6, c7, y0, y1, y2, y3, y4, y5, y6, y7, n, rfl, by simpa [Value.cells, o0, k0] using hg 0 f0 rfl, by simpa [Value.cells, o1, k1] using hg 1 f1 rfl, by simpa [Value.cells, o2, k2] using hg 2 f2 rfl, by simpa [Value.cells, o3, k3] using hg 3 f3 rfl, by simpa [Value.cells, o4, k4] using hg 4 f4 rfl, by simpa [Value.cells, o5, k5] using hg 5 f5 rfl, by simpa [Value.cells, o6, k6] using hg 6 f6 rfl, by simpa [Value.cells, o7, k7] using hg 7 f7 rfl⟩
end

theorem open_adv {H : Type} {enc : TypeId × Value → H} {W : World} {base : Nat} {spare : Nat → Bool} {held : Bool} {n : Nat} {v : Value} {y : DataW H × List MemPlace} (h : DataW.trod enc Try.prog W base spare held n 34 [v] = some y) :
    ∃ (A : Option Addr) (c : Nat) (l : List Adv), v = .slice A l.length c ∧ l.length ≤ maxLen ∧ Reads W W.heap.size 3 A l.length (acells l) := by
  rcases open_slice_fields Try.underlying34 Try.underlying54 (by kernel_rfl) (by kernel_rfl) h with ⟨hcs, _⟩ | ⟨x, len, cap, m, D, Pl, hcs, _, hl, hm, hmm, _, hi⟩
  · simp at hcs
    subst hcs
    exact ⟨none, 0, [], rfl, by simp, Reads.none_⟩
  · simp at hcs
    subst hcs
    have hle : len ≤ m := by subst hmm; split <;> omega
    obtain ⟨l, hll, hlp⟩ := build_list (fun i (c : Adv) => ∀ j u, c.cells[j]? = some u → W.cell? (x.add (i * 3 + j)) = some u) len (fun i hilt => by
      obtain ⟨ys, n, _, _, _, hj⟩ := hi i (by omega)
      obtain ⟨u0, y0, c0, _, t0⟩ := hj 0 _ rfl
      obtain ⟨n0, e0, _, _⟩ := DataW.trod_int Try.underlying21 t0
      obtain ⟨u1, y1, c1, _, t1⟩ := hj 1 _ rfl
      obtain ⟨n1, e1, _, _⟩ := DataW.trod_int Try.underlying21 t1
      obtain ⟨u2, y2, c2, _, t2⟩ := hj 2 _ rfl
      obtain ⟨n2, e2, _, _⟩ := DataW.trod_int Try.underlying3 t2
      simp at e0 e1 e2
      subst e0 e1 e2
      refine ⟨⟨n0, n1, n2⟩, fun j u hu => ?_⟩
      match j, hu with
      | 0, hu => simp [Adv.cells] at hu; subst hu; exact c0
      | 1, hu => simp [Adv.cells] at hu; subst hu; exact c1
      | 2, hu => simp [Adv.cells] at hu; subst hu; exact c2
      | j + 3, hu => simp [Adv.cells] at hu)
    subst hll
    exact ⟨some x, cap, l, rfl, by omega, reads_of Adv.cells 3 (fun _ => rfl) (by omega) hlp⟩

theorem open_ker {H : Type} {enc : TypeId × Value → H} {W : World} {base : Nat} {spare : Nat → Bool} {held : Bool} {n : Nat} {v : Value} {y : DataW H × List MemPlace} (h : DataW.trod enc Try.prog W base spare held n 35 [v] = some y) :
    ∃ (A : Option Addr) (c : Nat) (l : List Ker), v = .slice A l.length c ∧ l.length ≤ maxLen ∧ Reads W W.heap.size 3 A l.length (kcells l) := by
  rcases open_slice_fields Try.underlying35 Try.underlying48 (by kernel_rfl) (by kernel_rfl) h with ⟨hcs, _⟩ | ⟨x, len, cap, m, D, Pl, hcs, _, hl, hm, hmm, _, hi⟩
  · simp at hcs
    subst hcs
    exact ⟨none, 0, [], rfl, by simp, Reads.none_⟩
  · simp at hcs
    subst hcs
    have hle : len ≤ m := by subst hmm; split <;> omega
    obtain ⟨l, hll, hlp⟩ := build_list (fun i (c : Ker) => ∀ j u, c.cells[j]? = some u → W.cell? (x.add (i * 3 + j)) = some u) len (fun i hilt => by
      obtain ⟨ys, n, _, _, _, hj⟩ := hi i (by omega)
      obtain ⟨u0, y0, c0, _, t0⟩ := hj 0 _ rfl
      obtain ⟨n0, e0, _, _⟩ := DataW.trod_int Try.underlying21 t0
      obtain ⟨u1, y1, c1, _, t1⟩ := hj 1 _ rfl
      obtain ⟨n1, e1, _, _⟩ := DataW.trod_int Try.underlying21 t1
      obtain ⟨u2, y2, c2, _, t2⟩ := hj 2 _ rfl
      obtain ⟨n2, e2, _, _⟩ := DataW.trod_int Try.underlying3 t2
      simp at e0 e1 e2
      subst e0 e1 e2
      refine ⟨⟨n0, n1, n2⟩, fun j u hu => ?_⟩
      match j, hu with
      | 0, hu => simp [Ker.cells] at hu; subst hu; exact c0
      | 1, hu => simp [Ker.cells] at hu; subst hu; exact c1
      | 2, hu => simp [Ker.cells] at hu; subst hu; exact c2
      | j + 3, hu => simp [Ker.cells] at hu)
    subst hll
    exact ⟨some x, cap, l, rfl, by omega, reads_of Ker.cells 3 (fun _ => rfl) (by omega) hlp⟩

theorem open_lig {H : Type} {enc : TypeId × Value → H} {W : World} {base : Nat} {spare : Nat → Bool} {held : Bool} {n : Nat} {v : Value} {y : DataW H × List MemPlace} (h : DataW.trod enc Try.prog W base spare held n 36 [v] = some y) :
    ∃ (A : Option Addr) (c : Nat) (l : List Lig), v = .slice A l.length c ∧ l.length ≤ maxLen ∧ Reads W W.heap.size 4 A l.length (lcells l) := by
  rcases open_slice_fields Try.underlying36 Try.underlying50 (by kernel_rfl) (by kernel_rfl) h with ⟨hcs, _⟩ | ⟨x, len, cap, m, D, Pl, hcs, _, hl, hm, hmm, _, hi⟩
  · simp at hcs
    subst hcs
    exact ⟨none, 0, [], rfl, by simp, Reads.none_⟩
  · simp at hcs
    subst hcs
    have hle : len ≤ m := by subst hmm; split <;> omega
    obtain ⟨l, hll, hlp⟩ := build_list (fun i (c : Lig) => ∀ j u, c.cells[j]? = some u → W.cell? (x.add (i * 4 + j)) = some u) len (fun i hilt => by
      obtain ⟨ys, n, _, _, _, hj⟩ := hi i (by omega)
      obtain ⟨u0, y0, c0, _, t0⟩ := hj 0 _ rfl
      obtain ⟨n0, e0, _, _⟩ := DataW.trod_int Try.underlying21 t0
      obtain ⟨u1, y1, c1, _, t1⟩ := hj 1 _ rfl
      obtain ⟨n1, e1, _, _⟩ := DataW.trod_int Try.underlying21 t1
      obtain ⟨u2, y2, c2, _, t2⟩ := hj 2 _ rfl
      obtain ⟨n2, e2, _, _⟩ := DataW.trod_int Try.underlying3 t2
      obtain ⟨u3, y3, c3, _, t3⟩ := hj 3 _ rfl
      obtain ⟨n3, e3, _, _⟩ := DataW.trod_int Try.underlying3 t3
      simp at e0 e1 e2 e3
      subst e0 e1 e2 e3
      refine ⟨⟨n0, n1, n2, n3⟩, fun j u hu => ?_⟩
      match j, hu with
      | 0, hu => simp [Lig.cells] at hu; subst hu; exact c0
      | 1, hu => simp [Lig.cells] at hu; subst hu; exact c1
      | 2, hu => simp [Lig.cells] at hu; subst hu; exact c2
      | 3, hu => simp [Lig.cells] at hu; subst hu; exact c3
      | j + 4, hu => simp [Lig.cells] at hu)
    subst hll
    exact ⟨some x, cap, l, rfl, by omega, reads_of Lig.cells 4 (fun _ => rfl) (by omega) hlp⟩
end Go.Proofs.Ytagokefbbdlpcaa
