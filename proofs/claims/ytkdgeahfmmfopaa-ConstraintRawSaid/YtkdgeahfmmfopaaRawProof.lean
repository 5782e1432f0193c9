/- ConstraintRaw holds: for every number of variables and every list of constraints that can be read, the law returns true and leaves its arguments as they were. No condition. -/
import Derived.Test.YtkdgeahfmmfopaaRows
import Derived.Test.YtkdgeahfmmfopaaRawWalk
import Derived.WalkKit
import Derived.ProofKit
import Derived.OpenShut
import Derived.ShutString
import Derived.ChangeOld
import Derived.Below
namespace Go.Proofs.Ytkdgeahfmmfopaa.constraintRaw
set_option linter.unusedVariables false
set_option linter.unusedSimpArgs false
open Go.ChangeShapes Go.WideShapes Go.ChangeAt Go.RowKit
set_option linter.unusedVariables false

theorem own : ownKnob Try.prog.godebug = none := by kernel_rfl
theorem laidOut : laidOutB Try.prog = true := by kernel_rfl

theorem build_list {α : Type} (P : Nat → α → Prop) : ∀ n : Nat, (∀ i, i < n → ∃ c, P i c) → ∃ l : List α, l.length = n ∧ ∀ i c, l[i]? = some c → P i c := by
  intro n
  induction n with
  | zero => intro _; exact ⟨[], rfl, fun i c h => by simp at h⟩
  | succ n ih =>
    intro h
    obtain ⟨l, hl, hp⟩ := ih fun i hi => h i (by omega)
    obtain ⟨c, hc⟩ := h n (by omega)
    refine ⟨l ++ [c], by simp [hl], fun i x hx => ?_⟩
    rw [List.getElem?_append] at hx
    split at hx
    · exact hp i x hx
    · rename_i hge
      have : i = n := by
        rcases Nat.lt_or_ge (i - l.length) 1 with h1 | h1
        · omega
        · rw [List.getElem?_eq_none (by simpa using h1)] at hx; cases hx
      subst this
      rw [show i - l.length = 0 by omega] at hx
      simp at hx
      subst hx
      exact hc

theorem reads_con {w : World} {a : Addr} {l : List Con} (h : ∀ i c, l[i]? = some c → ∀ j u, c.cells[j]? = some u → w.cell? (a.add (i * 5 + j)) = some u) : Reads w w.heap.size 5 (some a) l.length (conCells l) := by
  refine ⟨con_length l, fun hn => ⟨a, rfl, ?_, fun k u hk => ?_⟩⟩
  · have hl : l[0]? = some (l[0]'hn) := List.getElem?_eq_getElem hn
    have := h 0 _ hl 0 _ rfl
    have := World.block_lt_of_cell? w _ this
    rwa [block_of_add] at this
  · have hlen := con_length l
    have hk5 : k < l.length * 5 := by
      rcases Nat.lt_or_ge k (conCells l).length with h | h
      · omega
      · rw [List.getElem?_eq_none h] at hk; cases hk
    have hi : k / 5 < l.length := by omega
    have hlk : l[k / 5]? = some (l[k / 5]'hi) := List.getElem?_eq_getElem hi
    have hj : k % 5 < 5 := Nat.mod_lt _ (by omega)
    have e : k / 5 * 5 + k % 5 = k := by omega
    have hat := con_cells_at l (k / 5) (k % 5) _ hlk hj
    rw [e] at hat
    rw [hat] at hk
    have := h _ _ hlk _ _ hk
    rwa [e] at this

set_option maxRecDepth 100000 in
theorem lifted (os : Os) (started : os.Started) (H : Type) (enc : TypeId × Value → H) :
    ReturnsInHanded {} Try.checked os 3 .any (Rows.constraintRawSpec.pre6 enc Try.prog Try.f3 Rows.constraintRawRow.domain false) (Rows.constraintRawSpec.post enc Try.prog Try.f3 false true false false) := by
  refine returnsInHanded_of_change (C := Try.checked) own started (by kernel_rfl) Try.func3
    (ChangeSpec.witness6 (enc := enc) (C := Try.checked) false ⟨#[], #[.int .i64 0, .slice none 0 0], []⟩ 8 (by kernel_rfl) (by kernel_rfl) (by kernel_rfl) (by kernel_rfl)) ?_
  intro W base args ds gs before hval0 hW hcnd _
  have hval : ∀ (j : Nat) t v, Try.f3.params[j]? = some t → args[j]? = some v → Value.okWide Try.prog W .any base t v := hval0
  have hW' := hW
  obtain ⟨p, q, hA0, hV, rfl, hfz, hnd⟩ := hW
  have hA : DataW.TrodAll enc Try.prog W 0 (fun _ => true) true Try.f3.params.toList args.toList ds p := hA0
  rw [Try.params3] at hA hval
  obtain ⟨v0, vs0, d0, ds0, p0, q0, hargs, rfl, rfl, h0, r0⟩ := trodAll_cons hA
  obtain ⟨v1, vs1, d1, ds1, p1, q1, rfl, rfl, rfl, h1, r1⟩ := trodAll_cons r0
  obtain ⟨rfl, rfl, rfl⟩ := trodAll_nil r1
  obtain rfl : args = #[v0, v1] := by cases args; simp_all
  obtain ⟨rfl, rfl⟩ := trodVars_none hV
  obtain ⟨a0, rfl, rfl, rfl, w0⟩ := open_int Try.underlying3 (hval 0 3 v0 rfl rfl) h0
  obtain ⟨a1, len1, cap1, rfl⟩ := okWide_slice Try.underlying22 (hval 1 22 v1 rfl rfl)
  have k1 := h1
  have lt1 : ∀ x ∈ p1, x.block < W.heap.size := by obtain ⟨m, hm⟩ := k1; exact DataW.trod_lt m _ _ _ hm
  obtain ⟨l, hl, hm, hnil, hr⟩ : ∃ l : List Con, l.length = len1 ∧ len1 ≤ maxLen ∧ (a1 = none → len1 = 0 ∧ cap1 = 0) ∧ Reads W W.heap.size 5 a1 len1 (conCells l) := by
    obtain ⟨fuel, hf⟩ := h1
    rcases open_slice_fields Try.underlying22 Try.underlying40 (by kernel_rfl) (by kernel_rfl) hf with ⟨hcs, _⟩ | ⟨x, len, cap, m, D, Pl, hcs, _, hl, hm, hmm, _, hi⟩
    · simp [Value.cells] at hcs
      obtain ⟨rfl, rfl, rfl⟩ := hcs
      exact ⟨[], rfl, by unfold maxLen; omega, fun _ => ⟨rfl, rfl⟩, Reads.none_⟩
    · simp [Value.cells] at hcs
      obtain ⟨rfl, rfl, rfl⟩ := hcs
      have hmc : m = cap1 := by simpa using hmm
      obtain ⟨l, hll, hlp⟩ := build_list (fun i (c : Con) => ∀ j u, c.cells[j]? = some u → W.cell? (x.add (i * 5 + j)) = some u) len1 (fun i hilt => by
        obtain ⟨ys, n, _, _, _, hj⟩ := hi i (by omega)
        obtain ⟨u0, y0, c0, _, t0⟩ := hj 0 _ rfl
        obtain ⟨u1, y1, c1, _, t1⟩ := hj 1 _ rfl
        obtain ⟨u2, y2, c2, _, t2⟩ := hj 2 _ rfl
        obtain ⟨u3, y3, c3, _, t3⟩ := hj 3 _ rfl
        obtain ⟨u4, y4, c4, _, t4⟩ := hj 4 _ rfl
        obtain ⟨n0, e0, _, _⟩ := DataW.trod_int Try.underlying3 t0
        obtain ⟨n1, e1, _, _⟩ := DataW.trod_int Try.underlying3 t1
        obtain ⟨n2, e2, _, _⟩ := DataW.trod_int Try.underlying3 t2
        obtain ⟨n3, e3, _, _⟩ := DataW.trod_int Try.underlying3 t3
        obtain ⟨n4, e4, _, _⟩ := DataW.trod_int Try.underlying3 t4
        simp at e0 e1 e2 e3 e4
        subst e0 e1 e2 e3 e4
        refine ⟨⟨n0, n1, n2, n3, n4⟩, fun j u hu => ?_⟩
        match j, hu with
        | 0, hu => simp [Con.cells] at hu; subst hu; exact c0
        | 1, hu => simp [Con.cells] at hu; subst hu; exact c1
        | 2, hu => simp [Con.cells] at hu; subst hu; exact c2
        | 3, hu => simp [Con.cells] at hu; subst hu; exact c3
        | 4, hu => simp [Con.cells] at hu; subst hu; exact c4
        | j + 5, hu => simp [Con.cells] at hu)
      refine ⟨l, hll, by omega, fun h => (by cases h), ?_⟩
      have := reads_con hlp
      rwa [hll] at this
  clear hA0 hval0
  refine (raw_any a0 a1 len1 cap1 l W hl hm hr hnil).mono fun e W' ⟨he, bel⟩ => ?_
  subst he
  exact ⟨_, rfl, _, _, _, [], _, [], hW', trodAll_mk1 (shut_bool Try.underlying4 _), (trodAll_cons_mk (shut_int Try.underlying3 w0) (trodAll_cons_mk (Below.trod laidOut (by kernel_rfl) (of_decide_eq_true (by kernel_rfl)) k1 bel lt1) trodAll_mk0)), rfl, bel.frame _, fun h => by cases h⟩

theorem over : Rows.constraintRawRow.holds Try.pinned (OpenSpec.ofChange Rows.constraintRawSpec) :=
  OpenClaim.holds_of_wide 3 Try.f3 rfl rfl rfl rfl rfl rfl rfl ⟨rfl, rfl, rfl, rfl, rfl⟩ rfl rfl rfl rfl rfl (by kernel_rfl) Try.func3 (by kernel_rfl)
    (of_decide_eq_true (by kernel_rfl)) (by unfold Func.isWrapper; first | (rw [if_pos (by decide +kernel)]; kernel_rfl) | (rw [if_neg (by decide +kernel)]; exact ⟨rfl, rfl⟩))
    (fun os started H enc _ => lifted os started H enc)

theorem proved : Rows.ConstraintRawSaid := over
#print axioms proved
end Go.Proofs.Ytkdgeahfmmfopaa.constraintRaw
