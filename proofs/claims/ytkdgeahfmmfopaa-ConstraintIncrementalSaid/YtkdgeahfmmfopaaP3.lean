/- The plain law of the constraint solver: iSolve is rSolve. No program in sight. -/
import Derived.Test.YtkdgeahfmmfopaaP2
namespace Go.Proofs.Ytkdgeahfmmfopaa
set_option linter.unusedVariables false
set_option linter.unusedSimpArgs false

theorem set_get {l : List Bool} {i j : Nat} (hi : i < l.length) : ((l.set i true)[j]?.getD false = true) ↔ (j = i ∨ l[j]?.getD false = true) := by
  rw [List.getElem?_set]
  by_cases h : i = j
  · subst h; simp [hi]
  · rw [if_neg h]
    constructor
    · exact .inr
    · rintro (rfl | h2)
      · exact absurd rfl h
      · exact h2

theorem mem_accB_set {l : List Con} {held : List Bool} {k : Nat} {c : Con} (hc : l[k]? = some c) (hl : held.length = l.length) (b : Bd) :
    b ∈ accB l (held.set k true) l.length ↔ b ∈ accB l held l.length ∨ b ∈ boundsOf c := by
  have hk : k < l.length := by
    rcases Nat.lt_or_ge k l.length with h | h
    · exact h
    · rw [List.getElem?_eq_none h] at hc; cases hc
  rw [mem_accB, mem_accB]
  constructor
  · rintro ⟨i, c', h1, h2, h3, h4⟩
    rcases (set_get (by omega)).1 h3 with rfl | h3
    · rw [hc] at h2
      injection h2 with h2
      subst h2
      exact .inr h4
    · exact .inl ⟨i, c', h1, h2, h3, h4⟩
  · rintro (⟨i, c', h1, h2, h3, h4⟩ | h)
    · exact ⟨i, c', h1, h2, (set_get (by omega)).2 (.inr h3), h4⟩
    · exact ⟨k, c, hk, hc, (set_get (by omega)).2 (.inl rfl), h⟩

structure J (n : Nat) (l : List Con) (st : St) : Prop where
  dl : st.held.length = l.length
  hb : ∀ b, b ∈ st.hb ↔ b ∈ accB l st.held l.length
  ls : Lst (n + 1) st.hb st.v

theorem J.next {n : Nat} {l : List Con} {st : St} (h : ∀ c ∈ l, ConOk n c) (hj : J n l st) {k : Nat} {c : Con} (hc : l[k]? = some c) :
    (∀ v, iRaise st.v (st.hb ++ boundsOf c) = some v → J n l ⟨v, st.hb ++ boundsOf c, st.held.set k true⟩) ∧
    (iRaise st.v (st.hb ++ boundsOf c) = none → Infeas (n + 1) (accB l (st.held.set k true) l.length)) := by
  have hmem : ∀ b, b ∈ st.hb ++ boundsOf c ↔ b ∈ accB l (st.held.set k true) l.length := fun b => by
    rw [mem_accB_set hc hj.dl, List.mem_append, hj.hb b]
  have hin : BdIn (n + 1) (st.hb ++ boundsOf c) := fun b hb => accB_in h b ((hmem b).1 hb)
  obtain ⟨h1, h2⟩ := iRaise_lst (by omega) hin hj.ls (fun b hb => List.mem_append.2 (.inl hb))
  exact ⟨fun v hv => ⟨by simpa using hj.dl, hmem, h1 v hv⟩, fun hn => (h2 hn).congr hmem⟩

/-- The states of the solver and of the reference beside each other, in strength s before constraint k. -/
structure Sim (n : Nat) (l : List Con) (s : Int) (k : Nat) (st : St) (r : List Bool × List Int) : Prop where
  j : J n l st
  hd : st.held = r.1
  vv : st.v = 0 :: r.2
  fl : ∀ (i : Nat) (c : Con), l[i]? = some c → st.held[i]?.getD false = true → c.S < s ∨ (c.S = s ∧ i < k)

theorem sim_step {n : Nat} {l : List Con} {s : Int} {k : Nat} {st : St} {r : List Bool × List Int} {c : Con} (h : ∀ c ∈ l, ConOk n c) (hs : s ≠ 0) (hc : l[k]? = some c) (hsim : Sim n l s k st r) :
    ∃ st', iStep s k c st = some st' ∧ Sim n l s (k + 1) st' (rStep n l s k c r) := by
  have hk : k < l.length := by
    rcases Nat.lt_or_ge k l.length with h | h
    · exact h
    · rw [List.getElem?_eq_none h] at hc; cases hc
  unfold iStep rStep
  by_cases hS : c.S = s
  · have hS' : ¬ c.S ≠ s := by simpa using hS
    rw [if_neg hS', if_neg hS']
    obtain ⟨h1, h2⟩ := hsim.j.next h hc
    obtain ⟨g1, g2⟩ := rLeast_lst (acc := r.1.set k true) h
    rw [hsim.hd] at h1 h2
    cases hi : iRaise st.v (st.hb ++ boundsOf c) with
    | none =>
      have hinf := h2 hi
      cases hr : rLeast n l (r.1.set k true) with
      | some x => exact absurd hinf (fun hinf => (g1 x hr).infeas hinf)
      | none =>
        rw [if_neg hs]
        refine ⟨st, rfl, hsim.j, ?_, hsim.vv, fun i c' hi' hh => ?_⟩
        · -- the mark of constraint k was not set
          have hkf : st.held[k]?.getD false = false := by
            cases hb : st.held[k]?.getD false with
            | false => rfl
            | true =>
              rcases hsim.fl k c hc hb with h | h
              · omega
              · omega
          show st.held = r.1.set k false
          rw [← hsim.hd]
          have hlen : k < st.held.length := by rw [hsim.j.dl]; exact hk
          apply List.ext_getElem?
          intro i
          rw [List.getElem?_set]
          by_cases hik : k = i
          · subst hik
            rw [if_pos rfl, if_pos hlen]
            rw [List.getElem?_eq_getElem hlen] at hkf ⊢
            simpa using hkf
          · rw [if_neg hik]
        · rcases hsim.fl i c' hi' hh with h | ⟨h, h'⟩
          · exact .inl h
          · exact .inr ⟨h, by omega⟩
    | some v =>
      have hjn := h1 v hi
      cases hr : rLeast n l (r.1.set k true) with
      | none => exact absurd (g2 hr) (fun hinf => ((hjn.ls).congr hjn.hb).infeas hinf)
      | some x =>
        refine ⟨_, rfl, ?_, ?_, ?_, ?_⟩
        · rw [hsim.hd]; exact hjn
        · show st.held.set k true = r.1.set k true
          rw [hsim.hd]
        · exact ((hjn.ls).congr hjn.hb).unique (g1 x hr)
        · intro i c' hi' hh
          have hh' : (st.held.set k true)[i]?.getD false = true := hh
          rcases (set_get (by rw [hsim.j.dl]; exact hk)).1 hh' with rfl | hh'
          · rw [hc] at hi'
            injection hi' with hi'
            subst hi'
            exact .inr ⟨hS, by omega⟩
          · rcases hsim.fl i c' hi' hh' with h | ⟨h, h'⟩
            · exact .inl h
            · exact .inr ⟨h, by omega⟩
  · rw [if_pos hS, if_pos hS]
    refine ⟨st, rfl, hsim.j, hsim.hd, hsim.vv, fun i c' hi' hh => ?_⟩
    rcases hsim.fl i c' hi' hh with h | ⟨h, h'⟩
    · exact .inl h
    · exact .inr ⟨h, by omega⟩

theorem sim_in {n : Nat} {l : List Con} {s : Int} {st : St} {r : List Bool × List Int} (h : ∀ c ∈ l, ConOk n c) (hs : s ≠ 0) (hsim : Sim n l s 0 st r) : ∀ k, k ≤ l.length →
    ∃ st', iIn s l st k = some st' ∧ Sim n l s k st' (rIn n l s r k) := by
  intro k
  induction k with
  | zero => intro _; exact ⟨st, rfl, hsim⟩
  | succ k ih =>
    intro hk
    obtain ⟨st', h1, h2⟩ := ih (by omega)
    have hlk : l[k]? = some l[k] := List.getElem?_eq_getElem (by omega)
    obtain ⟨st2, h3, h4⟩ := sim_step h hs hlk h2
    refine ⟨st2, ?_, ?_⟩
    · simp only [iIn, h1, hlk, h3]
    · simp only [rIn, hlk]; exact h4

/-- The required constraints, one by one. -/
theorem req_in {n : Nat} {l : List Con} (h : ∀ c ∈ l, ConOk n c) : ∀ k, k ≤ l.length →
    (∃ st', iIn 0 l (st0 n l.length) k = some st' ∧ J n l st' ∧ st'.held = heldTo l k) ∨ (iIn 0 l (st0 n l.length) k = none ∧ Infeas (n + 1) (accB l (held0 l) l.length)) := by
  have hstart : J n l (st0 n l.length) := by
    refine ⟨by simp [st0], fun b => ?_, zeros_lst (n + 1)⟩
    constructor
    · intro hb; simp [st0] at hb
    · intro hb
      obtain ⟨i, c, h1, h2, h3, h4⟩ := mem_accB.1 hb
      simp only [st0, List.getElem?_replicate] at h3
      split at h3 <;> simp at h3
  intro k
  induction k with
  | zero =>
    intro _
    exact .inl ⟨_, rfl, hstart, by rw [heldTo_zero]; rfl⟩
  | succ k ih =>
    intro hk
    have hlk : l[k]? = some l[k] := List.getElem?_eq_getElem (by omega)
    rcases ih (by omega) with ⟨st', h1, h2, h3⟩ | ⟨h1, h2⟩
    · have hstep : iIn 0 l (st0 n l.length) (k + 1) = iStep 0 k l[k] st' := by simp only [iIn, h1, hlk]
      rw [hstep, heldTo_succ l k _ hlk]
      unfold iStep
      by_cases hS : l[k].S = 0
      · have hS' : ¬ l[k].S ≠ 0 := by simpa using hS
        rw [if_neg hS']
        have hSb : (l[k].S == 0) = true := by simpa using hS
        obtain ⟨g1, g2⟩ := h2.next h hlk
        cases hi : iRaise st'.v (st'.hb ++ boundsOf l[k]) with
        | none =>
          right
          refine ⟨by simp, (g2 hi).more fun b hb => ?_⟩
          obtain ⟨i, c, a1, a2, a3, a4⟩ := mem_accB.1 hb
          refine mem_accB.2 ⟨i, c, a1, a2, ?_, a4⟩
          have hii : i = k ∨ (heldTo l k)[i]?.getD false = true := by
            rw [h3] at a3
            exact (set_get (by rw [heldTo_length _ _ (by omega)]; omega)).1 a3
          have h0i : (held0 l)[i]? = some (c.S == 0) := by simp [held0, a2]
          rw [h0i]
          rcases hii with rfl | hii
          · rw [hlk] at a2
            injection a2 with a2
            subst a2
            simpa using hSb
          · unfold heldTo at hii
            by_cases hik : i < ((held0 l).take k).length
            · rw [List.getElem?_append_left hik, List.getElem?_take] at hii
              split at hii
              · rw [h0i] at hii; exact hii
              · simp at hii
            · rw [List.getElem?_append_right (by omega), List.getElem?_replicate] at hii
              split at hii <;> simp at hii
        | some v =>
          left
          refine ⟨_, rfl, g1 v hi, ?_⟩
          show st'.held.set k true = _
          rw [h3, hSb]
      · rw [if_pos hS]
        left
        refine ⟨st', rfl, h2, ?_⟩
        have hSb : (l[k].S == 0) = false := by simpa using hS
        rw [hSb, h3]
        -- the mark is false there
        apply List.ext_getElem?
        intro i
        rw [List.getElem?_set]
        by_cases hik : k = i
        · subst hik
          have hlen : ((held0 l).take k).length = k := by simp [held0]; omega
          rw [if_pos rfl, if_pos (by rw [heldTo_length _ _ (by omega)]; omega)]
          unfold heldTo
          rw [List.getElem?_append_right (by omega), List.getElem?_replicate, hlen, if_pos (by omega)]
        · rw [if_neg hik]
    · right
      refine ⟨?_, h2⟩
      simp only [iIn, h1]

theorem ConOk_of_valid {n : Nat} {c : Con} (h : validB n c = true) : ConOk n c := by
  simp only [validB, decide_eq_true_eq] at h
  obtain ⟨y1, y2, y3, y4, y5, y6, y7, y8, y9, y10⟩ := h
  exact ⟨y1, y2, y3, y4, y5, y6, y7, y8⟩

/-- All rounds: the solver's state beside the reference's, or both refuse. -/
theorem sim_all {n : Nat} {l : List Con} (h : ∀ c ∈ l, ConOk n c) :
    (∃ x st, rLeast n l (held0 l) = some x ∧ iOut l (st0 n l.length) 4 = some st ∧ Sim n l 3 l.length st (rOut n l (held0 l, x) 3)) ∨
    (rLeast n l (held0 l) = none ∧ iOut l (st0 n l.length) 4 = none) := by
  obtain ⟨g1, g2⟩ := rLeast_lst (acc := held0 l) h
  have h0 : iOut l (st0 n l.length) 1 = iIn 0 l (st0 n l.length) l.length := by simp only [iOut]; rfl
  rcases req_in h l.length (Nat.le_refl _) with ⟨st, h1, h2, h3⟩ | ⟨h1, h2⟩
  · rw [heldTo_all] at h3
    cases hr : rLeast n l (held0 l) with
    | none => exact absurd (g2 hr) (fun hinf => ((h2.ls).congr (by rw [← h3]; exact h2.hb)).infeas hinf)
    | some x =>
      left
      have hstart : Sim n l 1 0 st (held0 l, x) := by
        refine ⟨h2, h3, ((h2.ls).congr (by rw [← h3]; exact h2.hb)).unique (g1 x hr), fun i c hc hh => .inl ?_⟩
        rw [h3] at hh
        have : (held0 l)[i]? = some (c.S == 0) := by simp [held0, hc]
        rw [this] at hh
        have : c.S = 0 := by simpa using hh
        omega
      have hn : ∀ s : Nat, s ≤ 3 → ∃ st, iOut l (st0 n l.length) (s + 1) = some st ∧ Sim n l ((s : Int) + 1) 0 st (rOut n l (held0 l, x) s) ∧ (0 < s → Sim n l (s : Int) l.length st (rOut n l (held0 l, x) s)) := by
        intro s
        induction s with
        | zero => intro _; exact ⟨st, by rw [h0]; exact h1, hstart, fun h => by omega⟩
        | succ s ih =>
          intro hs
          obtain ⟨st1, a1, a2, _⟩ := ih (by omega)
          obtain ⟨st2, b1, b2⟩ := sim_in h (by omega) a2 l.length (Nat.le_refl _)
          refine ⟨st2, ?_, ?_, fun _ => ?_⟩
          · rw [iOut, a1]
            exact b1
          · refine ⟨b2.j, b2.hd, b2.vv, fun i c hc hh => ?_⟩
            rcases b2.fl i c hc hh with h | ⟨h, _⟩
            · exact .inl (by omega)
            · exact .inl (by omega)
          · exact b2
      obtain ⟨st3, a1, _, a3⟩ := hn 3 (Nat.le_refl _)
      exact ⟨x, st3, rfl, a1, a3 (by omega)⟩
  · right
    refine ⟨?_, iOut_none (by rw [h0]; exact h1 : iOut l (st0 n l.length) 1 = none) 3⟩
    cases hr : rLeast n l (held0 l) with
    | none => rfl
    | some x => exact absurd h2 (fun hinf => (g1 x hr).infeas hinf)

theorem solve_eq (vars : Int) (l : List Con) : iSolve vars l = rSolve vars l := by
  unfold iSolve rSolve
  split
  · rfl
  · split
    · rfl
    · split
      · rfl
      · rename_i h1 h2 h3
        obtain ⟨n, rfl⟩ := Int.eq_ofNat_of_zero_le (show 0 ≤ vars by omega)
        rw [Int.toNat_natCast]
        have hall : ∀ c ∈ l, ConOk n c := fun c hc => ConOk_of_valid (by
          have : l.all (validB (n : Int)) = true := by simpa using h3
          exact List.all_eq_true.1 this c hc)
        rcases sim_all hall with ⟨x, st, a1, a2, a3⟩ | ⟨a1, a2⟩
        · rw [a1, a2]
          simp only
          rw [a3.hd, a3.vv]
          rfl
        · rw [a1, a2]
end Go.Proofs.Ytkdgeahfmmfopaa
