/- A verified abstract interpreter, part 17: the orders in which the operations of a region may come. -/
import Derived.Test.YtledghdlcdgepaaGreatDoorE16
noncomputable section
namespace Go.Proofs.YtledghdlcdgepaaGreatDoor
set_option linter.unusedVariables false
set_option linter.unusedSimpArgs false
open Go.RowKit

/-- What must come ahead of an operation. -/
def edg (o : Oper) : List Nat := (o.after.toList.filter fun e => Region.binds .any e).map (·.on)

/-- l is an order in which all operations of the region may come. -/
structure Lin (ops : Array Oper) (l : List Nat) : Prop where
  nodup : l.Nodup
  all : ∀ i, i ∈ l ↔ i < ops.size
  resp : ∀ l1 i l2, l = l1 ++ i :: l2 → ∀ o, ops[i]? = some o → ∀ j ∈ edg o, j ∈ l1

def topOk : Nat → List Oper → Bool
  | _, [] => true
  | i, o :: os => match (edg o).all (fun j => Nat.blt j i) with
    | true => topOk (i + 1) os
    | false => false
theorem topOk_spec : ∀ (l : List Oper) (i : Nat), topOk i l = true → ∀ k o, l[k]? = some o → ∀ j ∈ edg o, j < i + k
  | [], _, _, k, o, hk, _, _ => by simp at hk
  | x :: l, i, h, k, o, hk, j, hj => by
    unfold topOk at h
    split at h
    · rename_i hx
      cases k with
      | zero =>
        simp at hk
        subst hk
        have := List.all_eq_true.1 hx j hj
        simpa using this
      | succ k =>
        have := topOk_spec l (i + 1) h k o (by simpa using hk) j hj
        omega
    · cases h

theorem filter_lt {α : Type} (p q : α → Bool) : ∀ (l : List α) (x : α), x ∈ l → q x = true → p x = false → (∀ y, p y = true → q y = true) → (l.filter p).length < (l.filter q).length
  | [], x, hx, _, _, _ => by simp at hx
  | y :: l, x, hx, hq, hp, hpq => by
    have hle : ∀ l : List α, (l.filter p).length ≤ (l.filter q).length := by
      intro l
      induction l with
      | nil => simp
      | cons z l ih =>
        rw [List.filter_cons, List.filter_cons]
        cases hpz : p z with
        | true => simp [hpq z hpz]; exact ih
        | false => cases hqz : q z <;> simp <;> omega
    rw [List.filter_cons, List.filter_cons]
    rcases List.mem_cons.1 hx with rfl | hx
    · simp [hq, hp]
      have := hle l
      omega
    · have ih := filter_lt p q l x hx hq hp hpq
      cases hpy : p y with
      | true => simp [hpq y hpy]; exact ih
      | false => cases hqy : q y <;> simp <;> omega

def unl (m : Nat) (listed : Array Bool) : Nat := ((List.range m).filter fun i => !listed.getD i true).length

theorem getD_set_self {listed : Array Bool} {i : Nat} (d : Bool) (h : listed.getD i true = false) : (listed.setIfInBounds i true).getD i d = true := by
  have hlt : i < listed.size := by
    rcases Nat.lt_or_ge i listed.size with h' | h'
    · exact h'
    · simp [Array.getElem?_eq_none h'] at h
  simp [Array.getElem?_setIfInBounds, hlt]

theorem go_succ {ops : Array Oper} (fuel t : Nat) (listed : Array Bool) : Region.linearise.go .any ops (fuel + 1) t listed [] =
    match (Region.ready .any ops listed)[t % (Region.ready .any ops listed).length]? with
    | some i => i :: Region.linearise.go .any ops fuel (t / (Region.ready .any ops listed).length) (listed.setIfInBounds i true) []
    | none => [] := by
  simp only [Region.linearise.go]
  change (match (Region.ready .any ops listed)[t % (Region.ready .any ops listed).length]? with
      | some i => Region.linearise.go .any ops fuel (t / (Region.ready .any ops listed).length) (listed.setIfInBounds i true) [i]
      | none => [].reverse) = _
  split
  · rw [linearise_go_acc]; rfl
  · rfl

/-- What go yields, from a state of the listing. -/
structure GoR (ops : Array Oper) (listed : Array Bool) (l : List Nat) : Prop where
  nodup : l.Nodup
  fresh : ∀ i ∈ l, listed.getD i true = false ∧ i < ops.size
  all : ∀ i, i < ops.size → listed.getD i true = true ∨ i ∈ l
  resp : ∀ l1 i l2, l = l1 ++ i :: l2 → ∀ o, ops[i]? = some o → ∀ j ∈ edg o, listed.getD j false = true ∨ j ∈ l1

theorem go_lin {ops : Array Oper} (htop : topOk 0 ops.toList = true) : ∀ (fuel t : Nat) (listed : Array Bool), listed.size = ops.size → unl ops.size listed ≤ fuel → GoR ops listed (Region.linearise.go .any ops fuel t listed [])
  | 0, t, listed, hsz, hf => by
    simp only [Region.linearise.go, List.reverse_nil]
    refine ⟨List.nodup_nil, by simp, fun i hi => .inl ?_, fun l1 i l2 h => by simp at h⟩
    have h0 : unl ops.size listed = 0 := by omega
    have h1 : ((List.range ops.size).filter fun i => !listed.getD i true) = [] := List.eq_nil_of_length_eq_zero h0
    have h2 := (List.filter_eq_nil_iff.1 h1) i (List.mem_range.2 hi)
    simpa using h2
  | fuel + 1, t, listed, hsz, hf => by
    rw [go_succ]
    split
    · rename_i i hi
      have hir := List.mem_of_getElem? hi
      obtain ⟨hun, o, ho, hall⟩ := mem_ready.1 hir
      have him : i < ops.size := (Array.getElem?_eq_some_iff.1 ho).1
      have ih := go_lin htop fuel (t / (Region.ready .any ops listed).length) (listed.setIfInBounds i true) (by simpa using hsz) (by
        have : unl ops.size (listed.setIfInBounds i true) < unl ops.size listed := by
          refine filter_lt _ _ _ i (List.mem_range.2 him) (by simp [hun]) (by simp [getD_set_self true hun]) (fun y hy => ?_)
          by_cases hyi : i = y
          · subst hyi; simp [getD_set_self true hun] at hy
          · rw [getD_set_ne true hyi] at hy; exact hy
        omega)
      have hkeep : ∀ j, (listed.setIfInBounds i true).getD j true = false → j ≠ i ∧ listed.getD j true = false := fun j hj => by
        by_cases hji : i = j
        · subst hji; rw [getD_set_self true hun] at hj; cases hj
        · exact ⟨fun e => hji e.symm, by rw [getD_set_ne true hji] at hj; exact hj⟩
      refine ⟨List.nodup_cons.2 ⟨fun hm => (hkeep i (ih.fresh i hm).1).1 rfl, ih.nodup⟩, fun j hj => ?_, fun j hj => ?_, fun l1 k l2 hl ok hok j hj => ?_⟩
      · rcases List.mem_cons.1 hj with rfl | hj
        · exact ⟨hun, him⟩
        · exact ⟨(hkeep j (ih.fresh j hj).1).2, (ih.fresh j hj).2⟩
      · by_cases hji : j = i
        · right; simp [hji]
        · rcases ih.all j hj with h | h
          · left; rw [getD_set_ne true (fun e => hji e.symm)] at h; exact h
          · right; exact List.mem_cons_of_mem _ h
      · cases l1 with
        | nil =>
          simp at hl
          obtain ⟨rfl, rfl⟩ := hl
          rw [ho] at hok
          injection hok with hok
          subst hok
          left
          obtain ⟨e, he, rfl⟩ := List.mem_map.1 hj
          obtain ⟨he1, he2⟩ := List.mem_filter.1 he
          exact hall e (by simpa using he1) he2
        | cons x l1 =>
          simp at hl
          obtain ⟨rfl, hl⟩ := hl
          rcases ih.resp l1 k l2 hl ok hok j hj with h | h
          · by_cases hji : i = j
            · right; simp [hji]
            · left; rw [getD_set_ne false hji] at h; exact h
          · right; exact List.mem_cons_of_mem _ h
    · rename_i hi
      have hnil : Region.ready .any ops listed = [] := by
        cases hr : Region.ready .any ops listed with
        | nil => rfl
        | cons x xs =>
          rw [hr] at hi
          have hlt : t % (x :: xs).length < (x :: xs).length := Nat.mod_lt _ (by simp)
          simp at hi
          simp at hlt
          omega
      refine ⟨List.nodup_nil, by simp, fun i him => .inl ?_, fun l1 i l2 h => by simp at h⟩
      -- the least one that is not listed would be ready
      induction i using Nat.strongRecOn with
      | _ i ih =>
        cases hc : listed.getD i true with
        | true => rfl
        | false =>
          have hmem : i ∈ Region.ready .any ops listed := by
            refine mem_ready.2 ⟨hc, ops[i], Array.getElem?_eq_getElem him, fun e he hb => ?_⟩
            have hej : e.on ∈ edg ops[i] := List.mem_map.2 ⟨e, List.mem_filter.2 ⟨by simpa using he, hb⟩, rfl⟩
            have hlt := topOk_spec ops.toList 0 htop i ops[i] (by simp [him]) e.on hej
            have h1 := ih e.on (by omega) (by omega)
            have hlt2 : e.on < listed.size := by omega
            simp [hlt2] at h1 ⊢
            exact h1
          rw [hnil] at hmem
          simp at hmem

theorem schedule_lin {P : Program} (hm : P.follows .mixedOrders = true) {ops : Array Oper} (htop : topOk 0 ops.toList = true) (t : Nat) : Lin ops (Region.schedule (P.follows .mixedOrders) ops t) := by
  simp only [Region.schedule, hm, Bool.true_or, if_true, Region.linearise]
  have hg := go_lin htop ops.size t (Array.replicate ops.size false) (by simp) (by
    unfold unl
    refine Nat.le_trans (List.length_filter_le _ _) (by simp))
  refine ⟨hg.nodup, fun i => ⟨fun h => (hg.fresh i h).2, fun h => ?_⟩, fun l1 i l2 hl o ho j hj => ?_⟩
  · rcases hg.all i h with h2 | h2
    · simp [h] at h2
    · exact h2
  · rcases hg.resp l1 i l2 hl o ho j hj with h2 | h2
    · by_cases hjs : j < ops.size
      · simp [hjs] at h2
      · simp [hjs] at h2
    · exact h2
end Go.Proofs.YtledghdlcdgepaaGreatDoor
