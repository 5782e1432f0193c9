/- A verified abstract interpreter, part 22: the meet of two states. -/
import Derived.Test.YtledghdlcdgepaaGreatDoorE21
noncomputable section
namespace Go.Proofs.YtledghdlcdgepaaGreatDoor
set_option linter.unusedVariables false
set_option linter.unusedSimpArgs false
open Go.RowKit

/-- The part of a trie of which p holds; the key of a node is a * k + b. -/
def filT {α : Type} (p : Nat → α → Bool) : Nat → Nat → Tr α → Tr α
  | _, _, .leaf => .leaf
  | a, b, .node l v r => .node (filT p (2 * a) (a + b) l) (match v with
    | some x => match p b x with
      | true => some x
      | false => none
    | none => none) (filT p (2 * a) (2 * a + b) r)
theorem filT_get {α : Type} {p : Nat → α → Bool} : ∀ (t : Tr α) (a b k : Nat) (x : α), (filT p a b t).get k = some x → t.get k = some x ∧ p (a * k + b) x = true
  | .leaf, a, b, k, x, h => by simp [filT, Tr.get_leaf] at h
  | .node l v r, a, b, k, x, h => by
    unfold filT at h
    rw [Tr.get_node] at h
    rw [Tr.get_node]
    split at h
    · rename_i hk
      rw [if_pos hk]
      subst hk
      cases v with
      | none => cases h
      | some y =>
        simp only at h
        split at h
        · rename_i hp
          injection h with h
          subst h
          exact ⟨rfl, by simpa using hp⟩
        · cases h
    · rename_i hk
      rw [if_neg hk]
      split at h
      · rename_i h2
        rw [if_pos h2]
        obtain ⟨h3, h4⟩ := filT_get r _ _ _ x h
        refine ⟨h3, ?_⟩
        have e : a * k + b = 2 * a * (k / 2 - 1) + (2 * a + b) := by
          have hk2 : k = 2 * (k / 2 - 1) + 2 := by omega
          generalize k / 2 - 1 = q at hk2 ⊢
          rw [hk2, Nat.mul_add, ← Nat.mul_assoc, Nat.mul_comm a 2]
          omega
        rw [e]; exact h4
      · rename_i h2
        rw [if_neg h2]
        obtain ⟨h3, h4⟩ := filT_get l _ _ _ x h
        refine ⟨h3, ?_⟩
        have e : a * k + b = 2 * a * (k / 2) + (a + b) := by
          have hk2 : k = 2 * (k / 2) + 1 := by omega
          generalize k / 2 = q at hk2 ⊢
          rw [hk2, Nat.mul_add, ← Nat.mul_assoc, Nat.mul_comm a 2]
          omega
        rw [e]; exact h4

def pvB (s m : Nat) : List Nat → List Nat → Bool
  | [], [] => true
  | i :: l, j :: k => match Nat.beq (sh s m i) j with
    | true => pvB s m l k
    | false => false
  | _, _ => false
theorem pvB_eq {s m : Nat} : ∀ (l k : List Nat), pvB s m l k = true → k = l.map (sh s m)
  | [], [], _ => rfl
  | [], _ :: _, h => by simp [pvB] at h
  | _ :: _, [], h => by simp [pvB] at h
  | i :: l, j :: k, h => by
    unfold pvB at h
    split at h
    · rename_i h1; rw [← nat_beq_true.1 h1, pvB_eq l k h]; rfl
    · cases h
def entB (n s m : Nat) : List (Value × Value) → List (Value × Value) → Bool
  | [], [] => true
  | (x, u) :: l, (y, v) :: k => match vrn n s m 60 x y, vrn n s m 60 u v with
    | true, true => entB n s m l k
    | _, _ => false
  | _, _ => false
theorem entB_ok {n s m : Nat} : ∀ (l k : List (Value × Value)), entB n s m l k = true → l.length = k.length ∧ ∀ (i : Nat) (x y : Value × Value), l[i]? = some x → k[i]? = some y → ShR n s m x.1 y.1 ∧ ShR n s m x.2 y.2
  | [], [], _ => ⟨rfl, fun i x y hx => by simp at hx⟩
  | [], _ :: _, h => by simp [entB] at h
  | _ :: _, [], h => by simp [entB] at h
  | (x, u) :: l, (y, v) :: k, h => by
    unfold entB at h
    split at h
    · rename_i h1 h2
      obtain ⟨q1, q2⟩ := entB_ok l k h
      refine ⟨by simp [q1], fun i a b ha hb => ?_⟩
      cases i with
      | zero => simp at ha hb; subst ha; subst hb; exact ⟨vrn_ok _ _ _ h1, vrn_ok _ _ _ h2⟩
      | succ i => exact q2 i a b (by simpa using ha) (by simpa using hb)
    · cases h
def blkB (n s m : Nat) : ABlk → ABlk → Bool
  | .cells cs e pv t, .cells cs' e' pv' t' => match Nat.beq e e', t == t', pvB s m pv pv' with
    | true, true, true => veqs (vrn n s m 60) cs cs'
    | _, _, _ => false
  | .map es, .map es' => entB n s m es es'
  | _, _ => false
theorem veqs_sh {n s m : Nat} {cs ds : List Value} (h : veqs (vrn n s m 60) cs ds = true) : cs.length = ds.length ∧ ∀ (k : Nat) (x y : Value), cs[k]? = some x → ds[k]? = some y → ShR n s m x y := by
  obtain ⟨h1, h2⟩ := veqs_idx cs ds h
  exact ⟨h1, fun k x y hx hy => vrn_ok _ _ _ (h2 k x y hx hy)⟩

theorem Sim.shift {P : Program} {N : Nat → Prop} {r : Ren} {h hm : AH} {w : World} {s m : Nat} (hS : Sim P N r h w) (hsm : s ≤ m)
    (hb : ∀ i b, hm.get i = some b → i < hm.n ∧ ∃ b', h.get (sh s m i) = some b' ∧ blkB hm.n s m b b' = true) : Sim P N (r.sh s m) hm w := by
  have cell : ∀ i cs e pv t, hm.get i = some (.cells cs e pv t) → ∃ cs' , h.get (sh s m i) = some (.cells cs' e (pv.map (sh s m)) t) ∧ veqs (vrn hm.n s m 60) cs cs' = true := fun i cs e pv t hi => by
    obtain ⟨_, b', h1, h2⟩ := hb i _ hi
    cases b' with
    | map es => simp [blkB] at h2
    | cells cs' e' pv' t' =>
      simp only [blkB] at h2
      split at h2
      · rename_i c1 c2 c3
        rw [← nat_beq_true.1 c1, ← eq_of_beq c2, pvB_eq _ _ c3] at h1
        exact ⟨cs', h1, h2⟩
      · cases h2
  have mp : ∀ i es, hm.get i = some (.map es) → ∃ es', h.get (sh s m i) = some (.map es') ∧ entB hm.n s m es es' = true := fun i es hi => by
    obtain ⟨_, b', h1, h2⟩ := hb i _ hi
    cases b' with
    | cells cs e pv t => simp [blkB] at h2
    | map es' => exact ⟨es', h1, h2⟩
  refine ⟨fun i b hi => ?_, fun i b hi => (hb i b hi).1, fun i b hi => ?_, fun i cs e x t hi ht => ?_, fun i es hi => ?_, fun i cs e pv hi j b hj hne heq => ?_, fun i es hi j b hj hne => ?_, fun i cs e x hi j cs' e' x' t' hj heq => ?_, hS.size⟩
  · cases b with
    | cells cs e pv t =>
      obtain ⟨cs', h1, h2⟩ := cell i cs e pv t hi
      obtain ⟨h3, h4⟩ := veqs_sh h2
      obtain ⟨arr, inf, ⟨fz, q1, q1f⟩, q2, q3, q4, q5⟩ := hS.blk _ _ h1
      refine ⟨arr, inf, ⟨fz, q1, q1f⟩, q2, q3, by rw [h3]; exact q4, fun k x y hx hy => ?_⟩
      have hk : k < cs'.length := by rw [← h3]; exact (List.getElem?_eq_some_iff.1 hx).1
      exact (h4 k x _ hx (List.getElem?_eq_getElem hk)).2 r y (q5 k _ y (List.getElem?_eq_getElem hk) hy)
    | map es =>
      obtain ⟨es', h1, h2⟩ := mp i es hi
      obtain ⟨h3, h4⟩ := entB_ok _ _ h2
      obtain ⟨ents, clock, q1, q2, q3⟩ := hS.blk _ _ h1
      refine ⟨ents, clock, q1, by rw [h3]; exact q2, fun k x y hx hy => ?_⟩
      have hk : k < es'.length := by rw [← h3]; exact (List.getElem?_eq_some_iff.1 hx).1
      obtain ⟨p1, p2⟩ := h4 k x _ hx (List.getElem?_eq_getElem hk)
      obtain ⟨p3, p4⟩ := q3 k _ y (List.getElem?_eq_getElem hk) hy
      exact ⟨p1.2 r _ p3, p2.2 r _ p4⟩
  · cases b with
    | cells cs e pv t =>
      obtain ⟨cs', h1, h2⟩ := cell i cs e pv t hi
      obtain ⟨h3, h4⟩ := veqs_sh h2
      intro x hx
      obtain ⟨k, hk, rfl⟩ := List.mem_iff_getElem.1 hx
      exact (h4 k _ _ (List.getElem?_eq_getElem hk) (List.getElem?_eq_getElem (by rw [← h3]; exact hk))).1
    | map es =>
      obtain ⟨es', h1, h2⟩ := mp i es hi
      obtain ⟨h3, h4⟩ := entB_ok _ _ h2
      intro x hx
      obtain ⟨k, hk, rfl⟩ := List.mem_iff_getElem.1 hx
      obtain ⟨p1, p2⟩ := h4 k _ _ (List.getElem?_eq_getElem hk) (List.getElem?_eq_getElem (by rw [← h3]; exact hk))
      exact ⟨p1.1, p2.1⟩
  · obtain ⟨cs', h1, _⟩ := cell i cs e x t hi
    exact hS.low _ _ _ _ _ h1 ht
  · obtain ⟨es', h1, _⟩ := mp i es hi
    exact hS.lowm _ _ h1
  · obtain ⟨cs', h1, _⟩ := cell i cs e pv true hi
    obtain ⟨_, b', h2, _⟩ := hb j b hj
    have h3 := hS.excl _ _ _ _ h1 _ b' h2 (fun e => hne (sh_inj hsm e)) heq
    obtain ⟨k, hk, hke⟩ := List.mem_map.1 h3
    rw [← sh_inj hsm hke]
    exact hk
  · obtain ⟨es', h1, _⟩ := mp i es hi
    obtain ⟨_, b', h2, _⟩ := hb j b hj
    exact hS.exclm _ _ h1 _ b' h2 (fun e => hne (sh_inj hsm e))
  · obtain ⟨cs1, h1, h1'⟩ := cell i cs e x true hi
    obtain ⟨cs2, h2, h2'⟩ := cell j cs' e' x' t' hj
    obtain ⟨q1, q2⟩ := hS.tip _ _ _ _ h1 _ _ _ _ _ h2 heq
    rw [(veqs_sh h1').1, (veqs_sh h2').1]
    exact ⟨q1, fun ht => sh_inj hsm (q2 ht)⟩
end Go.Proofs.YtledghdlcdgepaaGreatDoor
