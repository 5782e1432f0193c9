/- A verified abstract interpreter, part 16: an operation looks at its operands' slots alone; a list of operations. -/
import Derived.Test.YtledghdlcdgepaaGreatDoorE15
noncomputable section
namespace Go.Proofs.YtledghdlcdgepaaGreatDoor
set_option linter.unusedVariables false
set_option linter.unusedSimpArgs false
open Go.RowKit

section
variable {P : Program} {tb : Nat → Option TI} {callf : FuncId → List Value → AH → Option (Value × AH)} {ev ev' : Operand → Option Value} {h : AH}

theorem aEvs_congr : ∀ (l : List Operand), (∀ x ∈ l, ev x = ev' x) → aEvs ev l = aEvs ev' l
  | [], _ => rfl
  | x :: l, hh => by
    unfold aEvs
    rw [hh x (by simp), aEvs_congr l fun y hy => hh y (by simp [hy])]
theorem aParts_congr : ∀ (l : List (Nat × Operand)), (∀ x ∈ l, ev x.2 = ev' x.2) → aParts ev l = aParts ev' l
  | [], _ => rfl
  | (i, x) :: l, hh => by
    unfold aParts
    rw [hh (i, x) (by simp), aParts_congr l fun y hy => hh y (by simp [hy])]

theorem aBnd_congr {d : Nat} {x : Option Operand} (hh : ∀ y, x = some y → ev y = ev' y) : aBnd ev d x = aBnd ev' d x := by
  cases x with
  | none => rfl
  | some y => simp only [aBnd]; rw [hh y rfl]
theorem aSliceS_congr {t : TypeId} {x : Operand} {lo hi mx : Option Operand} (h1 : ev x = ev' x) (h2 : ∀ y, lo = some y → ev y = ev' y) (h3 : ∀ y, hi = some y → ev y = ev' y) : aSliceS tb ev t x lo hi mx = aSliceS tb ev' t x lo hi mx := by
  unfold aSliceS
  rw [h1]
  simp only [aBnd_congr h2, aBnd_congr h3]
theorem aOp_congr {o : Oper} (hh : ∀ x ∈ o.op.operands, ev x = ev' x) : aOp tb ev h o = aOp tb ev' h o := by
  unfold aOp
  split
  all_goals try (rename_i ho; rw [ho] at hh; simp only [Op.operands] at hh)
  all_goals first
    | rfl
    | (simp only [aBuild, aBuildSlice]; rw [aParts_congr _ (fun x hx => hh x.2 (by simpa using ⟨x.1, by simpa using hx⟩))]; done)
    | (rw [aSliceS_congr (hh _ (by simp)) (fun y hy => hh y (by simp [hy])) (fun y hy => hh y (by simp [hy]))]; done)
    | (simp only [aMakeFunc]; rw [aEvs_congr _ (fun x hx => hh x (by simp; exact .inr (by simpa using hx)))]; done)
    | (simp_all [aPick, aNilCheck, aNot, aConv, aFieldAddr, aField, aIndexAddr, aIndex, aLookup, aExtract, aLen, aLoad, Call.operands]; done)
    | skip

theorem aev_congr {s s' : Tr Value} {x : Operand} (hh : ∀ t, x = .tmp t → s.get t = s'.get t) : aev s x = aev s' x := by
  cases x with
  | tmp t => exact hh t rfl
  | _ => rfl

theorem aStep_congr {s s' : Tr Value} {o : Oper} (hh : ∀ t, .tmp t ∈ o.op.operands → s.get t = s'.get t) : aStep tb callf s h o = aStep tb callf s' h o := by
  have h1 : ∀ x ∈ o.op.operands, aev s x = aev s' x := fun x hx => aev_congr fun t ht => hh t (ht ▸ hx)
  rw [aStep_eq, aStep_eq]
  unfold aStep0
  split
  · rename_i f args ats ho
    rw [ho] at h1
    rw [h1 f (by simp [Op.operands, Call.operands]), aEvs_congr args.toList fun x hx => h1 x (by simp [Op.operands, Call.operands]; exact .inr (by simpa using hx))]
  · exact aOp_congr h1

/-- One operation of a region, its guard first. -/
def gStep (tb : Nat → Option TI) (callf : FuncId → List Value → AH → Option (Value × AH)) (nt : Nat) (ops : Array Oper) (s : Tr Value) (h : AH) (o : Oper) : Option (Value × AH) := match dOk nt o.dst, wantedA ops s o with
  | true, some true => aStep tb callf s h o
  | true, some false => some (undef, h)
  | _, _ => none

theorem wantedA_congr {ops : Array Oper} {s s' : Tr Value} {o : Oper} (hh : ∀ t ∈ o.looksAt ops, s.get t = s'.get t) : wantedA ops s o = wantedA ops s' o := by
  unfold wantedA
  split
  · rfl
  · rename_i j b hg
    split
    · rename_i oj hj
      split
      · rename_i d hd
        have : d ∈ o.looksAt ops := by
          unfold Oper.looksAt
          refine List.mem_append_right _ ?_
          have hj' : ops[j]? = some oj := by simpa using hj
          simp [hg, hj', hd]
        rw [hh d this]
      · rfl
    · rfl
theorem gStep_congr {ops : Array Oper} {s s' : Tr Value} {o : Oper} {nt : Nat} (hh : ∀ t ∈ o.looksAt ops, s.get t = s'.get t) : gStep tb callf nt ops s h o = gStep tb callf nt ops s' h o := by
  unfold gStep
  rw [wantedA_congr hh, aStep_congr fun t ht => hh t (List.mem_append_left _ (List.mem_filterMap.2 ⟨.tmp t, by simpa using ht, rfl⟩))]

/-- Operations that leave the heap as it is. -/
def isFl (o : Oper) : Bool := match o.op with
  | .move _ => true
  | .assign _ => true
  | .pick _ _ _ => true
  | .build _ _ => true
  | .load _ _ => true
  | .nilCheck _ => true
  | .binOp _ _ _ _ _ => true
  | .unOp .not _ _ => true
  | .convert _ _ _ => true
  | .makeFunc _ _ _ => true
  | .fieldAddr _ _ _ => true
  | .field _ _ _ => true
  | .indexAddr _ _ _ => true
  | .index _ _ _ => true
  | .lookup _ _ _ _ => true
  | .extract _ _ => true
  | .call ⟨.builtin .len, _, _⟩ => true
  | _ => false
/-- Operations that look at the heap. -/
def isLd (o : Oper) : Bool := match o.op with
  | .load _ _ => true
  | .lookup _ _ _ _ => true
  | _ => false

theorem wv_any {o : Option Value} {v : Value} {h h' : AH} (h2 : AH) (hh : wv h o = some (v, h')) : h' = h ∧ wv h2 o = some (v, h2) := by
  obtain ⟨h1, h3⟩ := wv_some hh
  exact ⟨h3, by rw [h1]; rfl⟩

theorem fl_step {s : Tr Value} {h h' : AH} {o : Oper} {v : Value} (hf : isFl o = true) (hv : aStep tb callf s h o = some (v, h')) : h' = h ∧ (isLd o = false → ∀ h2, aStep tb callf s h2 o = some (v, h2)) := by
  obtain ⟨dst, op, type, pos, after, guard⟩ := o
  cases op
  all_goals (try (simp only [isFl] at hf; cases hf; done))
  all_goals (try (simp only [aStep_eq, aStep0, aOp] at hv ⊢; exact ⟨(wv_any h hv).1, fun _ h2 => (wv_any h2 hv).2⟩; done))
  case load t x => simp only [aStep_eq, aStep0, aOp] at hv; exact ⟨(wv_any h hv).1, fun hh => by simp [isLd] at hh⟩
  case lookup t x y ok => simp only [aStep_eq, aStep0, aOp] at hv; exact ⟨(wv_any h hv).1, fun hh => by simp [isLd] at hh⟩
  case binOp op t x y t2 =>
    simp only [aStep_eq, aStep0, aOp] at hv ⊢
    split at hv
    · rename_i u z hu hz
      exact ⟨(wv_any h hv).1, fun _ h2 => (wv_any h2 hv).2⟩
    · cases hv
  case unOp u t x =>
    cases u <;> simp only [isFl] at hf <;> try cases hf
    simp only [aStep_eq, aStep0, aOp] at hv ⊢
    exact ⟨(wv_any h hv).1, fun _ h2 => (wv_any h2 hv).2⟩
  case call c =>
    obtain ⟨callee, args, ats⟩ := c
    cases callee with
    | value f => simp [isFl] at hf
    | invoke r m => simp [isFl] at hf
    | builtin b =>
      cases b <;> simp only [isFl] at hf <;> try (cases hf; done)
      obtain ⟨args⟩ := args
      obtain ⟨ats⟩ := ats
      rcases args with _ | ⟨x, _ | ⟨y, zs⟩⟩ <;> rcases ats with _ | ⟨t, _ | ⟨t2, ts⟩⟩ <;> simp only [aStep_eq, aStep0, aOp] at hv ⊢ <;> try (cases hv; done)
      exact ⟨(wv_any h hv).1, fun _ h2 => (wv_any h2 hv).2⟩

theorem gfl_step {nt : Nat} {ops : Array Oper} {s : Tr Value} {h h' : AH} {o : Oper} {v : Value} (hf : isFl o = true) (hv : gStep tb callf nt ops s h o = some (v, h')) : h' = h ∧ (isLd o = false → ∀ h2, gStep tb callf nt ops s h2 o = some (v, h2)) := by
  unfold gStep at hv ⊢
  split at hv
  · obtain ⟨h1, h2⟩ := fl_step hf hv
    exact ⟨h1, fun hl h3 => h2 hl h3⟩
  · injection hv with hv
    injection hv with h1 h2
    exact ⟨h2.symm, fun _ h3 => by rw [h1]⟩
  · cases hv

/-- A list of numbers of operations. -/
def runL (tb : Nat → Option TI) (callf : FuncId → List Value → AH → Option (Value × AH)) (nt : Nat) (ops : Array Oper) : List Nat → Tr Value → AH → Option (Tr Value × AH)
  | [], s, h => some (s, h)
  | i :: l, s, h => match ops.toList[i]? with
    | some o => match gStep tb callf nt ops s h o with
      | some (v, h') => runL tb callf nt ops l (sput s o.dst v) h'
      | none => none
    | none => none

theorem put_defers (a : Act) (d : Option Tmp) (v : Value) : (a.put d v).defers = a.defers := by cases d <;> rfl

theorem runL_ok {N : Nat → Prop} {nt : Nat} (htb : TbOk P tb) (hcf : CallsOk P callf) (hnt : nt < 1000000) {ops : Array Oper} {Q : Exit → Act → World → Prop} : ∀ (l : List Nat) (s s' : Tr Value) (h h' : AH) (r : Ren) (a : Act) (w : World),
    runL tb callf nt ops l s h = some (s', h') → SA P N r nt s h a w →
    (∀ r' a' w', r.ext r' h.n → h.n ≤ h'.n → SA P N r' nt s' h' a' w' → a'.defers = a.defers → Below N w w' → Q .normal a' w') → wpOps P ops Q l a w
  | [], s, s', h, h', r, a, w, he, hA, hQ => by
    simp only [runL] at he
    injection he with he
    injection he with h1 h2
    subst h1; subst h2
    exact hQ r a w (Ren.ext.refl r _) (Nat.le_refl _) hA rfl (Below.refl N w)
  | i :: l, s, s', h, h', r, a, w, he, hA, hQ => by
    simp only [runL] at he
    split at he
    · rename_i o ho
      have hk : ops[i]? = some o := by simpa using ho
      simp only [wpOps, hk]
      split at he
      · rename_i v h1 hg
        unfold gStep at hg
        split at hg
        · rename_i hd hw
          rw [wanted_ok hw hA]
          simp only [if_true]
          refine .inl (step_ok htb hcf hg hA fun r2 v2 w2 q1 q2 q3 q4 q5 q6 => ?_)
          refine runL_ok htb hcf hnt l _ s' h1 h' r2 _ w2 he (hA.put hnt hd q1 q2 q5 q6 q3) fun r3 a3 w3 p1 p2 p3 p4 p5 => ?_
          exact hQ r3 a3 w3 (q1.trans p1 q2) (Nat.le_trans q2 p2) p3 (by rw [p4, put_defers]) (q4.trans p5)
        · rename_i hd hw
          injection hg with hg
          injection hg with g1 g2
          subst g1; subst g2
          rw [wanted_ok hw hA]
          simp only [Bool.false_eq_true, if_false]
          refine runL_ok htb hcf hnt l _ s' _ h' r _ w he (hA.put hnt hd (Ren.ext.refl r _) (Nat.le_refl _) bel_undef vr_undef hA.sim) fun r3 a3 w3 p1 p2 p3 p4 p5 => ?_
          exact hQ r3 a3 w3 p1 p2 p3 (by rw [p4, put_defers]) p5
        · cases hg
      · cases he
    · cases he
end
end Go.Proofs.YtledghdlcdgepaaGreatDoor
