/- A verified abstract interpreter, part 13: one operation; a plain region. -/
import Derived.Test.YtledghdlcdgepaaGreatDoorE12c
noncomputable section
namespace Go.Proofs.YtledghdlcdgepaaGreatDoor
set_option linter.unusedVariables false
set_option linter.unusedSimpArgs false
open Go.RowKit

section
variable {P : Program} {tb : Nat → Option TI} {r : Ren} {n : Nat} {N : Nat → Prop} {a : Act} {ev : Operand → Option Value} {h h' : AH} {w : World}

theorem eff_of_yld {o : Oper} {v : Value} (hy : Yld P r h.n a o v) (hS : Sim P N r h w) : Eff P N r h w a o v h := by
  obtain ⟨h1, v', h2, h3⟩ := hy
  exact ⟨r, v', w, Ren.ext.refl r _, Nat.le_refl _, hS, Below.refl N w, h1, h2, .inl (h3 w)⟩
theorem eff_of_read {o : Oper} {v : Value} (hy : Bel h.n v ∧ ∃ v', VR r v v' ∧ (execOp a.eval o).run P w = .ok (.value v') w) (hS : Sim P N r h w) : Eff P N r h w a o v h := by
  obtain ⟨h1, v', h2, h3⟩ := hy
  exact ⟨r, v', w, Ren.ext.refl r _, Nat.le_refl _, hS, Below.refl N w, h1, h2, .inl h3⟩

def wv (h : AH) : Option Value → Option (Value × AH)
  | some v => some (v, h)
  | none => none
def wu : Option AH → Option (Value × AH)
  | some h => some (undef, h)
  | none => none

def aOp (tb : Nat → Option TI) (ev : Operand → Option Value) (h : AH) (o : Oper) : Option (Value × AH) := match o.op with
  | .move x => wv h (ev x)
  | .assign x => wv h (ev x)
  | .pick c x y => wv h (aPick ev c x y)
  | .alloc t => aAlloc tb h t
  | .box t x => aBox tb h t (ev x)
  | .build t ps => wv h (aBuild tb ev t ps)
  | .buildSlice t len ps => aBuildSlice tb ev h t len ps
  | .insert t m k v => wu (aMapUpdate tb h t (ev m) (ev k) (ev v))
  | .mapUpdate t m k v => wu (aMapUpdate tb h t (ev m) (ev k) (ev v))
  | .load t x => wv h (aLoad tb ev h t x)
  | .store t x y => wu (aStore tb h t (ev x) (ev y))
  | .nilCheck x => wv h (aNilCheck ev x)
  | .binOp op t x y _ => match ev x, ev y with
    | some u, some v => wv h (aBin2 tb op t u v)
    | _, _ => none
  | .unOp .not t x => wv h (aNot ev x)
  | .convert s d x => wv h (aConv tb ev s d x)
  | .makeFunc fn fi cs => wv h (aMakeFunc ev fn fi cs)
  | .makeMap t none => aMakeMap h
  | .fieldAddr t x f => wv h (aFieldAddr tb ev t x f)
  | .field t x f => wv h (aField tb ev t x f)
  | .indexAddr t x y => wv h (aIndexAddr tb ev t x y)
  | .index t x y => wv h (aIndex tb ev t x y)
  | .lookup t x y ok => wv h (aLookup tb ev h t x y ok)
  | .extract x i => wv h (aExtract ev x i)
  | .slice t x lo hi mx => wv h (aSliceS tb ev t x lo hi mx)
  | .call ⟨.builtin .len, ⟨[x]⟩, ⟨[t]⟩⟩ => wv h (aLen tb ev t x)
  | .call ⟨.builtin .append, ⟨[x, y]⟩, ⟨[ts, tx]⟩⟩ => aAppend tb h ts tx (ev x) (ev y)
  | _ => none

theorem wv_some {o : Option Value} {v : Value} (hh : wv h o = some (v, h')) : o = some v ∧ h' = h := by
  cases o with
  | none => cases hh
  | some u => simp [wv] at hh; exact ⟨by rw [hh.1], hh.2.symm⟩
theorem wu_some {o : Option AH} {v : Value} (hh : wu o = some (v, h')) : o = some h' ∧ v = undef := by
  cases o with
  | none => cases hh
  | some u => simp [wu] at hh; exact ⟨by rw [hh.2], hh.1.symm⟩

set_option maxHeartbeats 1000000 in
theorem aOp_ok {o : Oper} {v : Value} (htb : TbOk P tb) (hv : aOp tb ev h o = some (v, h')) (he : EvOk r h.n ev a) (hS : Sim P N r h w) : Eff P N r h w a o v h' := by
  unfold aOp at hv
  split at hv
  · rename_i x ho; obtain ⟨h1, rfl⟩ := wv_some hv; exact eff_of_yld (yld_move (.inl ho) h1 he) hS
  · rename_i x ho; obtain ⟨h1, rfl⟩ := wv_some hv; exact eff_of_yld (yld_move (.inr ho) h1 he) hS
  · rename_i c x y ho; obtain ⟨h1, rfl⟩ := wv_some hv; exact eff_of_yld (yld_pick ho h1 he) hS
  · rename_i t ho; exact alloc_ok ho htb hv hS
  · rename_i t x ho; exact box_ok ho htb hv he hS
  · rename_i t ps ho; obtain ⟨h1, rfl⟩ := wv_some hv; exact eff_of_yld (yld_build ho htb h1 he) hS
  · rename_i t len ps ho; exact buildSlice_ok ho htb hv he hS
  · rename_i t m k u ho; obtain ⟨h1, rfl⟩ := wu_some hv; exact mapUpdate_ok (.inr ho) htb h1 he hS
  · rename_i t m k u ho; obtain ⟨h1, rfl⟩ := wu_some hv; exact mapUpdate_ok (.inl ho) htb h1 he hS
  · rename_i t x ho; obtain ⟨h1, rfl⟩ := wv_some hv; exact eff_of_read (load_ok ho htb h1 he hS) hS
  · rename_i t x y ho; obtain ⟨h1, rfl⟩ := wu_some hv; exact store_ok ho htb h1 he hS
  · rename_i x ho; obtain ⟨h1, rfl⟩ := wv_some hv; exact eff_of_yld (yld_nilCheck ho h1 he) hS
  · rename_i op t x y t2 ho
    split at hv
    · rename_i u z hu hz
      obtain ⟨h1, rfl⟩ := wv_some hv
      exact eff_of_yld (yld_bin2 ho htb hu hz h1 he) hS
    · cases hv
  · rename_i t x ho; obtain ⟨h1, rfl⟩ := wv_some hv; exact eff_of_yld (yld_not ho h1 he) hS
  · rename_i s d x ho; obtain ⟨h1, rfl⟩ := wv_some hv; exact eff_of_yld (yld_conv ho htb h1 he) hS
  · rename_i fn fi cs ho; obtain ⟨h1, rfl⟩ := wv_some hv; exact eff_of_yld (yld_makeFunc ho h1 he) hS
  · rename_i t ho; exact makeMap_ok ho hv hS
  · rename_i t x f ho; obtain ⟨h1, rfl⟩ := wv_some hv; exact eff_of_yld (yld_fieldAddr ho htb h1 he) hS
  · rename_i t x f ho; obtain ⟨h1, rfl⟩ := wv_some hv; exact eff_of_yld (yld_field ho htb h1 he) hS
  · rename_i t x y ho; obtain ⟨h1, rfl⟩ := wv_some hv; exact eff_of_yld (yld_indexAddr ho htb h1 he) hS
  · rename_i t x y ho; obtain ⟨h1, rfl⟩ := wv_some hv; exact eff_of_yld (yld_index ho htb h1 he) hS
  · rename_i t x y ok ho; obtain ⟨h1, rfl⟩ := wv_some hv; exact eff_of_read (lookup_ok ho htb h1 he hS) hS
  · rename_i x i ho; obtain ⟨h1, rfl⟩ := wv_some hv; exact eff_of_yld (yld_extract ho h1 he) hS
  · rename_i t x lo hi mx ho; obtain ⟨h1, rfl⟩ := wv_some hv; exact eff_of_yld (yld_sliceS ho htb h1 he) hS
  · rename_i x t ho; obtain ⟨h1, rfl⟩ := wv_some hv; exact eff_of_yld (yld_len ho rfl rfl rfl htb h1 he) hS
  · rename_i x y ts tx ho; exact append_ok ho rfl rfl rfl htb hv he hS
  · cases hv
end

/-! ### Slots -/
def lit0 : Value → Bool
  | .bool _ => true
  | .int _ _ => true
  | .string _ => true
  | .pointer none => true
  | .slice none 0 0 => true
  | .map none => true
  | .nilFunc => true
  | .nilIface => true
  | _ => false
theorem lit0_ok {v : Value} (hv : lit0 v = true) : IsLit v := by
  intro r n
  unfold lit0 at hv
  split at hv
  · exact ⟨.bool _, .bool _⟩
  · exact ⟨.int _ _, .int _ _⟩
  · exact ⟨.string _, .string _⟩
  · exact ⟨.pnil, .pnil⟩
  · exact ⟨.snil, .snil⟩
  · exact ⟨.mnil, .mnil⟩
  · exact ⟨.fnil, .fnil⟩
  · exact ⟨.inil, .inil⟩
  · cases hv

def lits : List Value → Bool
  | [] => true
  | v :: vs => match lit0 v with
    | true => lits vs
    | false => false
theorem lits_ok : ∀ (l : List Value), lits l = true → ∀ x ∈ l, IsLit x
  | [], _, x, hx => by simp at hx
  | v :: vs, h, x, hx => by
    unfold lits at h
    split at h
    · rename_i hv
      rcases List.mem_cons.1 hx with rfl | hx
      · exact lit0_ok hv
      · exact lits_ok vs h x hx
    · cases h
def litB (v : Value) : Bool := match v with
  | .agg ⟨cs⟩ => lits cs
  | v => lit0 v
theorem litB_ok {v : Value} (hv : litB v = true) : IsLit v := by
  unfold litB at hv
  split at hv
  · rename_i cs
    intro r n
    have h := lits_ok cs hv
    exact ⟨mk_agg (lits_vrs h), .agg cs fun k x hx => (h x (List.mem_of_getElem? hx) r n).2⟩
  · exact lit0_ok hv

def aev (s : Tr Value) (x : Operand) : Option Value := match x with
  | .tmp t => s.get t
  | .const v => match litB v with
    | true => some v
    | false => none
  | .func f => some (.func (.func f) #[] #[])
  | .global _ => none

structure SA (P : Program) (N : Nat → Prop) (r : Ren) (nt : Nat) (s : Tr Value) (h : AH) (a : Act) (w : World) : Prop where
  sz : a.tmps.size = nt
  sl : ∀ k v, s.get k = some v → Bel h.n v ∧ ∃ v', a.tmps[k]? = some v' ∧ VR r v v'
  sim : Sim P N r h w

section
variable {P : Program} {tb : Nat → Option TI} {r r' : Ren} {n nt : Nat} {N : Nat → Prop} {a : Act} {s : Tr Value} {h h' : AH} {w w' : World}

theorem SA.ev (hA : SA P N r nt s h a w) : EvOk r h.n (aev s) a := by
  intro x u hx
  unfold aev at hx
  split at hx
  · rename_i t
    obtain ⟨h1, v', h2, h3⟩ := hA.sl t u hx
    refine ⟨h1, ?_⟩
    simp only [Act.eval]
    rw [Array.getD_eq_getD_getElem?, h2]
    exact h3
  · split at hx
    · rename_i hl
      injection hx with hx; subst hx
      exact ⟨(litB_ok hl r h.n).2, (litB_ok hl r h.n).1⟩
    · cases hx
  · injection hx with hx; subst hx
    exact ⟨.func _ [] fun k x hx => by simp at hx, .func _ [] [] rfl fun k x y hx => by simp at hx⟩
  · cases hx

def sput (s : Tr Value) (d : Option Tmp) (v : Value) : Tr Value := match d with
  | some d => Tr.put 24 s d v
  | none => s
def dOk (nt : Nat) (d : Option Tmp) : Bool := match d with
  | some d => Nat.blt d nt
  | none => true

theorem SA.put (hA : SA P N r nt s h a w) (hnt : nt < 1000000) {d : Option Tmp} (hd : dOk nt d = true) {v v' : Value} (he : r.ext r' h.n) (hn : h.n ≤ h'.n) (hb : Bel h'.n v) (hv : VR r' v v') (hS : Sim P N r' h' w') :
    SA P N r' nt (sput s d v) h' (a.put d v') w' := by
  cases d with
  | none => exact ⟨hA.sz, fun k u hu => by obtain ⟨h1, u', h2, h3⟩ := hA.sl k u hu; exact ⟨h1.mono hn, u', h2, h3.ext he h1⟩, hS⟩
  | some d =>
    have hd : @LT.lt Nat _ d nt := Nat.le_of_ble_eq_true hd
    have hd3 : @LT.lt Nat _ (d + 1) (2 ^ 24) := by omega
    refine ⟨by simp [Act.put, hA.sz], fun k u hu => ?_, hS⟩
    rw [show sput s (some d) v = Tr.put 24 s d v from rfl, Tr.get_put 24 s d v k hd3] at hu
    simp only [Act.put, Array.getElem?_setIfInBounds]
    split at hu
    · rename_i hk
      subst hk
      injection hu with hu
      subst hu
      exact ⟨hb, v', by simp [hA.sz, hd], hv⟩
    · rename_i hk
      obtain ⟨h1, u', h2, h3⟩ := hA.sl k u hu
      exact ⟨h1.mono hn, u', by rw [if_neg (fun e => hk e.symm)]; exact h2, h3.ext he h1⟩

/-- What a call does. -/
def CallR (P : Program) (N : Nat → Prop) (r : Ren) (h : AH) (v : Value) (h' : AH) (w : World) (e : Ending) (w' : World) : Prop :=
  ∃ r' v', e = .returned v' ∧ r.ext r' h.n ∧ h.n ≤ h'.n ∧ Sim P N r' h' w' ∧ Below N w w' ∧ Bel h'.n v ∧ VR r' v v'
def CallsOk (P : Program) (callf : FuncId → List Value → AH → Option (Value × AH)) : Prop :=
  ∀ f args h v h', callf f args h = some (v, h') → ∀ N r w args', VRs r args args' → (∀ x ∈ args, Bel h.n x) → Sim P N r h w →
    (Calls P f args'.toArray w (CallR P N r h v h' w) ∧ ∃ fn, P.funcs[f]? = some fn ∧ fn.body.isSome = true ∧ fn.name ≠ "runtime.NumGoroutine") ∨
    (∃ r' v' w', (callFunc f args'.toArray).run P w = .ok (.value v') w' ∧ r.ext r' h.n ∧ h.n ≤ h'.n ∧ Sim P N r' h' w' ∧ Below N w w' ∧ Bel h'.n v ∧ VR r' v v')

/-- One operation, calls of Go functions too. -/
def aStep0 (tb : Nat → Option TI) (callf : FuncId → List Value → AH → Option (Value × AH)) (s : Tr Value) (h : AH) (o : Oper) : Option (Value × AH) := match o.op with
  | .call ⟨.value f, args, _⟩ => match aev s f, aEvs (aev s) args.toList with
    | some (.func (.func g) _ cap), some vs => callf g (vs ++ cap.toList) h
    | _, _ => none
  | _ => aOp tb (aev s) h o

/- One operation, its kinds as constants: the kernel reckons this fast. -/
def stMove : Operand → (Nat → Option TI) → (FuncId → List Value → AH → Option (Value × AH)) → Tr Value → AH → Option (Value × AH) := fun x _ _ s h => wv h (aev s x)
def stAssign : Operand → (Nat → Option TI) → (FuncId → List Value → AH → Option (Value × AH)) → Tr Value → AH → Option (Value × AH) := fun x _ _ s h => wv h (aev s x)
def stPick : Operand → Operand → Operand → (Nat → Option TI) → (FuncId → List Value → AH → Option (Value × AH)) → Tr Value → AH → Option (Value × AH) := fun c a b _ _ s h => wv h (aPick (aev s) c a b)
def stAlloc : TypeId → (Nat → Option TI) → (FuncId → List Value → AH → Option (Value × AH)) → Tr Value → AH → Option (Value × AH) := fun t tb _ _ h => aAlloc tb h t
def stBox : TypeId → Operand → (Nat → Option TI) → (FuncId → List Value → AH → Option (Value × AH)) → Tr Value → AH → Option (Value × AH) := fun t x tb _ s h => aBox tb h t (aev s x)
def stBuild : TypeId → Array (Nat × Operand) → (Nat → Option TI) → (FuncId → List Value → AH → Option (Value × AH)) → Tr Value → AH → Option (Value × AH) := fun t ps tb _ s h => wv h (aBuild tb (aev s) t ps)
def stBuildSlice : TypeId → Nat → Array (Nat × Operand) → (Nat → Option TI) → (FuncId → List Value → AH → Option (Value × AH)) → Tr Value → AH → Option (Value × AH) := fun t len ps tb _ s h => aBuildSlice tb (aev s) h t len ps
def stInsert : TypeId → Operand → Operand → Operand → (Nat → Option TI) → (FuncId → List Value → AH → Option (Value × AH)) → Tr Value → AH → Option (Value × AH) := fun t m k v tb _ s h => wu (aMapUpdate tb h t (aev s m) (aev s k) (aev s v))
def stLoad : TypeId → Operand → (Nat → Option TI) → (FuncId → List Value → AH → Option (Value × AH)) → Tr Value → AH → Option (Value × AH) := fun t x tb _ s h => wv h (aLoad tb (aev s) h t x)
def stStore : TypeId → Operand → Operand → (Nat → Option TI) → (FuncId → List Value → AH → Option (Value × AH)) → Tr Value → AH → Option (Value × AH) := fun t x y tb _ s h => wu (aStore tb h t (aev s x) (aev s y))
def stReady : Nat → (Nat → Option TI) → (FuncId → List Value → AH → Option (Value × AH)) → Tr Value → AH → Option (Value × AH) := fun _ _ _ _ _ => none
def stWaits : Nat → (Nat → Option TI) → (FuncId → List Value → AH → Option (Value × AH)) → Tr Value → AH → Option (Value × AH) := fun _ _ _ _ _ => none
def stNilCheck : Operand → (Nat → Option TI) → (FuncId → List Value → AH → Option (Value × AH)) → Tr Value → AH → Option (Value × AH) := fun x _ _ s h => wv h (aNilCheck (aev s) x)
def stBinOp : BinOp → TypeId → Operand → Operand → TypeId → (Nat → Option TI) → (FuncId → List Value → AH → Option (Value × AH)) → Tr Value → AH → Option (Value × AH) := fun op t x y _ tb _ s h => match aev s x, aev s y with
  | some u, some v => wv h (aBin2 tb op t u v)
  | _, _ => none
def stUnOp : UnOp → TypeId → Operand → (Nat → Option TI) → (FuncId → List Value → AH → Option (Value × AH)) → Tr Value → AH → Option (Value × AH) := fun op _ x _ _ s h => match op with
  | .not => wv h (aNot (aev s) x)
  | _ => none
def stConvert : TypeId → TypeId → Operand → (Nat → Option TI) → (FuncId → List Value → AH → Option (Value × AH)) → Tr Value → AH → Option (Value × AH) := fun a b x tb _ s h => wv h (aConv tb (aev s) a b x)
def stSliceToArrayPointer : TypeId → Operand → (Nat → Option TI) → (FuncId → List Value → AH → Option (Value × AH)) → Tr Value → AH → Option (Value × AH) := fun _ _ _ _ _ _ => none
def stMakeInterface : TypeId → Operand → (Nat → Option TI) → (FuncId → List Value → AH → Option (Value × AH)) → Tr Value → AH → Option (Value × AH) := fun _ _ _ _ _ _ => none
def stMakeFunc : Fn → Array Operand → Array Operand → (Nat → Option TI) → (FuncId → List Value → AH → Option (Value × AH)) → Tr Value → AH → Option (Value × AH) := fun fn fi cs _ _ s h => wv h (aMakeFunc (aev s) fn fi cs)
def stMakeMap : TypeId → Option Operand → (Nat → Option TI) → (FuncId → List Value → AH → Option (Value × AH)) → Tr Value → AH → Option (Value × AH) := fun _ r _ _ _ h => match r with
  | none => aMakeMap h
  | some _ => none
def stMakeChan : TypeId → Operand → (Nat → Option TI) → (FuncId → List Value → AH → Option (Value × AH)) → Tr Value → AH → Option (Value × AH) := fun _ _ _ _ _ _ => none
def stMakeSlice : TypeId → Operand → Operand → (Nat → Option TI) → (FuncId → List Value → AH → Option (Value × AH)) → Tr Value → AH → Option (Value × AH) := fun _ _ _ _ _ _ _ => none
def stSlice : TypeId → Operand → Option Operand → Option Operand → Option Operand → (Nat → Option TI) → (FuncId → List Value → AH → Option (Value × AH)) → Tr Value → AH → Option (Value × AH) := fun t x lo hi mx tb _ s h => wv h (aSliceS tb (aev s) t x lo hi mx)
def stFieldAddr : TypeId → Operand → Nat → (Nat → Option TI) → (FuncId → List Value → AH → Option (Value × AH)) → Tr Value → AH → Option (Value × AH) := fun t x f tb _ s h => wv h (aFieldAddr tb (aev s) t x f)
def stField : TypeId → Operand → Nat → (Nat → Option TI) → (FuncId → List Value → AH → Option (Value × AH)) → Tr Value → AH → Option (Value × AH) := fun t x f tb _ s h => wv h (aField tb (aev s) t x f)
def stIndexAddr : TypeId → Operand → Operand → (Nat → Option TI) → (FuncId → List Value → AH → Option (Value × AH)) → Tr Value → AH → Option (Value × AH) := fun t x y tb _ s h => wv h (aIndexAddr tb (aev s) t x y)
def stIndex : TypeId → Operand → Operand → (Nat → Option TI) → (FuncId → List Value → AH → Option (Value × AH)) → Tr Value → AH → Option (Value × AH) := fun t x y tb _ s h => wv h (aIndex tb (aev s) t x y)
def stLookup : TypeId → Operand → Operand → Bool → (Nat → Option TI) → (FuncId → List Value → AH → Option (Value × AH)) → Tr Value → AH → Option (Value × AH) := fun t x y ok tb _ s h => wv h (aLookup tb (aev s) h t x y ok)
def stMapUpdate : TypeId → Operand → Operand → Operand → (Nat → Option TI) → (FuncId → List Value → AH → Option (Value × AH)) → Tr Value → AH → Option (Value × AH) := fun t m k v tb _ s h => wu (aMapUpdate tb h t (aev s m) (aev s k) (aev s v))
def stMapEntry : TypeId → Operand → Operand → (Nat → Option TI) → (FuncId → List Value → AH → Option (Value × AH)) → Tr Value → AH → Option (Value × AH) := fun _ _ _ _ _ _ _ => none
def stEntryStore : TypeId → Operand → Operand → Operand → (Nat → Option TI) → (FuncId → List Value → AH → Option (Value × AH)) → Tr Value → AH → Option (Value × AH) := fun _ _ _ _ _ _ _ _ => none
def stRange : TypeId → Operand → (Nat → Option TI) → (FuncId → List Value → AH → Option (Value × AH)) → Tr Value → AH → Option (Value × AH) := fun _ _ _ _ _ _ => none
def stNext : Operand → Bool → (Nat → Option TI) → (FuncId → List Value → AH → Option (Value × AH)) → Tr Value → AH → Option (Value × AH) := fun _ _ _ _ _ _ => none
def stEntry : Operand → (Nat → Option TI) → (FuncId → List Value → AH → Option (Value × AH)) → Tr Value → AH → Option (Value × AH) := fun _ _ _ _ _ => none
def stTypeAssert : Operand → TypeId → TypeId → Bool → (Nat → Option TI) → (FuncId → List Value → AH → Option (Value × AH)) → Tr Value → AH → Option (Value × AH) := fun _ _ _ _ _ _ _ _ => none
def stExtract : Operand → Nat → (Nat → Option TI) → (FuncId → List Value → AH → Option (Value × AH)) → Tr Value → AH → Option (Value × AH) := fun x i _ _ s h => wv h (aExtract (aev s) x i)
def stCall : Call → (Nat → Option TI) → (FuncId → List Value → AH → Option (Value × AH)) → Tr Value → AH → Option (Value × AH) := fun c tb callf s h => match c with
  | ⟨.value f, args, _⟩ => match aev s f, aEvs (aev s) args.toList with
    | some (.func (.func g) _ cap), some vs => callf g (vs ++ cap.toList) h
    | _, _ => none
  | ⟨.builtin .len, ⟨[x]⟩, ⟨[t]⟩⟩ => wv h (aLen tb (aev s) t x)
  | ⟨.builtin .append, ⟨[x, y]⟩, ⟨[ts, tx]⟩⟩ => aAppend tb h ts tx (aev s x) (aev s y)
  | _ => none
def stGo : Call → (Nat → Option TI) → (FuncId → List Value → AH → Option (Value × AH)) → Tr Value → AH → Option (Value × AH) := fun _ _ _ _ _ => none
def stDefer : Call → (Nat → Option TI) → (FuncId → List Value → AH → Option (Value × AH)) → Tr Value → AH → Option (Value × AH) := fun _ _ _ _ _ => none
def stPanic : Operand → (Nat → Option TI) → (FuncId → List Value → AH → Option (Value × AH)) → Tr Value → AH → Option (Value × AH) := fun _ _ _ _ _ => none
def stSend : Operand → Operand → (Nat → Option TI) → (FuncId → List Value → AH → Option (Value × AH)) → Tr Value → AH → Option (Value × AH) := fun _ _ _ _ _ _ => none
def stRecv : TypeId → Operand → Bool → (Nat → Option TI) → (FuncId → List Value → AH → Option (Value × AH)) → Tr Value → AH → Option (Value × AH) := fun _ _ _ _ _ _ _ => none
def stSelect : Array SelectCase → Bool → (Nat → Option TI) → (FuncId → List Value → AH → Option (Value × AH)) → Tr Value → AH → Option (Value × AH) := fun _ _ _ _ _ _ => none
def stepR (op : Op) : (Nat → Option TI) → (FuncId → List Value → AH → Option (Value × AH)) → Tr Value → AH → Option (Value × AH) := @Op.rec (fun _ => (Nat → Option TI) → (FuncId → List Value → AH → Option (Value × AH)) → Tr Value → AH → Option (Value × AH)) stMove stAssign stPick stAlloc stBox stBuild stBuildSlice stInsert stLoad stStore stReady stWaits stNilCheck stBinOp stUnOp stConvert stSliceToArrayPointer stMakeInterface stMakeFunc stMakeMap stMakeChan stMakeSlice stSlice stFieldAddr stField stIndexAddr stIndex stLookup stMapUpdate stMapEntry stEntryStore stRange stNext stEntry stTypeAssert stExtract stCall stGo stDefer stPanic stSend stRecv stSelect op
def aStep (tb : Nat → Option TI) (callf : FuncId → List Value → AH → Option (Value × AH)) (s : Tr Value) (h : AH) (o : Oper) : Option (Value × AH) := stepR o.op tb callf s h
theorem aStep_eq {callf : FuncId → List Value → AH → Option (Value × AH)} (o : Oper) : aStep tb callf s h o = aStep0 tb callf s h o := by
  obtain ⟨dst, op, type, pos, after, guard⟩ := o
  cases op with
  | call c =>
    obtain ⟨callee, ⟨args⟩, ⟨ats⟩⟩ := c
    cases callee with
    | value f => rfl
    | invoke r m => rfl
    | builtin b =>
      cases b <;> first | rfl | (rcases args with _ | ⟨x, _ | ⟨y, _ | ⟨z, zs⟩⟩⟩ <;> rcases ats with _ | ⟨t, _ | ⟨t2, _ | ⟨t3, ts⟩⟩⟩ <;> rfl)
  | unOp u t x => cases u <;> rfl
  | makeMap t r => cases r <;> rfl
  | _ => rfl

theorem callFunc_run {f : FuncId} {fn : Func} {args : Array Value} (h1 : P.funcs[f]? = some fn) (h2 : fn.body.isSome = true) (h3 : fn.name ≠ "runtime.NumGoroutine") (w : World) : (callFunc f args).run P w = .ok (.enter f args) w := by
  have h4 : fn.body.isNone = false := by cases hb : fn.body <;> simp_all
  have h5 : (fn.name == "runtime.NumGoroutine") = false := by simpa using h3
  have h6 : fn.body ≠ none := fun e => by rw [e] at h2; cases h2
  simp [callFunc, Sem.run_bind, h1, h4, h5, h3, h6]

theorem step_ok {callf : FuncId → List Value → AH → Option (Value × AH)} (htb : TbOk P tb) (hcf : CallsOk P callf) {o : Oper} {v : Value} (hv : aStep tb callf s h o = some (v, h')) (hA : SA P N r nt s h a w)
    {K : Act → World → Prop} {Q : Exit → Act → World → Prop}
    (hK : ∀ r' v' w', r.ext r' h.n → h.n ≤ h'.n → Sim P N r' h' w' → Below N w w' → Bel h'.n v → VR r' v v' → K (a.put o.dst v') w') : o.wp P a w K Q := by
  have he := hA.ev
  rw [aStep_eq] at hv
  unfold aStep0 at hv
  split at hv
  · rename_i f args ats ho
    split at hv
    · rename_i g fi cap vs hf hvs
      obtain ⟨bf, hfr⟩ := he f _ hf
      obtain ⟨h1, h2⟩ := evs_ok he _ _ hvs
      generalize hg : a.eval f = fv at hfr
      cases hfr with
      | func _ cs cs' hl hh =>
        have hbc : ∀ x ∈ cs, Bel h.n x := by
          cases bf with
          | func _ _ hb => intro x hx; obtain ⟨k, hk, e⟩ := List.mem_iff_getElem.1 hx; exact hb k x (by rw [← e]; simp)
        have hvr : VRs r (vs ++ cs) (args.toList.map a.eval ++ cs') := h1.append ⟨hl, hh⟩
        have hcc := hcf g _ _ _ _ hv N r w _ hvr (fun x hx => by
          rcases List.mem_append.1 hx with hx | hx
          · exact h2 x hx
          · exact hbc x (by simpa using hx)) hA.sim
        have e1 : (#[] : Array Value) ++ args.map a.eval ++ cs'.toArray = (args.toList.map a.eval ++ cs').toArray := by
          apply Array.ext'; simp
        rcases hcc with ⟨hcall, fn, f1, f2, f3⟩ | ⟨r', v', w', hrun, q1, q2, q3, q4, q5, q6⟩
        · have hrun : (execOp a.eval o).run P w = .ok (.enter g (args.toList.map a.eval ++ cs').toArray) w := by
            simp only [execOp, ho, resolve, hg, Deferred.ofValue, Sem.run_bind, Sem.run_pure, Result.andThen_ok, invoke]
            rw [callFunc_run f1 f2 f3]
            rw [e1]
          unfold Oper.wp
          rw [hrun, Oper.upon_enter]
          refine hcall.mono fun e w' hR => ?_
          obtain ⟨r', v', rfl, q1, q2, q3, q4, q5, q6⟩ := hR
          exact hK r' v' w' q1 q2 q3 q4 q5 q6
        · have hrun2 : (execOp a.eval o).run P w = .ok (.value v') w' := by
            simp only [execOp, ho, resolve, hg, Deferred.ofValue, Sem.run_bind, Sem.run_pure, Result.andThen_ok, invoke]
            rw [e1]
            exact hrun
          unfold Oper.wp
          rw [hrun2]
          exact hK r' v' w' q1 q2 q3 q4 q5 q6
    · cases hv
  · obtain ⟨r', v', w', q1, q2, q3, q4, q5, q6, q7⟩ := aOp_ok (N := N) (w := w) htb hv he hA.sim
    unfold Oper.wp
    rcases q7 with q7 | ⟨q7, rfl, rfl⟩
    · rw [q7]; exact hK r' v' w' q1 q2 q3 q4 q5 q6
    · rw [q7]; exact hK r' undef w' q1 q2 q3 q4 q5 q6
end
end Go.Proofs.YtledghdlcdgepaaGreatDoor
