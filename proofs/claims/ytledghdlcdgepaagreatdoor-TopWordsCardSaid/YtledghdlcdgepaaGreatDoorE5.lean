/- A verified abstract interpreter, part 5: loads, stores, new blocks. -/
import Derived.Test.YtledghdlcdgepaaGreatDoorE4
import Derived.Laws.CopyRow
noncomputable section
namespace Go.Proofs.YtledghdlcdgepaaGreatDoor
set_option linter.unusedVariables false
set_option linter.unusedSimpArgs false
open Go.RowKit

def AH.set (h : AH) (i : Nat) (b : ABlk) : AH := ⟨Tr.put 24 h.t i b, h.n⟩
def AH.push (h : AH) (b : ABlk) : AH := ⟨Tr.put 24 h.t h.n b, h.n + 1⟩
theorem AH.get_set {h : AH} {i : Nat} {b : ABlk} (hi : i < 1000000) (j : Nat) : (h.set i b).get j = if j = i then some b else h.get j := Tr.get_put 24 h.t i b j (by omega)
theorem AH.get_push {h : AH} {b : ABlk} (hi : h.n < 1000000) (j : Nat) : (h.push b).get j = if j = h.n then some b else h.get j := Tr.get_put 24 h.t h.n b j (by omega)

def Ren.upd (r : Ren) (i b k : Nat) : Ren := ⟨fun j => if j = i then b else r.φ j, fun j => if j = i then k else r.κ j⟩
theorem Ren.ext_upd (r : Ren) (i b k : Nat) : r.ext (r.upd i b k) i := fun j hj => by
  have : ¬ j = i := by omega
  simp [Ren.upd, this]
theorem Ren.ext.mono {r r' : Ren} {n m : Nat} (h : r.ext r' n) (hm : m ≤ n) : r.ext r' m := fun i hi => h i (by omega)
theorem Ren.ext.refl (r : Ren) (n : Nat) : r.ext r n := fun _ _ => ⟨rfl, rfl⟩
theorem Ren.ext.trans {r r' r'' : Ren} {n m : Nat} (h : r.ext r' n) (k : r'.ext r'' m) (hm : n ≤ m) : r.ext r'' n := fun i hi => ⟨((k i (by omega)).1).trans (h i hi).1, ((k i (by omega)).2).trans (h i hi).2⟩

theorem VRs.ext {r r' : Ren} {n : Nat} (he : r.ext r' n) {cs cs' : List Value} (h : VRs r cs cs') (hb : ∀ x ∈ cs, Bel n x) : VRs r' cs cs' :=
  ⟨h.1, fun k x y hx hy => (h.2 k x y hx hy).ext he (hb x (List.mem_of_getElem? hx))⟩
theorem ABlk.bel.mono {n m : Nat} (hm : n ≤ m) {b : ABlk} (h : b.bel n) : b.bel m := by
  cases b with
  | cells cs e x t => exact fun v hv => (h v hv).mono hm
  | map es => exact fun v hv => ⟨(h v hv).1.mono hm, (h v hv).2.mono hm⟩

section
variable {P : Program} {tb : Nat → Option TI} {r : Ren} {n : Nat} {N : Nat → Prop} {a : Act} {ev : Operand → Option Value} {h : AH} {w : World}

theorem BlkR.ext {r' : Ren} {j : Nat} {w' : World} {b : ABlk} (hb : BlkR P r j w b) (he : r.ext r' n) (hj : j < n) (hbel : b.bel n) (hw : w'.heap[r.φ j]? = w.heap[r.φ j]?) : BlkR P r' j w' b := by
  obtain ⟨e1, e2⟩ := he j hj
  cases b with
  | cells cs elem x t =>
    obtain ⟨arr, inf, ⟨fz, h1, h1f⟩, h2, h3, h4, h5⟩ := hb
    exact ⟨arr, inf, ⟨fz, by rw [e1, hw]; exact h1, h1f⟩, h2, by rw [e2]; exact h3, h4, fun k u v hu hv => (h5 k u v hu hv).ext he (hbel u (List.mem_of_getElem? hu))⟩
  | map es =>
    obtain ⟨ents, clock, h1, h2, h3⟩ := hb
    exact ⟨ents, clock, by rw [e1, hw]; exact h1, h2, fun k u v hu hv => ⟨(h3 k u v hu hv).1.ext he (hbel u (List.mem_of_getElem? hu)).1, (h3 k u v hu hv).2.ext he (hbel u (List.mem_of_getElem? hu)).2⟩⟩

theorem BlkR.lt {j : Nat} {b : ABlk} (hb : BlkR P r j w b) : r.φ j < w.heap.size := by
  cases b with
  | cells cs elem x t => obtain ⟨arr, inf, ⟨fz, h1, _⟩, _⟩ := hb; exact (Array.getElem?_eq_some_iff.1 h1).1
  | map es => obtain ⟨ents, clock, h1, _⟩ := hb; exact (Array.getElem?_eq_some_iff.1 h1).1

/-- A new block. -/
theorem Sim.new (hS : Sim P N r h w) (hn : h.n < 1000000) (b : ABlk) (obj : Obj) (k : Nat) (hb : BlkR P (r.upd h.n w.heap.size k) h.n (w.alloc obj) b) (hbel : b.bel (h.n + 1)) :
    Sim P N (r.upd h.n w.heap.size k) (h.push b) (w.alloc obj) := by
  have he := r.ext_upd h.n w.heap.size k
  have hφ : (r.upd h.n w.heap.size k).φ h.n = w.heap.size := by simp [Ren.upd]
  have hold : ∀ j c, h.get j = some c → (r.upd h.n w.heap.size k).φ j = r.φ j ∧ r.φ j < w.heap.size ∧ j < h.n := fun j c hc => ⟨(he j (hS.lt j c hc)).1, (hS.blk j c hc).lt, hS.lt j c hc⟩
  refine ⟨fun j c hc => ?_, fun j c hc => ?_, fun j c hc => ?_, fun j cs e x t hc hx => ?_, fun j es hc => ?_, fun i cs e pv hc j c hj hne heq => ?_, fun i es hc j c hj hne => ?_, fun i cs e x hc j cs' e' x' t' hj hφj => ?_, ?_⟩
  · rw [AH.get_push hn] at hc
    split at hc
    · rename_i hj; injection hc with hc; subst hj hc; exact hb
    · rename_i hj
      have hl := hold j c hc
      exact (hS.blk j c hc).ext he hl.2.2 (hS.bel j c hc) (Below.heap_alloc w obj _ hl.2.1)
  · rw [AH.get_push hn] at hc
    show j < h.n + 1
    split at hc
    · omega
    · have := hS.lt j c hc; omega
  · rw [AH.get_push hn] at hc
    split at hc
    · injection hc with hc; subst hc; exact hbel
    · exact (hS.bel j c hc).mono (Nat.le_succ _)
  · rw [AH.get_push hn] at hc
    split at hc
    · rename_i hj; subst hj; rw [hφ]; exact fun hk => Nat.lt_irrefl _ (hS.size _ hk)
    · rw [(hold j _ hc).1]; exact hS.low j cs e x t hc hx
  · rw [AH.get_push hn] at hc
    split at hc
    · rename_i hj; subst hj; rw [hφ]; exact fun hk => Nat.lt_irrefl _ (hS.size _ hk)
    · rw [(hold j _ hc).1]; exact hS.lowm j es hc
  · rw [AH.get_push hn] at hc hj
    split at hc
    · rename_i hi
      subst hi
      rw [if_neg hne] at hj
      rw [hφ, (hold j _ hj).1] at heq
      have := (hold j _ hj).2.1
      omega
    · split at hj
      · rename_i hjn
        subst hjn
        rw [hφ, (hold i _ hc).1] at heq
        have := (hold i _ hc).2.1
        omega
      · rw [(hold i _ hc).1, (hold j _ hj).1] at heq; exact hS.excl i cs e pv hc j c hj hne heq
  · rw [AH.get_push hn] at hc hj
    split at hc
    · rename_i hi
      subst hi
      rw [if_neg hne] at hj
      rw [hφ, (hold j _ hj).1]
      have := (hold j _ hj).2.1
      omega
    · split at hj
      · rename_i hjn
        subst hjn
        rw [hφ, (hold i _ hc).1]
        have := (hold i _ hc).2.1
        omega
      · rw [(hold i _ hc).1, (hold j _ hj).1]; exact hS.exclm i es hc j c hj hne
  · rw [AH.get_push hn] at hc hj
    split at hc
    · rename_i hi
      subst hi
      split at hj
      · rename_i hjj; injection hc with hc; subst hc; injection hj with hj; cases hj; exact ⟨Nat.le_refl _, fun _ => hjj⟩
      · rw [hφ, (hold j _ hj).1] at hφj
        have := (hold j _ hj).2.1
        omega
    · split at hj
      · rename_i hjn
        subst hjn
        rw [hφ, (hold i _ hc).1] at hφj
        have := (hold i _ hc).2.1
        omega
      · rw [(hold i _ hc).1, (hold j _ hj).1] at hφj
        exact hS.tip i cs e x hc j cs' e' x' t' hj hφj
  · show ∀ k, N k → k < (w.heap.push obj).size
    intro k hk
    have := hS.size k hk
    simp
    omega

/-- A row that no other id stands for gets new cells. -/
theorem Sim.upd (hS : Sim P N r h w) {i : Nat} {cs cs' : List Value} {e : TypeId} {pv : List Nat} (hi : h.get i = some (.cells cs e pv true)) (hex : ∀ j b, h.get j = some b → j ≠ i → r.φ j ≠ r.φ i) (hin : i < 1000000) (hl : cs'.length = cs.length) (hbel : ∀ x ∈ cs', Bel h.n x)
    {w' : World} {arr' : Array Value} (hw : w'.heap[r.φ i]? = some (.cells arr' e (0, 0))) (hsz : ∀ arr, w.heap[r.φ i]? = some (.cells arr e (0, 0)) → arr'.size = arr.size)
    (hvr : ∀ (k : Nat) (x y : Value), cs'[k]? = some x → arr'[k]? = some y → VR r x y) (hoth : ∀ k, k ≠ r.φ i → w'.heap[k]? = w.heap[k]?) (hs : w'.heap.size = w.heap.size) :
    Sim P N r (h.set i (.cells cs' e [] true)) w' := by
  obtain ⟨arr, inf, ⟨fz, q1, q1f⟩, q2, q3, q4, q5⟩ := hS.blk i _ hi
  obtain rfl := q1f rfl
  have hget := AH.get_set (h := h) (b := .cells cs' e [] true) hin
  refine ⟨fun j c hc => ?_, fun j c hc => ?_, fun j c hc => ?_, fun j cs2 e2 x t2 hc hx => ?_, fun j es hc => ?_, fun i2 cs2 e2 pv2 hc j c hj hne heq => ?_, fun i2 es hc j c hj hne => ?_, fun i2 cs2 e2 x hc j cs3 e3 x3 t3 hj hφj => ?_, by rw [hs]; exact hS.size⟩
  · rw [hget] at hc
    split at hc
    · rename_i hj; injection hc with hc; subst hj hc
      exact ⟨arr', inf, ⟨_, hw, fun _ => rfl⟩, q2, by rw [hsz arr q1]; exact q3, by rw [hsz arr q1, hl]; exact q4, hvr⟩
    · rename_i hj
      exact (hS.blk j c hc).ext (Ren.ext.refl r h.n) (hS.lt j c hc) (hS.bel j c hc) (hoth _ (hex j c hc hj))
  · rw [hget] at hc
    split at hc
    · rename_i hj; subst hj; exact hS.lt _ _ hi
    · exact hS.lt j c hc
  · rw [hget] at hc
    split at hc
    · injection hc with hc; subst hc; exact hbel
    · exact hS.bel j c hc
  · rw [hget] at hc
    split at hc
    · rename_i hj; subst hj; exact hS.low _ _ _ _ _ hi rfl
    · exact hS.low j cs2 e2 x t2 hc hx
  · rw [hget] at hc
    split at hc
    · cases hc
    · exact hS.lowm j es hc
  · rw [hget] at hc hj
    split at hc
    · rename_i hi2
      subst hi2
      rw [if_neg hne] at hj
      exact absurd heq (hex j c hj hne)
    · rename_i hi2
      split at hj
      · rename_i hj2
        subst hj2
        exact hS.excl i2 cs2 e2 pv2 hc _ _ hi (fun e => hi2 e.symm) heq
      · exact hS.excl i2 cs2 e2 pv2 hc j c hj hne heq
  · rw [hget] at hc hj
    split at hc
    · cases hc
    · rename_i hi2
      split at hj
      · rename_i hj2
        subst hj2
        exact hS.exclm i2 es hc _ _ hi (fun e => hi2 e.symm)
      · exact hS.exclm i2 es hc j c hj hne
  · rw [hget] at hc hj
    split at hc
    · rename_i hi2
      subst hi2
      injection hc with hc
      injection hc with hc1 hc2 hc3 hc4
      subst hc1 hc2 hc3
      split at hj
      · rename_i hjj; injection hj with hj; injection hj with hj1; rw [← hj1]; exact ⟨Nat.le_refl _, fun _ => hjj⟩
      · rename_i hj2
        exact absurd hφj (hex j _ hj hj2)
    · split at hj
      · rename_i hj2
        subst hj2
        injection hj with hj
        injection hj with hj1 hj2 hj3 hj4
        rw [← hj1, hl, ← hj4]
        exact hS.tip i2 cs2 e2 x hc _ _ _ _ _ hi hφj
      · exact hS.tip i2 cs2 e2 x hc j cs3 e3 x3 t3 hj hφj

/-- Knowledge is given up. -/
theorem Sim.sub (hS : Sim P N r h w) {h' : AH} (hn : h'.n = h.n) (hsub : ∀ j b, h'.get j = some b → h.get j = some b) : Sim P N r h' w :=
  ⟨fun i b hb => hS.blk i b (hsub i b hb), fun i b hb => by rw [hn]; exact hS.lt i b (hsub i b hb), fun i b hb => by rw [hn]; exact hS.bel i b (hsub i b hb),
   fun i cs e x t hb => hS.low i cs e x t (hsub i _ hb), fun i es hb => hS.lowm i es (hsub i _ hb), fun i cs e pv hb j c hj => hS.excl i cs e pv (hsub i _ hb) j c (hsub j c hj),
   fun i es hb j c hj => hS.exclm i es (hsub i _ hb) j c (hsub j c hj), fun i cs e x hb j cs' e' x' t' hj => hS.tip i cs e x (hsub i _ hb) j cs' e' x' t' (hsub j _ hj), hS.size⟩
def AH.dels (h : AH) : List Nat → AH
  | [] => h
  | i :: is => match Nat.blt i 1000000 with
    | true => AH.dels ⟨Tr.del 24 h.t i, h.n⟩ is
    | false => AH.dels h is
theorem AH.dels_n (is : List Nat) : ∀ (h : AH), (h.dels is).n = h.n := by
  induction is with
  | nil => intro h; rfl
  | cons i is ih => intro h; unfold AH.dels; split <;> rw [ih]
theorem AH.get_dels (is : List Nat) : ∀ (h : AH) (j : Nat) (b : ABlk), (h.dels is).get j = some b → h.get j = some b ∧ (j ∈ is → ¬ j < 1000000) := by
  induction is with
  | nil => intro h j b hb; exact ⟨hb, fun hm => by simp at hm⟩
  | cons i is ih =>
    intro h j b hb
    unfold AH.dels at hb
    split at hb
    · rename_i hi
      have hi : i < 1000000 := by simpa using hi
      obtain ⟨h1, h2⟩ := ih _ j b hb
      have h3 : (Tr.del 24 h.t i).get j = some b := h1
      rw [Tr.get_del 24 h.t i j (by omega)] at h3
      split at h3
      · cases h3
      · rename_i hne
        exact ⟨h3, fun hm => by
          rcases List.mem_cons.1 hm with e | hm
          · exact absurd e hne
          · exact h2 hm⟩
    · rename_i hi
      have hi : ¬ i < 1000000 := fun hlt => by
        have : Nat.blt i 1000000 = true := Nat.ble_eq_true_of_le hlt
        rw [this] at hi; cases hi
      obtain ⟨h1, h2⟩ := ih _ j b hb
      exact ⟨h1, fun hm => by
        rcases List.mem_cons.1 hm with e | hm
        · rw [e]; exact hi
        · exact h2 hm⟩
theorem AH.dels_get (is : List Nat) : ∀ (h : AH) (j : Nat), j ∉ is → (h.dels is).get j = h.get j := by
  induction is with
  | nil => intro h j hm; rfl
  | cons i is ih =>
    intro h j hm
    unfold AH.dels
    have hm1 : j ≠ i := fun e => hm (by simp [e])
    have hm2 : j ∉ is := fun e => hm (by simp [e])
    split
    · rename_i hi
      have hi : i < 1000000 := by simpa using hi
      rw [ih _ j hm2]
      show (Tr.del 24 h.t i).get j = _
      rw [Tr.get_del 24 h.t i j (by omega), if_neg hm1]
      rfl
    · exact ih _ j hm2

/-! ### Loads -/
def aLoad (tb : Nat → Option TI) (ev : Operand → Option Value) (h : AH) (t : TypeId) (x : Operand) : Option Value := match ev x with
  | some (.pointer (some ⟨i, o, none⟩)) => match h.get i with
    | some (.cells cs _ _ _) => match tb t with
      | some ti => match ti.desc.isRow with
        | true => match Nat.ble (o + ti.sz) cs.length with
          | true => some (.agg ((cs.drop o).take ti.sz).toArray)
          | false => none
        | false => cs[o]?
      | none => none
    | _ => none
  | _ => none

theorem loadVar_one {t : TypeId} {d : TypeDesc} (hu : P.underlying t = some d) (hd : d.isRow = false) {p : Addr} {v : Value} (hc : w.cell? p = some v) : (loadVar t p).run P w = .ok v w := by
  have hag : (isAgg t).run P w = .ok false w := by
    unfold isAgg
    rw [Sem.run_bind, run_underlying hu w]
    cases d <;> simp_all
  simp [loadVar, Sem.run_bind, hag, hc]

theorem load_ok {o : Oper} {t : TypeId} {x : Operand} (ho : o.op = .load t x) (htb : TbOk P tb) {v : Value} (hv : aLoad tb ev h t x = some v) (he : EvOk r h.n ev a) (hS : Sim P N r h w) :
    Bel h.n v ∧ ∃ v', VR r v v' ∧ (execOp a.eval o).run P w = .ok (.value v') w := by
  unfold aLoad at hv
  split at hv
  · rename_i i oo hx
    obtain ⟨_, hx⟩ := he x _ hx
    generalize hg : a.eval x = xv at hx
    cases hx
    split at hv
    · rename_i cs elem xc tc hi
      obtain ⟨arr, inf, ⟨fz, q1, q1f⟩, q2, q3, q4, q5⟩ := hS.blk i _ hi
      have hbel := hS.bel i _ hi
      have hcell : ∀ j y, arr[j]? = some y → w.cell? ⟨r.φ i, j, none⟩ = some y := fun j y hy => by simp [World.cell?, q1, hy]
      split at hv
      · rename_i ti hti
        obtain ⟨inf2, z1, z2, _, _⟩ := (htb _ _ hti).info
        have hu := (htb _ _ hti).und
        split at hv
        · rename_i hrow
          split at hv
          · rename_i hle
            injection hv with hv; subst hv
            have hle : oo + ti.sz ≤ cs.length := by simpa using hle
            have hlen : ((arr.toList.drop oo).take ti.sz).length = ti.sz := by simp; omega
            have hvr : VRs r ((cs.drop oo).take ti.sz) ((arr.toList.drop oo).take ti.sz) := by
              refine ⟨by rw [hlen]; simp; omega, fun k u y hu hy => ?_⟩
              rw [List.getElem?_take] at hu hy
              split at hu
              · rename_i hk
                rw [if_pos hk] at hy
                exact q5 (oo + k) u y (by simpa using hu) (by simpa using hy)
              · cases hu
            refine ⟨.agg _ fun k u hu => hbel u ?_, _, mk_agg hvr, ?_⟩
            · rw [List.getElem?_take] at hu
              split at hu
              · exact List.mem_of_getElem? (by simpa using hu)
              · cases hu
            · have := run_loadAt_mid (P := P) w (r.φ i) oo t ((arr.toList.drop oo).take ti.sz) ti.desc (fun j y hy => hcell _ _ (by
                rw [List.getElem?_take] at hy
                split at hy
                · simpa using hy
                · cases hy)) hu hrow (by rw [z1, hlen]; simp [z2])
              simp [execOp, ho, hg, Sem.run_bind, this]
          · cases hv
        · rename_i hrow
          have hob : oo < arr.size := Nat.lt_of_lt_of_le (List.getElem?_eq_some_iff.1 hv).1 q4
          refine ⟨hbel v (List.mem_of_getElem? hv), _, q5 oo v _ hv (Array.getElem?_eq_getElem hob), ?_⟩
          have := loadVar_one (P := P) hu hrow (hcell oo _ (Array.getElem?_eq_getElem hob))
          simp [execOp, ho, hg, Instr.loadAt, Instr.sureAddr, Sem.run_bind, this]
      · cases hv
    · cases hv
  · cases hv
end
end Go.Proofs.YtledghdlcdgepaaGreatDoor
