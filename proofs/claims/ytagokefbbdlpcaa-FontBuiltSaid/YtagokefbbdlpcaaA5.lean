/- The implementation's find walked. -/
import Derived.Test.YtagokefbbdlpcaaA4
namespace Go.Proofs.Ytagokefbbdlpcaa
set_option linter.unusedVariables false
set_option linter.unusedSimpArgs false
open Go.RowKit

theorem res36 (a' : Act) (W : World) (H : Nat) (v : TRow) (R : Ending → World → Prop) (h2 : a'.eval (.tmp 2) = .pointer (some ⟨H, 0, none⟩)) (hd : a'.defers = []) (hb : Blk W H 56 v.cells) (hR : R (.returned (.agg v.cells)) W) : bodyPost Try.prog Try.f36 R .ret a' W :=
  ⟨hd, _, results_cell_row (fn := Try.f36) Try.results36 a'.tmps W H 56 v.cells (0, 0) _ h2 hb Try.underlying56 rfl (by kernel_rfl), hR⟩

theorem info77 : (Try.prog.info? 77).map (fun i => (i.zero, i.size)) = some (some (.agg (madeCells TRow.zero.cells 308)), 308) := by kernel_rfl
theorem info81 : (Try.prog.info? 81).map (fun i => (i.zero, i.size)) = some (some (.agg (madeCells TRow.zero.cells 287)), 287) := by kernel_rfl
theorem wpList_call {P : Program} {ops : Array Oper} {rest : List Oper} {d : Option Tmp} {f : FuncId} {xs : Array Operand} {ats : Array TypeId} {ty : TypeId} {p : String} {af : Array Edge} {a : Act} {w : World} {Q : Exit → Act → World → Prop} {R : Ending → World → Prop} (args : Array Value)
    (hcall : ∀ (args : Array Value) (w : World), (callFunc f args).run P w = .ok (.enter f args) w) (hx : #[] ++ xs.map a.eval ++ #[] = args) (h : Calls P f args w R) (hk : ∀ e w', R e w' → ∃ v, e = .returned v ∧ wpList P ops Q rest (a.put d v) w') :
    wpList P ops Q ({ dst := d, op := .call { callee := .value (.func f), args := xs, argTypes := ats }, type := ty, pos := p, after := af, guard := none } :: rest) a w := by
  refine wpList_plain rfl fun K hK => ?_
  have hr : (execOp a.eval { dst := d, op := .call { callee := .value (.func f), args := xs, argTypes := ats }, type := ty, pos := p, after := af, guard := none }).run P w = .ok (.enter f args) w := by
    rw [← hx]
    exact hcall _ w
  unfold Oper.wp
  rw [hr]
  refine h.mono ?_
  intro e w' he
  obtain ⟨v, rfl, h2⟩ := hk e w' he
  exact hK _ _ h2

def set7 (w : World) (H : Nat) (x : TRow) : World :=
  ((((((w.setCell ⟨H, 0, none⟩ (.int .i32 x.f)).setCell ⟨H, 1, none⟩ (.int .i32 x.l)).setCell ⟨H, 2, none⟩ (.int .u8 x.b)).setCell ⟨H, 3, none⟩ (.int .u8 x.w)).setCell ⟨H, 4, none⟩ (.int .u8 x.n)).setCell ⟨H, 5, none⟩ (.int .u8 x.d)).setCell ⟨H, 6, none⟩ (.int .u8 x.j)

theorem run_store7 (ρ : Operand → Value) (x y : Operand) (H : Nat) (v : TRow) (z0 z1 z2 z3 z4 z5 z6 : Value) (p : String) (af : Array Edge) (w : World) (hx : ρ x = .pointer (some ⟨H, 0, none⟩)) (hy : ρ y = .agg v.cells) (hb : Blk w H 56 #[z0, z1, z2, z3, z4, z5, z6]) :
    (execOp ρ { dst := none, op := .store 56 x y, type := 0, pos := p, after := af, guard := none }).run Try.prog w = .ok .skip (set7 w H v) := by
  have c0 : w.cell? ⟨H, 0, none⟩ = some z0 := by rw [hb.cell]; rfl
  have c1 : w.cell? ⟨H, 1, none⟩ = some z1 := by rw [hb.cell]; rfl
  have c2 : w.cell? ⟨H, 2, none⟩ = some z2 := by rw [hb.cell]; rfl
  have c3 : w.cell? ⟨H, 3, none⟩ = some z3 := by rw [hb.cell]; rfl
  have c4 : w.cell? ⟨H, 4, none⟩ = some z4 := by rw [hb.cell]; rfl
  have c5 : w.cell? ⟨H, 5, none⟩ = some z5 := by rw [hb.cell]; rfl
  have c6 : w.cell? ⟨H, 6, none⟩ = some z6 := by rw [hb.cell]; rfl
  have f0 := hb.frozen 0
  have f1 := hb.frozen 1
  have f2 := hb.frozen 2
  have f3 := hb.frozen 3
  have f4 := hb.frozen 4
  have f5 := hb.frozen 5
  have f6 := hb.frozen 6
  simp [execOp, hx, hy, go_sem, TRow.cells, c0, c1, c2, c3, c4, c5, c6, f0, f1, f2, f3, f4, f5, f6, set7]

theorem set7_blk {w : World} {H : Nat} {z0 z1 z2 z3 z4 z5 z6 : Value} (hb : Blk w H 56 #[z0, z1, z2, z3, z4, z5, z6]) (v : TRow) : Blk (set7 w H v) H 56 v.cells := by
  have := ((((((hb.set_ 0 (.int .i32 v.f)).set_ 1 (.int .i32 v.l)).set_ 2 (.int .u8 v.b)).set_ 3 (.int .u8 v.w)).set_ 4 (.int .u8 v.n)).set_ 5 (.int .u8 v.d)).set_ 6 (.int .u8 v.j)
  simpa [set7, TRow.cells] using this
theorem set7_below {w : World} {H B : Nat} (v : TRow) (h : B ≤ H) : Below B w (set7 w H v) :=
  (((((((Below.refl _ _).setCell (p := ⟨H, 0, none⟩) h _).setCell (p := ⟨H, 1, none⟩) h _).setCell (p := ⟨H, 2, none⟩) h _).setCell (p := ⟨H, 3, none⟩) h _).setCell (p := ⟨H, 4, none⟩) h _).setCell (p := ⟨H, 5, none⟩) h _).setCell (p := ⟨H, 6, none⟩) h _

def tailA (rg s3 s ty f : Nat) (p1 : String) : Code :=
  Code.region rg [{ dst := some s, op := .call { callee := .value (.func f), args := #[], argTypes := #[] }, type := ty, pos := p1, after := #[], guard := none },
    { dst := some s3, op := .alloc ty, type := 0, pos := p1, after := #[], guard := none },
    { dst := none, op := .store ty (.tmp s3) (.tmp s), type := 0, pos := p1, after := #[{ on := 1, ground := .data }, { on := 0, ground := .data }, { on := 0, ground := .chain }, { on := 0, ground := .phase }, { on := 1, ground := .phase }], guard := none }].toArray false
def tailB (rg s3 s ty : Nat) (p2 : String) : Code :=
  ((Code.region (rg + 1) [{ dst := some (s + 1), op := .slice ty (.tmp s3) none none none, type := 80, pos := p2, after := #[], guard := none },
    { dst := some (s + 2), op := .move (.tmp 0), type := 21, pos := p2, after := #[], guard := none },
    { dst := some (s + 3), op := .call { callee := .value (.func 60), args := #[.tmp (s + 1), .tmp (s + 2)], argTypes := #[80, 21] }, type := 56, pos := p2, after := #[{ on := 0, ground := .data }, { on := 1, ground := .data }], guard := none },
    { dst := none, op := .store 56 (.tmp 2) (.tmp (s + 3)), type := 0, pos := p2, after := #[{ on := 2, ground := .data }, { on := 2, ground := .chain }, { on := 0, ground := .phase }, { on := 1, ground := .phase }, { on := 2, ground := .phase }], guard := none }].toArray false).seq .ret)

theorem tail_wp (rg s3 s ty f n : Nat) (p1 p2 : String) (T : List TRow) (r : Int) (zs : Array Value) (el : TypeId) (G : Nat) (z0 z1 z2 z3 z4 z5 z6 : Value) (a : Act) (w : World) (K : Act → World → Prop) (Q : Exit → Act → World → Prop) (hK : ∀ a w, (tailB rg s3 s ty p2).wp Try.prog Q a w → K a w)
    (hcall : ∀ (args : Array Value) (w : World), (callFunc f args).run Try.prog w = .ok (.enter f args) w)
    (hT : ∀ w, Calls Try.prog f #[] w fun e w' => e = .returned (.agg (tcells T).toArray) ∧ w' = w.alloc (.cells (tcells T).toArray ty))
    (hn : T.length = n) (hn1 : 1 ≤ n) (hn2 : n ≤ 1000) (hasc : Asc T)
    (hz : (Try.prog.info? ty).map (fun i => (i.zero, i.size)) = some (some (.agg zs), (tcells T).length)) (hzs : zs.size = (tcells T).length) (h1 : (tcells T).toArray.all (·.oneCell') = true)
    (hsl : ∀ (H : Nat) (W : World), (Instr.sliceAt ty (.pointer (some ⟨H, 0, none⟩)) none none none).run Try.prog W = .ok (.slice (some ⟨H, 0, none⟩) n n) W)
    (h0 : a.eval (.tmp 0) = .int .i32 r) (h2 : a.eval (.tmp 2) = .pointer (some ⟨G, 0, none⟩)) (hs3 : 2 < s3) (hs : s3 < s) (hsz : s + 3 < a.tmps.size) (hb : Blk w G 56 #[z0, z1, z2, z3, z4, z5, z6])
    (hQ : ∀ a' w', Kept a a' 3 → Blk w' G 56 (look T r).cells → Below G w w' → Q .ret a' w') : (tailA rg s3 s ty f p1).wp Try.prog (Exit.then K Q) a w := by
  obtain ⟨hz1, hz2⟩ := Go.zero_of_info hz
  refine wp_region_lit ?_
  refine wpList_call #[] hcall (by simp) (hT _) ?_
  rintro e w1 ⟨rfl, rfl⟩
  refine ⟨_, rfl, ?_⟩
  have e1 := eval_put_eq a s (.agg (tcells T).toArray) (by omega)
  have k1 := (Kept.refl a 3).put (show 3 ≤ s by omega) (.agg (tcells T).toArray)
  have l1 : s + 3 < (a.put (some s) (.agg (tcells T).toArray)).tmps.size := by rw [size_put]; exact hsz
  generalize a.put (some s) (.agg (tcells T).toArray) = a1 at *
  have hg1 : G < (w.alloc (.cells (tcells T).toArray ty)).heap.size := by have := hb.lt; simp; omega
  have hb1 : Blk (w.alloc (.cells (tcells T).toArray ty)) G 56 #[z0, z1, z2, z3, z4, z5, z6] := hb.alloc _
  have hbl1 : Below G w (w.alloc (.cells (tcells T).toArray ty)) := (Below.refl _ _).alloc (Nat.le_of_lt hb.lt) _
  generalize w.alloc (.cells (tcells T).toArray ty) = w1 at *
  have ha0 : (execOp a1.eval { dst := some s3, op := .alloc ty, type := 0, pos := p1, after := #[], guard := none }).run Try.prog w1 = .ok (.value (.pointer (some ⟨w1.heap.size, 0, none⟩))) (w1.alloc (.cells zs ty)) := by
    simp [execOp, go_sem, hz1]
  refine wpList_run rfl ha0 ?_
  have e2 := eval_put_eq a1 s3 (.pointer (some ⟨w1.heap.size, 0, none⟩)) (by omega)
  have e3 := (eval_put_ne a1 s3 s (.pointer (some ⟨w1.heap.size, 0, none⟩)) (by omega)).trans e1
  have k2 := k1.put (show 3 ≤ s3 by omega) (.pointer (some ⟨w1.heap.size, 0, none⟩))
  have l2 : s + 3 < (a1.put (some s3) (.pointer (some ⟨w1.heap.size, 0, none⟩))).tmps.size := by rw [size_put]; exact l1
  generalize a1.put (some s3) (.pointer (some ⟨w1.heap.size, 0, none⟩)) = a2 at *
  have hst : (execOp a2.eval { dst := none, op := .store ty (.tmp s3) (.tmp s), type := 0, pos := p1, after := #[{ on := 1, ground := .data }, { on := 0, ground := .data }, { on := 0, ground := .chain }, { on := 0, ground := .phase }, { on := 1, ground := .phase }], guard := none }).run Try.prog (w1.alloc (.cells zs ty)) = .ok .skip (w1.alloc (.cells (tcells T).toArray ty)) := by
    have := Go.run_storeAt_new (P := Try.prog) w1 ty zs (tcells T).toArray (by simpa using hz2) (by simpa using hzs) h1
    simp only [execOp, e2, e3]
    simp [this]
  refine wpList_skip rfl hst ?_
  refine hK _ _ ?_
  refine wp_seq (wp_region_lit ?_)
  have hcl : ∀ i u, (tcells T)[i]? = some u → (w1.alloc (.cells (tcells T).toArray ty)).cell? ⟨w1.heap.size, i, none⟩ = some u := fun i u hu => by
    rw [(Blk.new w1 ty (tcells T).toArray).cell]; simpa using hu
  have hb2 : Blk (w1.alloc (.cells (tcells T).toArray ty)) G 56 #[z0, z1, z2, z3, z4, z5, z6] := hb1.alloc _
  have hbl2 : Below G w (w1.alloc (.cells (tcells T).toArray ty)) := hbl1.alloc (Nat.le_of_lt hg1) _
  have hg2 : G < (w1.alloc (.cells (tcells T).toArray ty)).heap.size := by simp; omega
  generalize w1.alloc (.cells (tcells T).toArray ty) = w2 at *
  change wpList Try.prog _ _ _ a2 w2
  have hsr : (execOp a2.eval { dst := some (s + 1), op := .slice ty (.tmp s3) none none none, type := 80, pos := p2, after := #[], guard := none }).run Try.prog w2 = .ok (.value (.slice (some ⟨w1.heap.size, 0, none⟩) n n)) w2 := by
    simp only [execOp, e2, Option.map_none]
    simp [hsl]
  refine wpList_run rfl hsr ?_
  have e4 := eval_put_eq a2 (s + 1) (.slice (some ⟨w1.heap.size, 0, none⟩) n n) (by omega)
  have k3 := k2.put (show 3 ≤ s + 1 by omega) (.slice (some ⟨w1.heap.size, 0, none⟩) n n)
  have l3 : s + 3 < (a2.put (some (s + 1)) (.slice (some ⟨w1.heap.size, 0, none⟩) n n)).tmps.size := by rw [size_put]; exact l2
  generalize a2.put (some (s + 1)) (.slice (some ⟨w1.heap.size, 0, none⟩) n n) = a3 at *
  refine wpList_run rfl (run_move _ _ _ _ _ _ _ _) ?_
  rw [(k3.slots 0 (by omega)).trans h0]
  have e5 := eval_put_eq a3 (s + 2) (.int .i32 r) (by omega)
  have e6 := (eval_put_ne a3 (s + 2) (s + 1) (.int .i32 r) (by omega)).trans e4
  have k4 := k3.put (show 3 ≤ s + 2 by omega) (.int .i32 r)
  have l4 : s + 3 < (a3.put (some (s + 2)) (.int .i32 r)).tmps.size := by rw [size_put]; exact l3
  change wpList Try.prog _ _ _ (a3.put (some (s + 2)) (.int .i32 r)) w2
  generalize a3.put (some (s + 2)) (.int .i32 r) = a4 at *
  refine wpList_call #[.slice (some ⟨w1.heap.size, 0, none⟩) n n, .int .i32 r] Try.call60 (by simp [e5, e6]) (search_any w1.heap.size n T r w2 hn hn1 hn2 hcl hasc) ?_
  rintro e w3 ⟨rfl, hb3⟩
  refine ⟨_, rfl, ?_⟩
  have e7 := eval_put_eq a4 (s + 3) (.agg (look T r).cells) l4
  have k5 := k4.put (show 3 ≤ s + 3 by omega) (.agg (look T r).cells)
  have e8 := (k5.slots 2 (by omega)).trans h2
  refine wpList_skip rfl (run_store7 _ _ _ G _ z0 z1 z2 z3 z4 z5 z6 _ _ _ e8 e7 (hb2.below hb3 hg2)) ?_
  exact wp_ret (hQ _ _ (k5.none _) (set7_blk (hb2.below hb3 hg2) _) ((hbl2.trans (hb3.mono (Nat.le_of_lt hg2))).trans (set7_below _ (Nat.le_refl _))))
end Go.Proofs.Ytagokefbbdlpcaa
