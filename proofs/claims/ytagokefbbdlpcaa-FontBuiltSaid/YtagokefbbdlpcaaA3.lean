/- The four tables of the implementation. -/
import Derived.Test.YtagokefbbdlpcaaA2
import Derived.Deep.WholeRow
namespace Go.Proofs.Ytagokefbbdlpcaa
set_option linter.unusedVariables false
set_option linter.unusedSimpArgs false
open Go.RowKit

/-- A row of a table: first, last, five classes. -/
structure TRow where
  f : Int
  l : Int
  b : Int
  w : Int
  n : Int
  d : Int
  j : Int

def TRow.cells (x : TRow) : Array Value := #[.int .i32 x.f, .int .i32 x.l, .int .u8 x.b, .int .u8 x.w, .int .u8 x.n, .int .u8 x.d, .int .u8 x.j]
def TRow.zero : TRow := ⟨0, 0, 0, 0, 0, 0, 0⟩
def tcells (T : List TRow) : List Value := T.flatMap fun x => x.cells.toList

def bOp (s : Nat) (p : String) (x : TRow) : Oper :=
  { dst := some s, op := .build 56 #[(0, .const (.int .i32 x.f)), (1, .const (.int .i32 x.l)), (2, .const (.int .u8 x.b)), (3, .const (.int .u8 x.w)), (4, .const (.int .u8 x.n)), (5, .const (.int .u8 x.d)), (6, .const (.int .u8 x.j))], type := 56, pos := p, after := #[], guard := none }
def bOps (s : Nat) (p : String) : List TRow → List Oper
  | [] => []
  | x :: t => bOp s p x :: bOps (s + 1) p t
def arrOp (n : Nat) (ty : TypeId) (p : String) : Oper :=
  { dst := some (n + 1), op := .build ty ((List.range n).map fun i => (i, .tmp (i + 1))).toArray, type := ty, pos := p, after := ((List.range n).map fun i => { on := i, ground := .data }).toArray, guard := none }
def stOp (n : Nat) (ty : TypeId) (p : String) : Oper :=
  { dst := none, op := .store ty (.tmp 0) (.tmp (n + 1)), type := 0, pos := p, after := ({ on := n, ground := .data } :: ((List.range (n + 1)).map fun i => { on := i, ground := .phase })).toArray, guard := none }
def tblCode (ty : TypeId) (p0 p1 : String) (T : List TRow) : Code :=
  (Code.region 0 [{ dst := some 0, op := .alloc ty, type := 0, pos := p0, after := #[], guard := none }].toArray false).seq ((Code.region 1 (bOps 1 p1 T ++ [arrOp T.length ty p1, stOp T.length ty p1]).toArray false).seq .ret)

theorem run_bOp (ρ : Operand → Value) (hρ : ∀ v, ρ (.const v) = v) (s : Nat) (p : String) (x : TRow) (w : World) : (execOp ρ (bOp s p x)).run Try.prog w = .ok (.value (.agg x.cells)) w := by
  simp [execOp, hρ, go_sem, bOp, TRow.cells]

theorem bOps_wp (ops : Array Oper) (rest : List Oper) (Q : Exit → Act → World → Prop) (p : String) (w : World) : ∀ (T : List TRow) (s : Nat) (a : Act), s + T.length ≤ a.tmps.size →
    (∀ a', Kept a a' s → (∀ i x, T[i]? = some x → a'.eval (.tmp (s + i)) = .agg x.cells) → wpList Try.prog ops Q rest a' w) → wpList Try.prog ops Q (bOps s p T ++ rest) a w
  | [], s, a, hs, h => h a (Kept.refl _ _) (fun i x hx => by simp at hx)
  | x :: t, s, a, hs, h => by
    simp only [List.length_cons] at hs
    refine wpList_run rfl (run_bOp _ (fun _ => rfl) s p x w) ?_
    refine bOps_wp ops rest Q p w t (s + 1) _ (by show _ ≤ (a.put (some s) _).tmps.size; rw [size_put]; omega) fun a' k h' => h a' (((Kept.refl a s).put (Nat.le_refl _) _).trans (k.less (by omega))) fun i y hy => ?_
    match i, hy with
    | 0, hy =>
      simp at hy
      subst hy
      refine (k.slots s (by omega)).trans ?_
      exact eval_put_eq _ _ _ (by omega)
    | i + 1, hy =>
      have := h' i y (by simpa using hy)
      rw [show s + (i + 1) = s + 1 + i by omega]
      exact this

theorem tbl_wp (fn : Func) (ty n : Nat) (p0 p1 : String) (T : List TRow) (zs : Array Value) (el : TypeId) (w : World) (R : Ending → World → Prop) (hn : T.length = n) (hres : fn.results = #[.cell 0 ty]) (hu : Try.prog.underlying ty = some (.array n el))
    (hz : (Try.prog.info? ty).map (fun i => (i.zero, i.size)) = some (some (.agg zs), (tcells T).length)) (hzs : zs.size = (tcells T).length)
    (hb : ∀ w, (Instr.build ty ((List.range n).map fun i => (i, Value.agg ((T[i]?).getD TRow.zero).cells)).toArray).run Try.prog w = .ok (.agg (tcells T).toArray) w)
    (h1 : (tcells T).toArray.all (·.oneCell') = true)
    (a : Act) (ha : n + 2 ≤ a.tmps.size) (hd : a.defers = []) (hR : R (.returned (.agg (tcells T).toArray)) (w.alloc (.cells (tcells T).toArray ty))) :
    (tblCode ty p0 p1 T).wp Try.prog (bodyPost Try.prog fn R) a w := by
  subst hn
  obtain ⟨hz1, hz2⟩ := Go.zero_of_info hz
  refine wp_seq (wp_region_lit ?_)
  have ha0 : (execOp a.eval { dst := some 0, op := .alloc ty, type := 0, pos := p0, after := #[], guard := none }).run Try.prog w = .ok (.value (.pointer (some ⟨w.heap.size, 0, none⟩))) (w.alloc (.cells zs ty)) := by
    simp [execOp, go_sem, hz1]
  refine wpList_run rfl ha0 ?_
  refine wp_seq (wp_region_lit ?_)
  have e0 := eval_put_eq a 0 (.pointer (some ⟨w.heap.size, 0, none⟩)) (by omega)
  refine bOps_wp _ _ _ p1 _ T 1 _ (by show _ ≤ (a.put (some 0) _).tmps.size; rw [size_put]; omega) fun a2 k2 h2 => ?_
  have hparts : (((List.range T.length).map fun i => (i, Operand.tmp (i + 1))).toArray.map fun (i, x) => (i, a2.eval x)) = ((List.range T.length).map fun i => (i, Value.agg ((T[i]?).getD TRow.zero).cells)).toArray := by
    simp
    intro i hi
    have := h2 i _ (List.getElem?_eq_getElem hi)
    rw [Nat.add_comm] at this
    simp [this, List.getElem?_eq_getElem hi]
  have hb2 : (execOp a2.eval (arrOp T.length ty p1)).run Try.prog (w.alloc (.cells zs ty)) = .ok (.value (.agg (tcells T).toArray)) (w.alloc (.cells zs ty)) := by
    simp only [execOp, arrOp]
    rw [hparts]
    simp [hb]
  refine wpList_run rfl hb2 ?_
  have hs2 : (execOp (a2.put (arrOp T.length ty p1).dst (.agg (tcells T).toArray)).eval (stOp T.length ty p1)).run Try.prog (w.alloc (.cells zs ty)) = .ok .skip (w.alloc (.cells (tcells T).toArray ty)) := by
    have x0 : (a2.put (some (T.length + 1)) (.agg (tcells T).toArray)).eval (.tmp 0) = .pointer (some ⟨w.heap.size, 0, none⟩) := by
      rw [eval_put_ne _ _ _ _ (by omega), k2.slots 0 (by omega)]; exact e0
    have x1 : (a2.put (some (T.length + 1)) (.agg (tcells T).toArray)).eval (.tmp (T.length + 1)) = .agg (tcells T).toArray := eval_put_eq _ _ _ (by rw [k2.size]; show _ < (a.put (some 0) _).tmps.size; rw [size_put]; omega)
    have := Go.run_storeAt_new (P := Try.prog) w ty zs (tcells T).toArray (by simpa using hz2) (by simpa using hzs) h1
    simp only [execOp, stOp, arrOp, x0, x1]
    simp [this]
  refine wpList_skip rfl hs2 ?_
  refine wp_ret ?_
  refine ⟨k2.defers.trans hd, _, results_cell_row hres _ _ w.heap.size ty (tcells T).toArray (0, 0) _ ?_ (heap_alloc_new w _) hu rfl (by simpa using hz2), hR⟩
  have x0 : (a2.put (some (T.length + 1)) (.agg (tcells T).toArray)).eval (.tmp 0) = .pointer (some ⟨w.heap.size, 0, none⟩) := by
    rw [eval_put_ne _ _ _ _ (by omega), k2.slots 0 (by omega)]; exact e0
  exact x0

def T1 : List TRow := [
  ⟨0, 8, 3, 0, 7, 9, 0⟩,
  ⟨9, 9, 3, 0, 10, 11, 0⟩,
  ⟨10, 10, 2, 1, 3, 10, 0⟩,
  ⟨11, 11, 3, 1, 1, 11, 0⟩,
  ⟨12, 12, 3, 1, 1, 12, 0⟩,
  ⟨13, 13, 1, 1, 2, 10, 0⟩,
  ⟨14, 31, 3, 0, 7, 9, 0⟩,
  ⟨32, 32, 0, 2, 4, 12, 0⟩,
  ⟨33, 33, 0, 0, 15, 13, 0⟩,
  ⟨34, 34, 0, 0, 14, 13, 0⟩,
  ⟨35, 37, 0, 0, 0, 5, 0⟩,
  ⟨38, 38, 0, 0, 0, 13, 0⟩,
  ⟨39, 39, 0, 7, 14, 13, 0⟩,
  ⟨40, 40, 0, 0, 12, 13, 0⟩,
  ⟨41, 41, 0, 0, 13, 13, 0⟩,
  ⟨42, 42, 0, 0, 0, 13, 0⟩,
  ⟨43, 43, 0, 0, 0, 4, 0⟩,
  ⟨44, 44, 0, 6, 16, 7, 0⟩,
  ⟨45, 45, 0, 0, 11, 4, 0⟩,
  ⟨46, 46, 0, 7, 16, 7, 0⟩,
  ⟨47, 47, 0, 0, 10, 7, 0⟩,
  ⟨48, 57, 0, 4, 17, 3, 0⟩,
  ⟨58, 58, 0, 5, 16, 7, 0⟩,
  ⟨59, 59, 0, 6, 16, 13, 0⟩,
  ⟨60, 62, 0, 0, 0, 13, 0⟩,
  ⟨63, 63, 0, 0, 15, 13, 0⟩,
  ⟨64, 64, 0, 0, 0, 13, 0⟩,
  ⟨65, 90, 0, 3, 0, 0, 0⟩,
  ⟨91, 91, 0, 0, 12, 13, 0⟩,
  ⟨92, 92, 0, 0, 0, 13, 0⟩,
  ⟨93, 93, 0, 0, 13, 13, 0⟩,
  ⟨94, 94, 0, 0, 0, 13, 0⟩,
  ⟨95, 95, 0, 8, 0, 13, 0⟩,
  ⟨96, 96, 0, 0, 0, 13, 0⟩,
  ⟨97, 122, 0, 3, 0, 0, 0⟩,
  ⟨123, 123, 0, 0, 12, 13, 0⟩,
  ⟨124, 124, 0, 0, 10, 13, 0⟩,
  ⟨125, 125, 0, 0, 13, 13, 0⟩,
  ⟨126, 126, 0, 0, 0, 13, 0⟩,
  ⟨127, 132, 3, 0, 7, 9, 0⟩,
  ⟨133, 133, 3, 1, 1, 10, 0⟩,
  ⟨134, 159, 3, 0, 7, 9, 0⟩,
  ⟨160, 160, 0, 0, 9, 7, 0⟩,
  ⟨161, 161, 0, 0, 12, 13, 0⟩]

theorem len_T1 : T1.length = 44 := by kernel_rfl
theorem body_T1 : Try.f59.body = some (tblCode 77 "char.go:13" "char.go:14" T1) := by kernel_rfl
theorem any_T1 (w : World) : Calls Try.prog 59 #[] w fun e w' => e = .returned (.agg (tcells T1).toArray) ∧ w' = w.alloc (.cells (tcells T1).toArray 77) := by
  refine calls_of_wp Try.func59 body_T1 ?_
  refine tbl_wp Try.f59 77 44 _ _ T1 (madeCells TRow.zero.cells 308) 56 w _ len_T1 Try.results59 Try.underlying77 (by kernel_rfl) (by kernel_rfl) (fun w => by kernel_rfl) (by kernel_rfl) _ ?_ rfl ⟨rfl, rfl⟩
  simp [Try.ntmps59]

def T2 : List TRow := [
  ⟨162, 165, 0, 0, 0, 5, 0⟩,
  ⟨166, 169, 0, 0, 0, 13, 0⟩,
  ⟨170, 170, 0, 3, 0, 0, 0⟩,
  ⟨171, 171, 0, 0, 14, 13, 0⟩,
  ⟨172, 172, 0, 0, 0, 13, 0⟩,
  ⟨173, 173, 3, 10, 10, 9, 4⟩,
  ⟨174, 180, 0, 0, 0, 13, 0⟩,
  ⟨181, 181, 0, 3, 0, 0, 0⟩,
  ⟨182, 182, 0, 0, 0, 13, 0⟩,
  ⟨183, 183, 0, 5, 0, 13, 0⟩,
  ⟨184, 185, 0, 0, 0, 13, 0⟩,
  ⟨186, 186, 0, 3, 0, 0, 0⟩,
  ⟨187, 187, 0, 0, 14, 13, 0⟩,
  ⟨188, 191, 0, 0, 0, 13, 0⟩,
  ⟨192, 767, 0, 3, 0, 0, 0⟩,
  ⟨768, 879, 4, 10, 7, 8, 4⟩,
  ⟨880, 1423, 0, 3, 0, 0, 0⟩,
  ⟨1424, 1469, 4, 10, 7, 8, 4⟩,
  ⟨1470, 1470, 0, 0, 10, 1, 0⟩,
  ⟨1471, 1479, 4, 10, 7, 8, 4⟩,
  ⟨1488, 1514, 0, 3, 0, 1, 0⟩,
  ⟨1536, 1541, 7, 0, 0, 6, 0⟩,
  ⟨1548, 1548, 0, 6, 16, 7, 0⟩,
  ⟨1552, 1562, 4, 10, 7, 8, 4⟩,
  ⟨1563, 1563, 0, 0, 15, 2, 0⟩,
  ⟨1564, 1564, 3, 10, 7, 2, 4⟩,
  ⟨1567, 1567, 0, 0, 15, 2, 0⟩,
  ⟨1568, 1568, 0, 3, 0, 2, 2⟩,
  ⟨1569, 1569, 0, 3, 0, 2, 0⟩,
  ⟨1570, 1573, 0, 3, 0, 2, 1⟩,
  ⟨1574, 1574, 0, 3, 0, 2, 2⟩,
  ⟨1575, 1575, 0, 3, 0, 2, 1⟩,
  ⟨1576, 1576, 0, 3, 0, 2, 2⟩,
  ⟨1577, 1577, 0, 3, 0, 2, 1⟩,
  ⟨1578, 1582, 0, 3, 0, 2, 2⟩,
  ⟨1583, 1586, 0, 3, 0, 2, 1⟩,
  ⟨1587, 1599, 0, 3, 0, 2, 2⟩,
  ⟨1600, 1600, 0, 3, 0, 2, 3⟩,
  ⟨1601, 1607, 0, 3, 0, 2, 2⟩,
  ⟨1608, 1608, 0, 3, 0, 2, 1⟩,
  ⟨1609, 1610, 0, 3, 0, 2, 2⟩,
  ⟨1611, 1631, 4, 10, 7, 8, 4⟩,
  ⟨1632, 1641, 0, 4, 17, 6, 0⟩,
  ⟨1642, 1642, 0, 0, 0, 5, 0⟩]

theorem len_T2 : T2.length = 44 := by kernel_rfl
theorem body_T2 : Try.f61.body = some (tblCode 77 "char.go:63" "char.go:64" T2) := by kernel_rfl
theorem any_T2 (w : World) : Calls Try.prog 61 #[] w fun e w' => e = .returned (.agg (tcells T2).toArray) ∧ w' = w.alloc (.cells (tcells T2).toArray 77) := by
  refine calls_of_wp Try.func61 body_T2 ?_
  refine tbl_wp Try.f61 77 44 _ _ T2 (madeCells TRow.zero.cells 308) 56 w _ len_T2 Try.results61 Try.underlying77 (by kernel_rfl) (by kernel_rfl) (fun w => by kernel_rfl) (by kernel_rfl) _ ?_ rfl ⟨rfl, rfl⟩
  simp [Try.ntmps61]

def T3 : List TRow := [
  ⟨1643, 1644, 0, 6, 16, 6, 0⟩,
  ⟨1648, 1648, 4, 10, 7, 8, 4⟩,
  ⟨1649, 1655, 0, 3, 0, 2, 1⟩,
  ⟨1656, 1671, 0, 3, 0, 2, 2⟩,
  ⟨1672, 1689, 0, 3, 0, 2, 1⟩,
  ⟨1690, 1727, 0, 3, 0, 2, 2⟩,
  ⟨1728, 1739, 0, 3, 0, 2, 1⟩,
  ⟨1740, 1747, 0, 3, 0, 2, 2⟩,
  ⟨1750, 1756, 4, 10, 7, 8, 4⟩,
  ⟨1776, 1785, 0, 4, 17, 3, 0⟩,
  ⟨2304, 2306, 4, 10, 7, 8, 0⟩,
  ⟨2307, 2307, 8, 10, 7, 0, 0⟩,
  ⟨2308, 2361, 0, 3, 0, 0, 0⟩,
  ⟨2364, 2364, 4, 10, 7, 8, 0⟩,
  ⟨2366, 2368, 8, 10, 7, 0, 0⟩,
  ⟨2369, 2376, 4, 10, 7, 8, 0⟩,
  ⟨2377, 2380, 8, 10, 7, 0, 0⟩,
  ⟨2381, 2381, 4, 10, 7, 8, 0⟩,
  ⟨2406, 2415, 0, 4, 17, 0, 0⟩,
  ⟨4352, 4447, 9, 3, 18, 0, 0⟩,
  ⟨4448, 4519, 10, 3, 18, 0, 0⟩,
  ⟨4520, 4607, 11, 3, 18, 0, 0⟩,
  ⟨8192, 8198, 0, 2, 10, 12, 0⟩,
  ⟨8199, 8199, 0, 0, 9, 12, 0⟩,
  ⟨8200, 8202, 0, 2, 10, 12, 0⟩,
  ⟨8203, 8203, 3, 0, 5, 9, 0⟩,
  ⟨8204, 8204, 4, 10, 7, 9, 0⟩,
  ⟨8205, 8205, 5, 11, 6, 9, 3⟩,
  ⟨8206, 8206, 3, 10, 7, 0, 4⟩,
  ⟨8207, 8207, 3, 10, 7, 1, 4⟩,
  ⟨8208, 8208, 0, 0, 10, 13, 0⟩,
  ⟨8209, 8209, 0, 0, 9, 13, 0⟩,
  ⟨8210, 8212, 0, 0, 10, 13, 0⟩,
  ⟨8213, 8215, 0, 0, 0, 13, 0⟩,
  ⟨8216, 8216, 0, 0, 14, 13, 0⟩,
  ⟨8217, 8217, 0, 7, 14, 13, 0⟩,
  ⟨8218, 8218, 0, 0, 12, 13, 0⟩,
  ⟨8220, 8221, 0, 0, 14, 13, 0⟩,
  ⟨8232, 8232, 3, 1, 1, 12, 0⟩,
  ⟨8233, 8233, 3, 1, 1, 10, 0⟩,
  ⟨8234, 8234, 3, 10, 7, 14, 4⟩,
  ⟨8235, 8235, 3, 10, 7, 16, 4⟩,
  ⟨8236, 8236, 3, 10, 7, 18, 4⟩,
  ⟨8237, 8237, 3, 10, 7, 15, 4⟩]

theorem len_T3 : T3.length = 44 := by kernel_rfl
theorem body_T3 : Try.f62.body = some (tblCode 77 "char.go:113" "char.go:114" T3) := by kernel_rfl
theorem any_T3 (w : World) : Calls Try.prog 62 #[] w fun e w' => e = .returned (.agg (tcells T3).toArray) ∧ w' = w.alloc (.cells (tcells T3).toArray 77) := by
  refine calls_of_wp Try.func62 body_T3 ?_
  refine tbl_wp Try.f62 77 44 _ _ T3 (madeCells TRow.zero.cells 308) 56 w _ len_T3 Try.results62 Try.underlying77 (by kernel_rfl) (by kernel_rfl) (fun w => by kernel_rfl) (by kernel_rfl) _ ?_ rfl ⟨rfl, rfl⟩
  simp [Try.ntmps62]

def T4 : List TRow := [
  ⟨8238, 8238, 3, 10, 7, 17, 4⟩,
  ⟨8240, 8244, 0, 0, 0, 5, 0⟩,
  ⟨8255, 8256, 0, 8, 0, 13, 0⟩,
  ⟨8288, 8288, 3, 10, 8, 9, 4⟩,
  ⟨8294, 8294, 3, 10, 7, 19, 0⟩,
  ⟨8295, 8295, 3, 10, 7, 20, 0⟩,
  ⟨8296, 8296, 3, 10, 7, 21, 0⟩,
  ⟨8297, 8297, 3, 10, 7, 22, 0⟩,
  ⟨8352, 8399, 0, 0, 0, 5, 0⟩,
  ⟨8400, 8432, 4, 10, 7, 8, 4⟩,
  ⟨8592, 8959, 0, 0, 0, 13, 0⟩,
  ⟨9728, 10175, 14, 0, 18, 13, 0⟩,
  ⟨12288, 12288, 0, 2, 10, 12, 0⟩,
  ⟨12289, 12290, 0, 0, 13, 13, 0⟩,
  ⟨12293, 12295, 0, 0, 18, 0, 0⟩,
  ⟨12296, 12296, 0, 0, 12, 13, 0⟩,
  ⟨12297, 12297, 0, 0, 13, 13, 0⟩,
  ⟨12298, 12298, 0, 0, 12, 13, 0⟩,
  ⟨12299, 12299, 0, 0, 13, 13, 0⟩,
  ⟨12300, 12300, 0, 0, 12, 13, 0⟩,
  ⟨12301, 12301, 0, 0, 13, 13, 0⟩,
  ⟨12302, 12302, 0, 0, 12, 13, 0⟩,
  ⟨12303, 12303, 0, 0, 13, 13, 0⟩,
  ⟨12304, 12304, 0, 0, 12, 13, 0⟩,
  ⟨12305, 12305, 0, 0, 13, 13, 0⟩,
  ⟨12353, 12438, 0, 0, 18, 0, 0⟩,
  ⟨12441, 12442, 4, 10, 7, 8, 4⟩,
  ⟨12449, 12538, 0, 9, 18, 0, 0⟩,
  ⟨12540, 12540, 0, 9, 18, 0, 0⟩,
  ⟨13312, 40959, 0, 0, 18, 0, 0⟩,
  ⟨64285, 64335, 0, 3, 0, 1, 0⟩,
  ⟨64336, 65023, 0, 3, 0, 2, 0⟩,
  ⟨65024, 65039, 4, 10, 7, 8, 4⟩,
  ⟨65136, 65276, 0, 3, 0, 2, 0⟩,
  ⟨65279, 65279, 3, 10, 8, 9, 4⟩,
  ⟨127462, 127487, 6, 12, 19, 0, 0⟩,
  ⟨127744, 127994, 14, 0, 18, 13, 0⟩,
  ⟨127995, 127999, 4, 10, 7, 13, 4⟩,
  ⟨128000, 129791, 14, 0, 18, 13, 0⟩,
  ⟨131072, 262141, 0, 0, 18, 0, 0⟩,
  ⟨917760, 917999, 4, 10, 7, 8, 4⟩]

theorem len_T4 : T4.length = 41 := by kernel_rfl
theorem body_T4 : Try.f63.body = some (tblCode 81 "char.go:163" "char.go:164" T4) := by kernel_rfl
theorem any_T4 (w : World) : Calls Try.prog 63 #[] w fun e w' => e = .returned (.agg (tcells T4).toArray) ∧ w' = w.alloc (.cells (tcells T4).toArray 81) := by
  refine calls_of_wp Try.func63 body_T4 ?_
  refine tbl_wp Try.f63 81 41 _ _ T4 (madeCells TRow.zero.cells 287) 56 w _ len_T4 Try.results63 Try.underlying81 (by kernel_rfl) (by kernel_rfl) (fun w => by kernel_rfl) (by kernel_rfl) _ ?_ rfl ⟨rfl, rfl⟩
  simp [Try.ntmps63]

end Go.Proofs.Ytagokefbbdlpcaa
