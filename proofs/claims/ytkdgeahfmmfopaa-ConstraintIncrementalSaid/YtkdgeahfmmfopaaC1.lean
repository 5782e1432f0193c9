/- Same and the sanity check walked. -/
import Derived.Test.YtkdgeahfmmfopaaP3
import Derived.Test.YtkdgeahfmmfopaaB3
namespace Go.Proofs.Ytkdgeahfmmfopaa
set_option linter.unusedVariables false
set_option linter.unusedSimpArgs false
open Go.RowKit

theorem slr_reads {w w' : World} {size n : Nat} {v : Value} {xs : List Value} (h : SlR w size n v xs) (hb : Below w.heap.size w w') : ∃ A c, v = .slice A n c ∧ Reads w' w.heap.size size A n xs := by
  obtain ⟨A, c, rfl, _, _, _, hr⟩ := h
  exact ⟨A, c, rfl, hr.below hb⟩

set_option maxRecDepth 100000 in
set_option maxHeartbeats 4000000 in
theorem same_eq (va vb : Value) (vars : Int) (l : List Con) (held : List Bool) (vals : List Int) (w : World) (ha : SysR w va vars l held vals) (hb : SysR w vb vars l held vals)
    (hl1 : l.length ≤ 100000) (hl2 : held.length ≤ 100000) (hl3 : vals.length ≤ 100000) :
    Calls Try.prog 12 #[va, vb] w fun e w' => e = .returned (.bool true) ∧ Below w.heap.size w w' := by
  obtain ⟨v1, v2, v3, rfl, a1, a2, a3⟩ := ha
  obtain ⟨u1, u2, u3, rfl, b1, b2, b3⟩ := hb
  obtain ⟨A1, c1, rfl, _, _, _, r1⟩ := a1
  obtain ⟨A2, c2, rfl, _, _, _, r2⟩ := a2
  obtain ⟨A3, c3, rfl, _, _, _, r3⟩ := a3
  obtain ⟨B1, d1, rfl, _, _, _, s1⟩ := b1
  obtain ⟨B2, d2, rfl, _, _, _, s2⟩ := b2
  obtain ⟨B3, d3, rfl, _, _, _, s3⟩ := b3
  have R1 := Lib.hid r1
  have R2 := Lib.hid r2
  have R3 := Lib.hid r3
  have S1 := Lib.hid s1
  have S2 := Lib.hid s2
  have S3 := Lib.hid s3
  clear r1 r2 r3 s1 s2 s3
  go_enter Try.func12, Try.ntmps12
  go_wp2
  have HB := Lib.hid (((Below.refl w.heap.size w).alloc (Nat.le_refl _) (Obj.cells #[Value.int IntKind.i64 vars, Value.slice A1 l.length c1, Value.slice A2 held.length c2, Value.slice A3 vals.length c3] 26)).alloc (by simp) (Obj.cells #[Value.int IntKind.i64 vars, Value.slice B1 l.length d1, Value.slice B2 held.length d2, Value.slice B3 vals.length d3] 26))
  have HX := Lib.hid ((Blk.new w 26 #[Value.int IntKind.i64 vars, Value.slice A1 l.length c1, Value.slice A2 held.length c2, Value.slice A3 vals.length c3]).alloc (Obj.cells #[Value.int IntKind.i64 vars, Value.slice B1 l.length d1, Value.slice B2 held.length d2, Value.slice B3 vals.length d3] 26))
  have HY := Lib.hid (Blk.new (w.alloc (Obj.cells #[Value.int IntKind.i64 vars, Value.slice A1 l.length c1, Value.slice A2 held.length c2, Value.slice A3 vals.length c3] 26)) 26 #[Value.int IntKind.i64 vars, Value.slice B1 l.length d1, Value.slice B2 held.length d2, Value.slice B3 vals.length d3])
  rw [show (w.alloc (Obj.cells #[Value.int IntKind.i64 vars, Value.slice A1 l.length c1, Value.slice A2 held.length c2, Value.slice A3 vals.length c3] 26)).heap.size = w.heap.size + 1 by simp] at HY
  generalize (w.alloc (Obj.cells #[Value.int IntKind.i64 vars, Value.slice A1 l.length c1, Value.slice A2 held.length c2, Value.slice A3 vals.length c3] 26)).alloc (Obj.cells #[Value.int IntKind.i64 vars, Value.slice B1 l.length d1, Value.slice B2 held.length d2, Value.slice B3 vals.length d3] 26) = W at *
  have x1 : W.cell? ⟨w.heap.size, 1, none⟩ = some (.slice A1 l.length c1) := by rw [HX.out.cell]; rfl
  have x2 : W.cell? ⟨w.heap.size, 2, none⟩ = some (.slice A2 held.length c2) := by rw [HX.out.cell]; rfl
  have x3 : W.cell? ⟨w.heap.size, 3, none⟩ = some (.slice A3 vals.length c3) := by rw [HX.out.cell]; rfl
  have y1 : W.cell? ⟨w.heap.size + 1, 1, none⟩ = some (.slice B1 l.length d1) := by rw [HY.out.cell]; rfl
  have y2 : W.cell? ⟨w.heap.size + 1, 2, none⟩ = some (.slice B2 held.length d2) := by rw [HY.out.cell]; rfl
  have y3 : W.cell? ⟨w.heap.size + 1, 3, none⟩ = some (.slice B3 vals.length d3) := by rw [HY.out.cell]; rfl
  go_loopw [5] (fun i wr => ∃ k q : Nat, i = .int .i64 (k : Int) ∧ k ≤ l.length ∧ wr = W.drewN q) (fun i _ => l.length - (intOf i).toNat)
  case atStart => exact ⟨0, 0, rfl, by omega, rfl⟩
  case round =>
    obtain ⟨k, q, rfl, hk, rfl⟩ := hrel
    by_cases hkm : k < l.length
    · obtain ⟨ba, oa, rfl, hba, hca⟩ := (R1.out.below HB.out).plain (by omega) (by omega)
      obtain ⟨bb, ob, rfl, hbb, hcb⟩ := (S1.out.below HB.out).plain (by omega) (by omega)
      have hlk : l[k]? = some (l[k]'hkm) := List.getElem?_eq_getElem _
      generalize l[k]'hkm = cc at hlk
      have ha : ∀ j u, cc.cells[j]? = some u → j < 5 → W.cell? ⟨ba, oa + (k * 5 + j), none⟩ = some u := fun j u hu hj => hca _ _ (by rw [con_cells_at l k j cc hlk hj]; exact hu)
      have hb : ∀ j u, cc.cells[j]? = some u → j < 5 → W.cell? ⟨bb, ob + (k * 5 + j), none⟩ = some u := fun j u hu hj => hcb _ _ (by rw [con_cells_at l k j cc hlk hj]; exact hu)
      have d0 : W.cell? ⟨ba, oa + k * 5, none⟩ = some (.int .i64 cc.A) := ha 0 _ rfl (by omega)
      have d1' : W.cell? ⟨ba, oa + k * 5 + 1, none⟩ = some (.int .i64 cc.B) := ha 1 _ rfl (by omega)
      have d2' : W.cell? ⟨ba, oa + k * 5 + 2, none⟩ = some (.int .i64 cc.R) := ha 2 _ rfl (by omega)
      have d3' : W.cell? ⟨ba, oa + k * 5 + 3, none⟩ = some (.int .i64 cc.C) := ha 3 _ rfl (by omega)
      have d4' : W.cell? ⟨ba, oa + k * 5 + 4, none⟩ = some (.int .i64 cc.S) := ha 4 _ rfl (by omega)
      have e0 : W.cell? ⟨bb, ob + k * 5, none⟩ = some (.int .i64 cc.A) := hb 0 _ rfl (by omega)
      have e1 : W.cell? ⟨bb, ob + k * 5 + 1, none⟩ = some (.int .i64 cc.B) := hb 1 _ rfl (by omega)
      have e2 : W.cell? ⟨bb, ob + k * 5 + 2, none⟩ = some (.int .i64 cc.R) := hb 2 _ rfl (by omega)
      have e3 : W.cell? ⟨bb, ob + k * 5 + 3, none⟩ = some (.int .i64 cc.C) := hb 3 _ rfl (by omega)
      have e4 : W.cell? ⟨bb, ob + k * 5 + 4, none⟩ = some (.int .i64 cc.S) := hb 4 _ rfl (by omega)
      have hk0 : (k : Int) < (l.length : Int) := by omega
      clear ha hb hca hcb hlk
      go_wp2
      go_quiet (fail)
      go_wp2
      go_roundw
      case rel => exact ⟨k + 1, _, by go_num, by omega, rfl⟩
      case measure => simp [intOf]; omega
    · obtain rfl : k = l.length := by omega
      go_wp2
      go_loopw [6] (fun i wr => ∃ k q : Nat, i = .int .i64 (k : Int) ∧ k ≤ held.length ∧ wr = W.drewN q) (fun i _ => held.length - (intOf i).toNat)
      case atStart => exact ⟨0, _, rfl, by omega, rfl⟩
      case round =>
        obtain ⟨k, q2, rfl, hk2, rfl⟩ := hrel
        by_cases hkm2 : k < held.length
        · obtain ⟨ba, oa, rfl, hba, hca⟩ := (R2.out.below HB.out).plain (by omega) (by omega)
          obtain ⟨bb, ob, rfl, hbb, hcb⟩ := (S2.out.below HB.out).plain (by omega) (by omega)
          have d0 : W.cell? ⟨ba, oa + k, none⟩ = some (.bool (held[k]'hkm2)) := hca k _ (bools_get hkm2)
          have e0 : W.cell? ⟨bb, ob + k, none⟩ = some (.bool (held[k]'hkm2)) := hcb k _ (bools_get hkm2)
          generalize held[k]'hkm2 = bv at d0 e0
          have hk0 : (k : Int) < (held.length : Int) := by omega
          clear hca hcb
          go_wp2
          go_quiet (fail)
          go_wp2
          go_roundw
          case rel => exact ⟨k + 1, _, by go_num, by omega, rfl⟩
          case measure => simp [intOf]; omega
        · obtain rfl : k = held.length := by omega
          go_wp2
          go_loopw [7] (fun i wr => ∃ k q : Nat, i = .int .i64 (k : Int) ∧ k ≤ vals.length ∧ wr = W.drewN q) (fun i _ => vals.length - (intOf i).toNat)
          case atStart => exact ⟨0, _, rfl, by omega, rfl⟩
          case round =>
            obtain ⟨k, q3, rfl, hk3, rfl⟩ := hrel
            by_cases hkm3 : k < vals.length
            · obtain ⟨ba, oa, rfl, hba, hca⟩ := (R3.out.below HB.out).plain (by omega) (by omega)
              obtain ⟨bb, ob, rfl, hbb, hcb⟩ := (S3.out.below HB.out).plain (by omega) (by omega)
              have hget : (ints vals)[k]? = some (.int .i64 (vals[k]'hkm3)) := by simp [ints, List.getElem?_eq_getElem hkm3]
              have d0 : W.cell? ⟨ba, oa + k, none⟩ = some (.int .i64 (vals[k]'hkm3)) := hca k _ hget
              have e0 : W.cell? ⟨bb, ob + k, none⟩ = some (.int .i64 (vals[k]'hkm3)) := hcb k _ hget
              generalize vals[k]'hkm3 = bv at d0 e0
              have hk0 : (k : Int) < (vals.length : Int) := by omega
              clear hca hcb hget
              go_wp2
              go_quiet (fail)
              go_wp2
              go_roundw
              case rel => exact ⟨k + 1, _, by go_num, by omega, rfl⟩
              case measure => simp [intOf]; omega
            · obtain rfl : k = vals.length := by omega
              go_wp2
              go_ret
              exact ⟨rfl, below_drewN HB.out _⟩

def cA : Con := ⟨0, -1, 0, 5, 0⟩
def cB : Con := ⟨1, 0, 2, 10, 3⟩
theorem awake_solve : iSolve 2 [cA, cB] = .ok [true, true] [5, 15] := by kernel_rfl

set_option maxRecDepth 100000 in
theorem awake_any (w : World) : Calls Try.prog 13 #[] w fun e w' => e = .returned (.bool true) ∧ Below w.heap.size w w' := by
  go_enter Try.func13, Try.ntmps13
  go_wp2_with fail
  refine (solve_any 2 _ 2 2 (w.alloc (.cells (cA.cells ++ cB.cells).toArray 40)).heap.size [cA, cB] _ rfl (by exact reads_new w (cA.cells ++ cB.cells).toArray 40 5 2 rfl) (Nat.le_refl _) (fun h => by cases h)).mono ?_
  rw [awake_solve]
  rintro e w2 ⟨v, rfl, ⟨v1, v2, v3, rfl, h1, h2, h3⟩, hb⟩
  obtain ⟨A1, c1, rfl, _⟩ := h1
  obtain ⟨A2, c2, rfl, _, _, _, r2⟩ := h2
  obtain ⟨A3, c3, rfl, _, _, _, r3⟩ := h3
  obtain ⟨b2, o2, rfl, hb2, hc2⟩ := r2.plain (by simp) (by omega)
  obtain ⟨b3, o3, rfl, hb3, hc3⟩ := r3.plain (by simp) (by omega)
  have x0 : w2.cell? ⟨b3, o3, none⟩ = some (.int .i64 5) := hc3 0 _ rfl
  have x1 : w2.cell? ⟨b3, o3 + 1, none⟩ = some (.int .i64 15) := hc3 1 _ rfl
  have y1 : w2.cell? ⟨b2, o2 + 1, none⟩ = some (.bool true) := hc2 1 _ rfl
  have HB := Lib.hid hb
  clear hb hc2 hc3 r2 r3
  go_wp2
  go_ret
  exact ⟨rfl, (((Below.refl _ _).alloc (Nat.le_refl _) _).trans (HB.out.mono (by simp))).alloc (Nat.le_trans (by simp) HB.out.size) _⟩

/-- What the answer of a solver is as data: vars, l, held, values, error. -/
def dat (vars : Int) (l : List Con) : Sol → Int × List Con × List Bool × List Int × Int
  | .err k => (0, [], [], [], k)
  | .ok h x => (vars, l, h, x, 0)

theorem zero_sys (w : World) : SysR w zeroSys 0 [] [] [] :=
  ⟨_, _, _, rfl, ⟨none, 0, rfl, Nat.le_refl _, by unfold maxLen; omega, fun _ => ⟨rfl, rfl⟩, Reads.none_⟩, ⟨none, 0, rfl, Nat.le_refl _, by unfold maxLen; omega, fun _ => ⟨rfl, rfl⟩, Reads.none_⟩, ⟨none, 0, rfl, Nat.le_refl _, by unfold maxLen; omega, fun _ => ⟨rfl, rfl⟩, Reads.none_⟩⟩

theorem solved_dat {vars : Int} {l : List Con} {r : Sol} {w w' : World} {e : Ending} (h : SolvedAs vars l r w e w') :
    ∃ v, e = .returned (.tuple #[v, .int .i64 (dat vars l r).2.2.2.2]) ∧ SysR w' v (dat vars l r).1 (dat vars l r).2.1 (dat vars l r).2.2.1 (dat vars l r).2.2.2.1 ∧ Below w.heap.size w w' := by
  cases r with
  | err k => exact ⟨zeroSys, h.1, zero_sys w', h.2⟩
  | ok a b => obtain ⟨v, h1, h2, h3⟩ := h; exact ⟨v, h1, h2, h3⟩

theorem iSolve_ok {vars : Int} {l : List Con} {h : List Bool} {x : List Int} (e : iSolve vars l = .ok h x) : 0 ≤ vars ∧ vars ≤ 64 ∧ l.length ≤ 200 ∧ (∀ c ∈ l, validB vars c = true) ∧ h.length = l.length ∧ x.length = vars.toNat := by
  unfold iSolve at e
  split at e
  · cases e
  · split at e
    · cases e
    · split at e
      · cases e
      · rename_i h1 h2 h3
        obtain ⟨n, rfl⟩ := Int.eq_ofNat_of_zero_le (show 0 ≤ vars by omega)
        rw [Int.toNat_natCast] at e ⊢
        have hv : ∀ c ∈ l, validB (n : Int) c = true := fun c hc => by
          have : l.all (validB (n : Int)) = true := by simpa using h3
          exact List.all_eq_true.1 this c hc
        rcases sim_all (fun c hc => ConOk_of_valid (hv c hc)) with ⟨x', st, a1, a2, a3⟩ | ⟨a1, a2⟩
        · rw [a2] at e
          injection e with e1 e2
          subst e1 e2
          have := a3.j.ls.len
          exact ⟨by omega, by omega, by omega, hv, a3.j.dl, by simp [this]⟩
        · rw [a2] at e
          cases e

theorem dat_small (vars : Int) (l : List Con) : (dat vars l (iSolve vars l)).2.1.length ≤ 200 ∧ (dat vars l (iSolve vars l)).2.2.1.length ≤ 200 ∧ (dat vars l (iSolve vars l)).2.2.2.1.length ≤ 64 := by
  cases h : iSolve vars l with
  | err k => simp [dat]
  | ok a b =>
    obtain ⟨h0, h1, h2, h3, h4, h5⟩ := iSolve_ok h
    simp only [dat]
    omega

theorem SysR.below {w w' : World} {v : Value} {vars : Int} {l : List Con} {h : List Bool} {x : List Int} (k : SysR w v vars l h x) (hb : Below w.heap.size w w') : SysR w' v vars l h x := by
  obtain ⟨v1, v2, v3, rfl, h1, h2, h3⟩ := k
  exact ⟨v1, v2, v3, rfl, h1.below hb (Nat.le_refl _), h2.below hb (Nat.le_refl _), h3.below hb (Nat.le_refl _)⟩
end Go.Proofs.Ytkdgeahfmmfopaa
