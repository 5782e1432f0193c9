/- FontRaw holds: for every font, size and pair of runes that can be read, the law returns true and leaves its arguments as they were. No condition. -/
import Derived.Test.YtagokefbbdlpcaaRows
import Derived.Test.YtagokefbbdlpcaaL1
import Derived.Test.YtagokefbbdlpcaaL2
import Derived.WalkKit
import Derived.ProofKit
import Derived.OpenShut
import Derived.ShutString
import Derived.ChangeOld
import Derived.Below
namespace Go.Proofs.Ytagokefbbdlpcaa.fontRaw
open Go.ChangeShapes Go.WideShapes Go.ChangeAt Go.RowKit
set_option linter.unusedVariables false

theorem own : ownKnob Try.prog.godebug = none := by kernel_rfl
theorem laidOut : laidOutB Try.prog = true := by kernel_rfl

theorem low32 {n : Int} (h : (Lit.int .i32 n).wf = true) : -2147483648 ≤ n := by
  simp [Lit.wf] at h
  have e : IntKind.i32.min = -2147483648 := by kernel_rfl
  omega

set_option maxRecDepth 100000 in
set_option maxHeartbeats 1000000 in
theorem lifted (os : Os) (started : os.Started) (H : Type) (enc : TypeId × Value → H) :
    ReturnsInHanded {} Try.checked os 7 .any (Rows.fontRawSpec.pre6 enc Try.prog Try.f7 Rows.fontRawRow.domain false) (Rows.fontRawSpec.post enc Try.prog Try.f7 false true false false) := by
  refine returnsInHanded_of_change (C := Try.checked) own started (by kernel_rfl) Try.func7
    (ChangeSpec.witness6 (enc := enc) (C := Try.checked) false ⟨#[], #[.agg #[.int .i64 0, .int .i64 0, .int .i64 0, .int .i64 0, .int .i64 0, .slice none 0 0, .slice none 0 0, .slice none 0 0], .int .i64 0, .int .i32 0, .int .i32 0], []⟩ 8 (by kernel_rfl) (by kernel_rfl) (by kernel_rfl) (by kernel_rfl)) ?_
  intro W base args ds gs before hval0 hW hcnd _
  have hval : ∀ (j : Nat) t v, Try.f7.params[j]? = some t → args[j]? = some v → Value.okWide Try.prog W .any base t v := hval0
  have hW' := hW
  obtain ⟨p, q, hA0, hV, rfl, hfz, hnd⟩ := hW
  have hA : DataW.TrodAll enc Try.prog W 0 (fun _ => true) true Try.f7.params.toList args.toList ds p := hA0
  rw [Try.params7] at hA hval
  obtain ⟨v0, vs0, d0, ds0, p0, q0, hargs, rfl, rfl, h0, r0⟩ := trodAll_cons hA
  obtain ⟨v1, vs1, d1, ds1, p1, q1, rfl, rfl, rfl, h1, r1⟩ := trodAll_cons r0
  obtain ⟨v2, vs2, d2, ds2, p2, q2, rfl, rfl, rfl, h2, r2⟩ := trodAll_cons r1
  obtain ⟨v3, vs3, d3, ds3, p3, q3, rfl, rfl, rfl, h3, r3⟩ := trodAll_cons r2
  obtain ⟨rfl, rfl, rfl⟩ := trodAll_nil r3
  obtain rfl : args = #[v0, v1, v2, v3] := by cases args; simp_all
  obtain ⟨rfl, rfl⟩ := trodVars_none hV
  obtain ⟨s, rfl, rfl, rfl, w1⟩ := open_int Try.underlying3 (hval 1 3 v1 rfl rfl) h1
  obtain ⟨a, rfl, rfl, rfl, w2⟩ := open_int Try.underlying21 (hval 2 21 v2 rfl rfl) h2
  obtain ⟨b, rfl, rfl, rfl, w3⟩ := open_int Try.underlying21 (hval 3 21 v3 rfl rfl) h3
  have k0 := h0
  have lt0 : ∀ x ∈ p0, x.block < W.heap.size := by obtain ⟨m, hm⟩ := k0; exact DataW.trod_lt m _ _ _ hm
  obtain ⟨f, A1, c1, A2, c2, A3, c3, rfl, hf⟩ : ∃ (f : Fnt) (A1 : Option Addr) (c1 : Nat) (A2 : Option Addr) (c2 : Nat) (A3 : Option Addr) (c3 : Nat), v0 = f.val A1 c1 A2 c2 A3 c3 ∧ FM W f A1 c1 A2 c2 A3 c3 := by
    obtain ⟨u0, u1, u2, u3, u4, u5, u6, u7, y0, y1, y2, y3, y4, y5, y6, y7, n, rfl, t0, t1, t2, t3, t4, t5, t6, t7⟩ := open_agg8 Try.underlying38 (by kernel_rfl) (by kernel_rfl) (hval 0 38 v0 rfl rfl) h0
    obtain ⟨n0, e0, _, _⟩ := DataW.trod_int Try.underlying3 t0
    obtain ⟨n1, e1, _, _⟩ := DataW.trod_int Try.underlying3 t1
    obtain ⟨n2, e2, _, _⟩ := DataW.trod_int Try.underlying3 t2
    obtain ⟨n3, e3, _, _⟩ := DataW.trod_int Try.underlying3 t3
    obtain ⟨n4, e4, _, _⟩ := DataW.trod_int Try.underlying3 t4
    simp at e0 e1 e2 e3 e4
    subst e0 e1 e2 e3 e4
    obtain ⟨A1, c1, l1, rfl, m1, s1⟩ := open_adv t5
    obtain ⟨A2, c2, l2, rfl, m2, s2⟩ := open_ker t6
    obtain ⟨A3, c3, l3, rfl, m3, s3⟩ := open_lig t7
    exact ⟨⟨n0, n1, n2, n3, n4, l1, l2, l3⟩, A1, c1, A2, c2, A3, c3, rfl, s1, s2, s3, m1, m2, m3⟩
  clear hA0 hval0
  refine (fraw_any f s a b A1 c1 A2 c2 A3 c3 W hf (low32 w2)).mono fun e W' ⟨he, bel⟩ => ?_
  subst he
  exact ⟨_, rfl, _, _, _, [], _, [], hW', trodAll_mk1 (shut_bool Try.underlying4 _), (trodAll_cons_mk (Below.trod laidOut (by kernel_rfl) (of_decide_eq_true (by kernel_rfl)) k0 bel lt0) (trodAll_cons_mk (shut_int Try.underlying3 w1) (trodAll_cons_mk (shut_int Try.underlying21 w2) (trodAll_cons_mk (shut_int Try.underlying21 w3) trodAll_mk0)))), rfl, bel.frame _, fun h => by cases h⟩

theorem over : Rows.fontRawRow.holds Try.pinned (OpenSpec.ofChange Rows.fontRawSpec) :=
  OpenClaim.holds_of_wide 7 Try.f7 rfl rfl rfl rfl rfl rfl rfl ⟨rfl, rfl, rfl, rfl, rfl⟩ rfl rfl rfl rfl rfl (by kernel_rfl) Try.func7 (by kernel_rfl)
    (of_decide_eq_true (by kernel_rfl)) (by unfold Func.isWrapper; first | (rw [if_pos (by decide +kernel)]; kernel_rfl) | (rw [if_neg (by decide +kernel)]; exact ⟨rfl, rfl⟩))
    (fun os started H enc _ => lifted os started H enc)

theorem proved : Rows.FontRawSaid := over
#print axioms proved
end Go.Proofs.Ytagokefbbdlpcaa.fontRaw
