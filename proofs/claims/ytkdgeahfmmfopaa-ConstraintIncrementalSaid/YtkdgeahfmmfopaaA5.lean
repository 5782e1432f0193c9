/- Grow and Concat walked. -/
import Derived.Test.YtkdgeahfmmfopaaA4
import Derived.Lib.AppendZerosOnto
namespace Go.Proofs.Ytkdgeahfmmfopaa
set_option linter.unusedVariables false
set_option linter.unusedSimpArgs false
open Go.RowKit

def GrownNil (w : World) (e : Ending) (w' : World) : Prop :=
  ∃ v : Value, e = .returned v ∧ w'.ownsRow w.heap.size 52 3 v 0 [] ∧ Below w.heap.size w w'

theorem own_room (w : World) (cs : Array Value) (e size cap : Nat) (hc : cs.size = cap * size) (hm : cap ≤ maxLen) : (w.alloc (.cells cs e)).ownsRow w.heap.size e size (.slice (some ⟨w.heap.size, 0, none⟩) 0 cap) 0 [] :=
  ⟨by simp, .inr ⟨w.heap.size, cap, cs, rfl, Nat.le_refl _, heap_alloc_new w _, by omega, hm, hc, by simp⟩⟩

theorem grow_nil (n : Nat) (w : World) (hn : n ≤ 100000) : Calls Try.prog 33 #[.slice none 0 0, .int .i64 n] w (GrownNil w) := by
  by_cases h0 : n = 0
  · subst h0
    go_enter Try.func33, Try.ntmps33
    go_wp2
    go_ret
    exact ⟨_, rfl, World.ownsRow_nil _ _ _ _, Below.refl _ _⟩
  · obtain ⟨i0, hi0, hz0, hz1, hz2⟩ := info_parts bd_info
    have h1 : ¬ ((n : Int) < 0) := by omega
    have h4 : (0 : Int) < (n : Int) := by omega
    have hold : (Builtin.firstCells i0.size 0 (.slice none 0 0)).run Try.prog w.drew = .ok #[] w.drew := run_firstCells_none w.drew i0.size 0 0 0
    have hcap := grownCap_ge w (0 + n) 0 52
    have hcap2 := grownCap_le_maxLen w (0 + n) 0 52 (by unfold maxLen; omega)
    have hrz : ∀ ty, (Builtin.append_ #[49, 3] ty #[.slice none 0 0, .int .i64 (n : Int)]).run Try.prog w = _ := fun ty =>
      Lib.run_append_grow_zeros w 49 3 ty 52 i0 _ .i64 .i64 Try.underlying49 Try.underlying3 hi0 hz0 none 0 0 [] hold n (by omega) (by omega) (by omega) (by omega) (by rw [hz2]; omega) (growslice_fits (by omega) (by rw [hz2]; omega))
    generalize hG : grownCap w (0 + n) 0 52 = G at hrz hcap hcap2
    clear hold
    have HZ := Lib.hid hrz
    have HG := Lib.hid hG
    clear hrz hG
    go_enter Try.func33, Try.ntmps33
    go_wp2_with (at_builtin; refine Lib.wpList_append_run _ rfl _ _ _ _ rfl _ _ rfl rfl _ _ (HZ.out _) ?_)
    go_ret
    refine ⟨_, rfl, ?_, ((Below.refl _ _).alloc (Nat.le_refl _) _).drew⟩
    exact own_room w.drew _ 52 3 G (by simp [size_zeroCells]; omega) hcap2

/-- Two slices in a row in block g. -/
def Pair (w : World) (g : Nat) (v1 v2 : Value) : Prop := w.cell? ⟨g, 0, none⟩ = some v1 ∧ w.cell? ⟨g, 1, none⟩ = some v2

theorem concat_any (g n1 n2 c1 c2 B1 B2 : Nat) (A1 A2 : Option Addr) (xs ys : List Value) (w : World) (hg : g < w.heap.size) (hp : Pair w g (.slice A1 n1 c1) (.slice A2 n2 c2))
    (h1 : Reads w B1 3 A1 n1 xs) (h2 : Reads w B2 3 A2 n2 ys) (hB1 : B1 ≤ w.heap.size) (hB2 : B2 ≤ w.heap.size) (hx : Flat xs) (hy : Flat ys) (hn1 : n1 ≤ 10000) (hn2 : n2 ≤ 10000) :
    Calls Try.prog 25 #[.slice (some ⟨g, 0, none⟩) 2 2] w (OwnOf 52 3 (n1 + n2) (xs ++ ys) w) := by
  obtain ⟨p0, p1⟩ := hp
  obtain ⟨i0, hi0, hz0, hz1, hz2⟩ := info_parts bd_info
  have H1 := Lib.hid h1
  have H2 := Lib.hid h2
  have HX := Lib.hid hx
  have HY := Lib.hid hy
  clear h1 h2 hx hy
  go_enter Try.func25, Try.ntmps25
  go_wp2
  go_loop [3, 11] (fun sz i => (i = .int .i64 0 ∧ sz = .int .i64 0) ∨ (i = .int .i64 1 ∧ sz = .int .i64 (n1 : Int)) ∨ (i = .int .i64 2 ∧ sz = .int .i64 ((n1 + n2 : Nat) : Int))) (fun _ i => 2 - (intOf i).toNat)
  case atStart => exact .inl ⟨rfl, rfl⟩
  case round =>
    rcases hrel with ⟨rfl, rfl⟩ | ⟨rfl, rfl⟩ | ⟨rfl, rfl⟩
    · go_wp2
      go_round
      case rel => exact .inr (.inl ⟨rfl, rfl⟩)
      case measure => simp [intOf]
    · go_wp2
      go_round
      case rel => exact .inr (.inr ⟨rfl, by go_num⟩)
      case measure => simp [intOf]
    · go_wp2_with (go_at_call 33; refine (grow_nil (n1 + n2) _ (by omega)).mono ?_; rintro e w1 ⟨v, rfl, hown, hbel⟩)
      have P0 := Lib.hid p0
      have P1 := Lib.hid p1
      clear p0 p1
      go_loopw [6, 27] (fun u i wr => Below w.heap.size w wr ∧ ((i = .int .i64 0 ∧ wr.ownsRow w.heap.size 52 3 u 0 []) ∨ (i = .int .i64 1 ∧ wr.ownsRow w.heap.size 52 3 u n1 xs) ∨ (i = .int .i64 2 ∧ wr.ownsRow w.heap.size 52 3 u (n1 + n2) (xs ++ ys)))) (fun _ i _ => 2 - (intOf i).toNat)
      case atStart => exact ⟨hbel, .inl ⟨rfl, hown⟩⟩
      case round =>
        obtain ⟨hb, hrel⟩ := hrel
        rcases hrel with ⟨rfl, ho⟩ | ⟨rfl, ho⟩ | ⟨rfl, ho⟩
        · have q0 : wr.cell? ⟨g, 0, none⟩ = some (.slice A1 n1 c1) := (hb.cell (p := ⟨g, 0, none⟩) hg).trans P0.out
          have R1 := Lib.hid ((H1.out.more hB1).below hb)
          go_wp2_with (
            at_builtin
            refine wpList_append_any _ rfl (.tmp 31) (.tmp 32) _ rfl w.heap.size 52 i0 _ 3 24 Try.underlying49 hi0 hz0 hz1 hz2 rfl (by omega) _ 0 [] rfl
              ho w.heap.size A1 n1 c1 xs rfl R1.out HX.out (by simp only [maxLen]; omega) (by omega) hb.size ?_
            intro v2 w2 hown2 hg2 hat2)
          go_roundw
          case rel =>
            refine ⟨hb.grown hg2 hb.size fun k hk => (ho.lt k hk).1, .inr (.inl ⟨rfl, ?_⟩)⟩
            simpa using hown2
          case measure => simp [intOf]
        · have q1 : wr.cell? ⟨g, 1, none⟩ = some (.slice A2 n2 c2) := (hb.cell (p := ⟨g, 1, none⟩) hg).trans P1.out
          have R2 := Lib.hid ((H2.out.more hB2).below hb)
          go_wp2_with (
            at_builtin
            refine wpList_append_any _ rfl (.tmp 31) (.tmp 32) _ rfl w.heap.size 52 i0 _ 3 24 Try.underlying49 hi0 hz0 hz1 hz2 rfl (by omega) _ n1 xs rfl
              ho w.heap.size A2 n2 c2 ys rfl R2.out HY.out (by simp only [maxLen]; omega) (by omega) hb.size ?_
            intro v2 w2 hown2 hg2 hat2)
          go_roundw
          case rel => exact ⟨hb.grown hg2 hb.size fun k hk => (ho.lt k hk).1, .inr (.inr ⟨rfl, hown2⟩)⟩
          case measure => simp [intOf]
        · go_wp2
          go_ret
          exact ⟨_, rfl, ho, hb⟩
end Go.Proofs.Ytkdgeahfmmfopaa
