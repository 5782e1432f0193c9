/- The source of numbers: New, N, Range; words on memory that the call owns. -/
import Derived.Test.YtagokefbbdlpcaaF9
import Derived.OpenShut
namespace Go.Proofs.Ytagokefbbdlpcaa
set_option linter.unusedVariables false
set_option linter.unusedSimpArgs false
open Go.RowKit

theorem own_below {w w' : World} {B base e size n : Nat} {v : Value} {xs : List Value} (h : w.ownsRow base e size v n xs) (hb : Below B w w') (hB : w.heap.size ≤ B) : w'.ownsRow base e size v n xs := by
  refine ⟨h.1, ?_⟩
  rcases h.2 with h2 | ⟨g, cap, cur, hv, hg, hh, r⟩
  · exact .inl h2
  · refine .inr ⟨g, cap, cur, hv, hg, ?_, r⟩
    rw [hb.block g (by have := (Array.getElem?_eq_some_iff.1 hh).1; omega)]
    exact hh

theorem addr_add0 (b j : Nat) : (⟨b, 0, none⟩ : Addr).add j = ⟨b, j, none⟩ := by
  unfold Addr.add; split <;> simp_all

theorem reads_new (W : World) (cs : Array Value) (t size n : Nat) (hs : cs.size = n * size) : Reads (W.alloc (.cells cs t)) (W.alloc (.cells cs t)).heap.size size (some ⟨W.heap.size, 0, none⟩) n cs.toList := by
  refine ⟨by simpa using hs, fun _ => ⟨_, rfl, by simp, fun j u hu => ?_⟩⟩
  rw [addr_add0, (Blk.new W t cs).cell]
  simpa using hu

theorem reads_blk {w : World} {g t size n : Nat} {cs : Array Value} (h : Blk w g t cs) (hs : n * size ≤ cs.size) : Reads w w.heap.size size (some ⟨g, 0, none⟩) n (cs.toList.take (n * size)) := by
  refine ⟨by simp; omega, fun _ => ⟨_, rfl, h.lt, fun j u hu => ?_⟩⟩
  rw [addr_add0, h.cell]
  rw [List.getElem?_take] at hu
  split at hu
  · simpa using hu
  · cases hu

/-- A slice value that reads as these cells. -/
def SlR (w : World) (size n : Nat) (v : Value) (xs : List Value) : Prop :=
  ∃ (A : Option Addr) (c : Nat), v = .slice A n c ∧ n ≤ c ∧ c ≤ maxLen ∧ (A = none → n = 0 ∧ c = 0) ∧ Reads w w.heap.size size A n xs

theorem own_slr {w : World} {base e size n : Nat} {v : Value} {xs : List Value} (h : w.ownsRow base e size v n xs) : SlR w size n v xs := by
  rcases h.2 with ⟨rfl, rfl⟩ | ⟨g, cap, cur, rfl, hb, hg, hn, hm, hc, ht⟩
  · have : xs = [] := List.eq_nil_of_length_eq_zero (by simpa using h.1)
    subst this
    exact ⟨none, 0, rfl, Nat.le_refl _, by unfold maxLen; omega, fun _ => ⟨rfl, rfl⟩, Reads.none_⟩
  · refine ⟨_, cap, rfl, hn, hm, (fun h => by cases h), ?_⟩
    have := reads_blk (w := w) (g := g) (t := e) (size := size) (n := n) (cs := cur) hg (by rw [hc]; exact Nat.mul_le_mul_right _ hn)
    rwa [ht] at this

theorem SlR.below {w w' : World} {B size n : Nat} {v : Value} {xs : List Value} (h : SlR w size n v xs) (hb : Below B w w') (hB : w.heap.size ≤ B) : SlR w' size n v xs := by
  obtain ⟨A, c, rfl, h1, h2, h3, h4⟩ := h
  exact ⟨A, c, rfl, h1, h2, h3, (h4.below (hb.mono hB)).more hb.size⟩

theorem own_own_ne {w : World} {base base' e e' size size' n n' : Nat} {v v' : Value} {xs xs' : List Value} (h : w.ownsRow base e size v n xs) (h' : w.ownsRow base' e' size' v' n' xs') (hne : e ≠ e') : ∀ g, v'.ownBlock = some g → v.ownBlock ≠ some g := by
  intro g hg
  rcases h'.2 with ⟨rfl, _⟩ | ⟨g', cap, cur, rfl, _, hh, _⟩
  · simp [Value.ownBlock] at hg
  · have : g' = g := by simpa [Value.ownBlock] using hg
    subst this
    exact own_blk_ne h hh hne

theorem own_far {w : World} {base e size n g i : Nat} {v : Value} {xs : List Value} (h : w.ownsRow base e size v n xs) (hne : v.ownBlock ≠ some g) (u : Value) : (w.setCell ⟨g, i, none⟩ u).ownsRow base e size v n xs := by
  refine ⟨h.1, ?_⟩
  rcases h.2 with h2 | ⟨g', cap, cur, hv, hg, hh, r⟩
  · exact .inl h2
  · refine .inr ⟨g', cap, cur, hv, hg, ?_, r⟩
    rw [Below.heap_setCell _ _ _ _ (by rintro rfl; exact hne (by rw [hv]; rfl))]
    exact hh

theorem own_base {w : World} {base base' e size n : Nat} {v : Value} {xs : List Value} (h : w.ownsRow base e size v n xs) (hb : base' ≤ base) : w.ownsRow base' e size v n xs := by
  refine ⟨h.1, ?_⟩
  rcases h.2 with h2 | ⟨g, cap, cur, hv, hg, r⟩
  · exact .inl h2
  · exact .inr ⟨g, cap, cur, hv, by omega, r⟩
theorem own_lt {w : World} {base e size n g : Nat} {v : Value} {xs : List Value} (h : w.ownsRow base e size v n xs) (hg : g < base) : v.ownBlock ≠ some g := by
  intro hv
  have := (h.lt g hv).1
  omega

theorem own_form {w : World} {base e size n : Nat} {v : Value} {xs : List Value} (h : w.ownsRow base e size v n xs) (hn : 0 < n) :
    ∃ g cap, v = .slice (some ⟨g, 0, none⟩) n cap ∧ base ≤ g ∧ g < w.heap.size ∧ n ≤ cap := by
  rcases h.2 with ⟨_, h0⟩ | ⟨g, cap, cur, rfl, hb, hg, hn, _⟩
  · omega
  · exact ⟨g, cap, rfl, hb, (Array.getElem?_eq_some_iff.1 hg).1, hn⟩

def ints (zs : List Int) : List Value := zs.map (Value.int .i64)
theorem ints_length (zs : List Int) : (ints zs).length = zs.length := by simp [ints]
theorem ints_get (zs : List Int) (k : Nat) (u : Value) (h : (ints zs)[k]? = some u) : u = .int .i64 (zs.getD k 0) := by
  simp only [ints, List.getElem?_map, Option.map_eq_some_iff] at h
  obtain ⟨a, ha, rfl⟩ := h
  simp [List.getD, ha]

/-- The source behind the pointer to block g: a list of numbers, some of them read. -/
def SrcIs (w : World) (g B : Nat) : Prop :=
  B ≤ g ∧ ∃ (A : Option Addr) (n c : Nat) (zs : List Int) (at_ : Nat), Blk w g 68 #[.slice A n c, .int .i64 (at_ : Int)] ∧ Reads w B 1 A n (ints zs) ∧ at_ ≤ n ∧ n ≤ 4000 ∧ (∀ z ∈ zs, (Lit.int .i64 z).wf = true)

def NumIn (n : Int) (w : World) (g B : Nat) (e : Ending) (w' : World) : Prop :=
  ∃ r : Int, e = .returned (.int .i64 r) ∧ 0 ≤ r ∧ (1 ≤ n → r < n) ∧ (n < 1 → r = 0) ∧ SrcIs w' g B ∧ w.grownBy w' (some g)

theorem srcIs_next {w : World} {g B at_ n c : Nat} {A : Option Addr} {zs : List Int} {k : Nat} (hBg : B ≤ g) (hblk : Blk w g 68 #[.slice A n c, .int .i64 (at_ : Int)]) (hr : Reads w B 1 A n (ints zs)) (hat : at_ < n) (hn : n ≤ 4000) (hz : ∀ z ∈ zs, (Lit.int .i64 z).wf = true) :
    SrcIs ((w.drewN k).setCell ⟨g, 1, none⟩ (.int .i64 ((at_ : Int) + 1))) g B ∧ w.grownBy ((w.drewN k).setCell ⟨g, 1, none⟩ (.int .i64 ((at_ : Int) + 1))) (some g) := by
  refine ⟨⟨hBg, A, n, c, zs, at_ + 1, ?_, ((hr.drewN k).setCell (p := ⟨g, 1, none⟩) hBg _), hat, hn, hz⟩, only_setCell (only_drewN (World.grownBy.refl _ _) _) (.inl rfl) _⟩
  have := (hblk.drewN k).set_ 1 (.int .i64 ((at_ : Int) + 1))
  simpa using this

theorem n_any (g B : Nat) (n : Int) (w : World) (h : SrcIs w g B) (hn0 : -9223372036854775808 ≤ n) (hn1 : n ≤ 9223372036854775807) :
    Calls Try.prog 34 #[.pointer (some ⟨g, 0, none⟩), .int .i64 n] w (NumIn n w g B) := by
  obtain ⟨hBg, A, m, c, zs, at_, hblk, hr, hat, hm, hz⟩ := h
  have hc0 : w.cell? ⟨g, 0, none⟩ = some (.slice A m c) := by rw [hblk.cell]; rfl
  have hc1 : w.cell? ⟨g, 1, none⟩ = some (.int .i64 (at_ : Int)) := by rw [hblk.cell]; rfl
  have hf1 := hblk.frozen 1
  by_cases h1 : m ≤ at_
  · have hd : decide ((m : Int) ≤ (at_ : Int)) = true := by simp; omega
    go_enter Try.func34, Try.ntmps34
    go_wp2
    go_quiet (fail)
    go_wp2
    go_ret
    exact ⟨0, rfl, by omega, by omega, by omega, ⟨hBg, A, m, c, zs, at_, hblk, hr, hat, hm, hz⟩, only_drewN (World.grownBy.refl _ _) _⟩
  · have hd : decide ((m : Int) ≤ (at_ : Int)) = false := by simp; omega
    by_cases h2 : n < 1
    · go_enter Try.func34, Try.ntmps34
      go_wp2
      go_quiet (fail)
      go_wp2
      go_ret
      exact ⟨0, rfl, by omega, by omega, by omega, ⟨hBg, A, m, c, zs, at_, hblk, hr, hat, hm, hz⟩, only_drewN (World.grownBy.refl _ _) _⟩
    · obtain ⟨b, off, rfl, hb, hc⟩ := hr.plain (by omega) (by omega)
      have hl : at_ < zs.length := by have := hr.1; simp [ints] at this; omega
      have hcx : w.cell? ⟨b, off + at_, none⟩ = some (.int .i64 (zs.getD at_ 0)) := hc at_ _ (by simp [ints, List.getD, List.getElem?_eq_getElem hl])
      have hwf := hz _ (List.getElem_mem hl)
      have hzv : zs.getD at_ 0 = zs[at_] := by simp [List.getD, List.getElem?_eq_getElem hl]
      rw [hzv] at hcx
      generalize zs[at_] = x at hcx hwf
      obtain ⟨hx1, hx2⟩ := bounds_i64 hwf
      have t1 : -n < x.tmod n := by have := Int.lt_tmod_of_pos x (show 0 < n by omega); omega
      have t2 : x.tmod n < n := Int.tmod_lt_of_pos x (by omega)
      have hi : (at_ : Int) < (m : Int) := by omega
      by_cases h3 : x.tmod n < 0
      · go_enter Try.func34, Try.ntmps34
        go_wp2
        go_quiet (fail)
        go_wp2
        go_quiet (fail)
        go_wp2
        go_ret
        have S := fun k => srcIs_next (k := k) hBg hblk hr (by omega) hm hz
        exact ⟨_, rfl, by omega, by omega, by omega, (S _).1, (S _).2⟩
      · go_enter Try.func34, Try.ntmps34
        go_wp2
        go_quiet (fail)
        go_wp2
        go_quiet (fail)
        go_wp2
        go_ret
        have S := fun k => srcIs_next (k := k) hBg hblk hr (by omega) hm hz
        exact ⟨_, rfl, by omega, by omega, by omega, (S _).1, (S _).2⟩

def RangeIn (lo hi : Int) (w : World) (g B : Nat) (e : Ending) (w' : World) : Prop :=
  ∃ r : Int, e = .returned (.int .i64 r) ∧ lo ≤ r ∧ r ≤ hi ∧ SrcIs w' g B ∧ w.grownBy w' (some g)

theorem range_any (g B : Nat) (lo hi : Int) (w : World) (h : SrcIs w g B) (h0 : -1000000000 ≤ lo) (h1 : lo ≤ hi) (h2 : hi ≤ 1000000000) :
    Calls Try.prog 42 #[.pointer (some ⟨g, 0, none⟩), .int .i64 lo, .int .i64 hi] w (RangeIn lo hi w g B) := by
  go_enter Try.func42, Try.ntmps42
  go_wp2_with fail
  refine (n_any g B _ _ h (by omega) (by omega)).mono ?_
  rintro e w' ⟨r, rfl, r0, r1, r2, hs, hg⟩
  have r3 : r < hi - lo + 1 := r1 (by omega)
  clear r1 r2
  go_wp2
  go_ret
  exact ⟨_, rfl, by omega, by omega, hs, hg⟩

def NewIn (B : Nat) (w : World) (e : Ending) (w' : World) : Prop :=
  ∃ g : Nat, e = .returned (.pointer (some ⟨g, 0, none⟩)) ∧ w.heap.size ≤ g ∧ SrcIs w' g B ∧ Below w.heap.size w w'

theorem Reads.take {w : World} {B size n : Nat} {A : Option Addr} {xs : List Value} (h : Reads w B size A n xs) (k : Nat) (hk : k ≤ n) : Reads w B size A k (xs.take (k * size)) := by
  refine ⟨?_, fun hp => ?_⟩
  · rw [List.length_take, h.1]; exact Nat.min_eq_left (Nat.mul_le_mul_right _ hk)
  · obtain ⟨ad, rfl, hb, hc⟩ := h.2 (by omega)
    refine ⟨ad, rfl, hb, fun j u hu => hc j u ?_⟩
    rw [List.getElem?_take] at hu
    split at hu
    · exact hu
    · cases hu

theorem src_new {w : World} {B n c : Nat} {A : Option Addr} {zs : List Int} (hB : B ≤ w.heap.size) (hr : Reads w B 1 A n (ints zs)) (hn : n ≤ 4000) (hz : ∀ z ∈ zs, (Lit.int .i64 z).wf = true) :
    SrcIs (w.alloc (Obj.cells #[Value.slice A n c, Value.int IntKind.i64 0] 68)) w.heap.size B :=
  ⟨hB, A, n, c, zs, 0, Blk.new _ _ _, hr.alloc hB _, by omega, hn, hz⟩

theorem new_any (B : Nat) (A : Option Addr) (n c : Nat) (zs : List Int) (w : World) (hB : B ≤ w.heap.size) (hnc : n ≤ c) (hc : c ≤ maxLen) (hr : Reads w B 1 A n (ints zs)) (hz : ∀ z ∈ zs, (Lit.int .i64 z).wf = true) :
    Calls Try.prog 24 #[.slice A n c] w (NewIn B w) := by
  unfold maxLen at hc
  by_cases h : 4000 < n
  · have hlt : (4000 : Int) < (n : Int) := by omega
    have hle : (4000 : Int) ≤ (c : Int) := by omega
    obtain ⟨b, off, rfl, hb, _⟩ := hr.plain (by omega) (by omega)
    go_enter Try.func24, Try.ntmps24
    go_wp2
    go_ret
    refine ⟨w.heap.size, rfl, Nat.le_refl _, ?_, (Below.refl _ _).alloc (Nat.le_refl _) _⟩
    have hr' := hr.take 4000 (by omega)
    have e : (ints zs).take (4000 * 1) = ints (zs.take 4000) := by simp [ints, List.map_take]
    rw [e] at hr'
    exact src_new hB hr' (Nat.le_refl _) (fun z hz' => hz z (List.mem_of_mem_take hz'))
  · have hlt : (n : Int) ≤ (4000 : Int) := by omega
    go_enter Try.func24, Try.ntmps24
    go_wp2
    go_ret
    exact ⟨w.heap.size, rfl, Nat.le_refl _, src_new hB hr (by omega) hz, (Below.refl _ _).alloc (Nat.le_refl _) _⟩

theorem SrcIs.belowH {w w' : World} {g B H : Nat} (h : SrcIs w g B) (hb : Below H w w') (hg : g < H) : SrcIs w' g B := by
  obtain ⟨hBg, A, n, c, zs, at_, h1, h2, h3, h4, h5⟩ := h
  exact ⟨hBg, A, n, c, zs, at_, h1.below hb hg, h2.below (hb.mono (by omega)), h3, h4, h5⟩
theorem SrcIs.lt {w : World} {g B : Nat} (h : SrcIs w g B) : g < w.heap.size := by
  obtain ⟨_, _, _, _, _, _, h1, _⟩ := h
  exact h1.lt

theorem gb_trans {a b c : World} {g : Nat} (h : a.grownBy b (some g)) (k : b.grownBy c (some g)) : a.grownBy c (some g) :=
  ⟨k.os.trans h.os, k.tape.trans h.tape, k.output.trans h.output, Nat.le_trans h.size k.size, fun i hi hne => (k.block i (Nat.lt_of_lt_of_le hi h.size) hne).trans (h.block i hi hne)⟩
theorem gb_below {a b c : World} {g : Nat} (h : a.grownBy b (some g)) (k : Below a.heap.size b c) : a.grownBy c (some g) :=
  ⟨k.os.trans h.os, k.tape.trans h.tape, k.output.trans h.output, Nat.le_trans h.size k.size, fun i hi hne => (k.block i hi).trans (h.block i hi hne)⟩
theorem own_gb {w w' : World} {base e size n g : Nat} {v : Value} {xs : List Value} (h : w.ownsRow base e size v n xs) (hg : w.grownBy w' (some g)) (hlt : g < base) : w'.ownsRow base e size v n xs :=
  h.kept hg (.inr (own_lt h hlt))
theorem blk_gb {w w' : World} {b t g : Nat} {cs : Array Value} (h : Blk w b t cs) (hg : w.grownBy w' (some g)) (hne : b ≠ g) : Blk w' b t cs := h.grown hg (by simpa using hne)

end Go.Proofs.Ytagokefbbdlpcaa
