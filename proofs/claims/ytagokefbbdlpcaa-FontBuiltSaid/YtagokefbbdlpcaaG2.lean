/- Raw, Chance, alphabet, Rune of the source of numbers walked. -/
import Derived.Test.YtagokefbbdlpcaaG1
namespace Go.Proofs.Ytagokefbbdlpcaa
set_option linter.unusedVariables false
set_option linter.unusedSimpArgs false
open Go.RowKit

def RawIn (g B : Nat) (w : World) (e : Ending) (w' : World) : Prop :=
  ∃ r : Int, e = .returned (.int .i64 r) ∧ -9223372036854775808 ≤ r ∧ r ≤ 9223372036854775807 ∧ SrcIs w' g B ∧ w.grownBy w' (some g)

theorem raw_any (g B : Nat) (w : World) (h : SrcIs w g B) : Calls Try.prog 35 #[.pointer (some ⟨g, 0, none⟩)] w (RawIn g B w) := by
  obtain ⟨hBg, A, m, c, zs, at_, hblk, hr, hat, hm, hz⟩ := h
  have hc0 : w.cell? ⟨g, 0, none⟩ = some (.slice A m c) := by rw [hblk.cell]; rfl
  have hc1 : w.cell? ⟨g, 1, none⟩ = some (.int .i64 (at_ : Int)) := by rw [hblk.cell]; rfl
  have hf1 := hblk.frozen 1
  by_cases h1 : m ≤ at_
  · have hd : decide ((m : Int) ≤ (at_ : Int)) = true := by simp; omega
    go_enter Try.func35, Try.ntmps35
    go_wp2
    go_quiet (fail)
    go_wp2
    go_ret
    exact ⟨0, rfl, by omega, by omega, ⟨hBg, A, m, c, zs, at_, hblk, hr, hat, hm, hz⟩, only_drewN (World.grownBy.refl _ _) _⟩
  · have hd : decide ((m : Int) ≤ (at_ : Int)) = false := by simp; omega
    obtain ⟨b, off, rfl, hb, hc⟩ := hr.plain (by omega) (by omega)
    have hl : at_ < zs.length := by have := hr.1; simp [ints] at this; omega
    have hcx : w.cell? ⟨b, off + at_, none⟩ = some (.int .i64 (zs.getD at_ 0)) := hc at_ _ (by simp [ints, List.getD, List.getElem?_eq_getElem hl])
    have hwf := hz _ (List.getElem_mem hl)
    have hzv : zs.getD at_ 0 = zs[at_] := by simp [List.getD, List.getElem?_eq_getElem hl]
    rw [hzv] at hcx
    generalize zs[at_] = x at hcx hwf
    obtain ⟨hx1, hx2⟩ := bounds_i64 hwf
    have hi : (at_ : Int) < (m : Int) := by omega
    have S := Lib.hid (fun k => srcIs_next (k := k) hBg hblk hr (by omega) hm hz)
    have hbg : b ≠ g := by omega
    clear hc hr hz hblk hwf hzv hl
    go_enter Try.func35, Try.ntmps35
    go_wp2
    go_quiet (fail)
    go_wp2
    have hw1 : IntKind.i64.wrap (at_ : Int) = (at_ : Int) := IntWalk.i64_in _ (by omega)
    have hi0 : (0 : Int) ≤ (at_ : Int) := by omega
    go_quiet (fail)
    go_wp2
    go_ret
    exact ⟨x, rfl, hx1, hx2, (S.out _).1, only_drewN (S.out _).2 _⟩

def ChIn (g B : Nat) (w : World) (e : Ending) (w' : World) : Prop :=
  ∃ b : Bool, e = .returned (.bool b) ∧ SrcIs w' g B ∧ w.grownBy w' (some g)
theorem chance_any (g B : Nat) (n : Int) (w : World) (h : SrcIs w g B) (h1 : 1 ≤ n) (h2 : n ≤ 1000) : Calls Try.prog 44 #[.pointer (some ⟨g, 0, none⟩), .int .i64 n] w (ChIn g B w) := by
  go_enter Try.func44, Try.ntmps44
  go_wp2_with fail
  refine (n_any g B _ _ h (by omega) (by omega)).mono ?_
  rintro e w' ⟨r, rfl, r0, r1, r2, hs, hg⟩
  clear r1 r2
  go_wp2
  go_ret
  exact ⟨_, rfl, hs, hg⟩

def ALPH : List Int := [97, 98, 102, 105, 88, 49, 50, 32, 32, 46, 44, 45, 39, 34, 40, 41, 91, 93, 60, 33, 58, 95, 37, 43, 47, 9, 10, 13, 11, 133, 160, 173, 183, 769, 1488, 1489, 1470, 1456, 1536, 1575, 1576, 1587, 1600, 1611, 1633, 1642, 1548, 1564, 1777, 2307, 2309, 2364, 4352, 4449, 4520, 44032, 44033, 8201, 8203, 8204, 8205, 8206, 8207, 8217, 8232, 8233, 8234, 8235, 8236, 8237, 8238, 8288, 8294, 8295, 8296, 8297, 9728, 12288, 12289, 12300, 12301, 12450, 19968, 65039, 127462, 127463, 127995, 128104, 1114111]
def rcells (l : List Int) : List Value := l.map (Value.int .i32)
theorem rcells_at (l : List Int) (k : Nat) (h : k < l.length) : (rcells l)[k]? = some (.int .i32 (l[k]'h)) := by simp [rcells, List.getElem?_eq_getElem h]
theorem alph_len : ALPH.length = 89 := by rfl
theorem alph_bd : ALPH.all (fun r => decide (0 ≤ r ∧ r ≤ 1114111)) = true := by kernel_rfl

def AlphAt (w : World) (e : Ending) (w' : World) : Prop :=
  ∃ b, e = .returned (.slice (some ⟨b, 0, none⟩) 89 89) ∧ w.heap.size ≤ b ∧ b < w'.heap.size ∧ (∀ i (h : i < ALPH.length), w'.cell? ⟨b, i, none⟩ = some (.int .i32 (ALPH[i]'h))) ∧ Below w.heap.size w w'
set_option maxRecDepth 100000 in
set_option maxHeartbeats 1000000 in
theorem alphabet_any (w : World) : Calls Try.prog 43 #[] w (AlphAt w) := by
  go_enter Try.func43, Try.ntmps43
  go_wp2
  go_ret
  refine ⟨w.heap.size, rfl, Nat.le_refl _, by simp, fun i h => ?_, (Below.refl _ _).alloc (Nat.le_refl _) _⟩
  have := (Blk.new w 21 (rcells ALPH).toArray).cell i
  rw [show (rcells ALPH).toArray[i]? = some (.int .i32 (ALPH[i]'h)) by simpa using rcells_at ALPH i h] at this
  exact this
end Go.Proofs.Ytagokefbbdlpcaa
