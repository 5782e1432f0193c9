/- build of the statements walked: a list of valid constraints out of the source of numbers. -/
import Derived.Test.YtkdgeahfmmfopaaC1
namespace Go.Proofs.Ytkdgeahfmmfopaa
set_option linter.unusedVariables false
set_option linter.unusedSimpArgs false
open Go.RowKit

theorem SrcIs.belowH {w w' : World} {g B H : Nat} (h : SrcIs w g B) (hb : Below H w w') (hg : g < H) : SrcIs w' g B := by
  obtain ⟨hBg, A, n, c, zs, at_, h1, h2, h3, h4, h5⟩ := h
  exact ⟨hBg, A, n, c, zs, at_, h1.below hb hg, h2.below (hb.mono (by omega)), h3, h4, h5⟩
theorem SrcIs.lt {w : World} {g B : Nat} (h : SrcIs w g B) : g < w.heap.size := by
  obtain ⟨_, _, _, _, _, _, h1, _⟩ := h
  exact h1.lt

theorem gb_trans {a b c : World} {g : Nat} (h : a.grownBy b (some g)) (k : b.grownBy c (some g)) : a.grownBy c (some g) :=
  ⟨k.os.trans h.os, k.tape.trans h.tape, k.output.trans h.output, Nat.le_trans h.size k.size, fun i hi hne => (k.block i (Nat.lt_of_lt_of_le hi h.size) hne).trans (h.block i hi hne)⟩
theorem gb_below {a b c : World} {g : Nat} (h : a.grownBy b (some g)) (k : Below a.heap.size b c) : a.grownBy c (some g) :=
  ⟨k.os.trans h.os, k.tape.trans h.tape, k.output.trans h.output, Nat.le_trans h.size k.size, fun i hi hne => (k.block i hi).trans (h.block i hi hne)⟩
theorem own_gb {w w' : World} {base e size n g : Nat} {v : Value} {xs : List Value} (h : w.ownsRow base e size v n xs) (hg : w.grownBy w' (some g)) (hlt : g < base) : w'.ownsRow base e size v n xs :=
  h.kept hg (.inr (own_lt h hlt))
theorem blk_gb {w w' : World} {b t g : Nat} {cs : Array Value} (h : Blk w b t cs) (hg : w.grownBy w' (some g)) (hne : b ≠ g) : Blk w' b t cs := h.grown hg (by simpa using hne)

def tblCells : Array Value := #[.int .i64 0, .int .i64 1, .int .i64 5, .int .i64 10, .int .i64 10, .int .i64 (-10), .int .i64 20, .int .i64 (-3), .int .i64 1048576, .int .i64 (-1048576)]
theorem tbl_at (i : Nat) (h : i < 10) : ∃ cv : Int, tblCells[i]? = some (.int .i64 cv) ∧ -1048576 ≤ cv ∧ cv ≤ 1048576 := by
  match i, h with
  | 0, _ => exact ⟨_, rfl, by omega, by omega⟩
  | 1, _ => exact ⟨_, rfl, by omega, by omega⟩
  | 2, _ => exact ⟨_, rfl, by omega, by omega⟩
  | 3, _ => exact ⟨_, rfl, by omega, by omega⟩
  | 4, _ => exact ⟨_, rfl, by omega, by omega⟩
  | 5, _ => exact ⟨_, rfl, by omega, by omega⟩
  | 6, _ => exact ⟨_, rfl, by omega, by omega⟩
  | 7, _ => exact ⟨_, rfl, by omega, by omega⟩
  | 8, _ => exact ⟨_, rfl, by omega, by omega⟩
  | 9, _ => exact ⟨_, rfl, by omega, by omega⟩
  | i + 10, h => omega

/-- What build returns: a new list of valid constraints. -/
def Built (vars : Int) (n g B : Nat) (w : World) (e : Ending) (w' : World) : Prop :=
  ∃ (l : List Con) (v : Value), e = .returned v ∧ w'.ownsRow w.heap.size 40 5 v l.length (conCells l) ∧ l.length ≤ n ∧ (∀ c ∈ l, validB vars c = true) ∧ SrcIs w' g B ∧ w.grownBy w' (some g)

set_option maxRecDepth 100000 in
set_option maxHeartbeats 4000000 in
theorem build_any (g B : Nat) (vars : Int) (n : Nat) (w : World) (h : SrcIs w g B) (hv1 : 1 ≤ vars) (hv2 : vars ≤ 64) (hn : n ≤ 1000) :
    Calls Try.prog 16 #[.pointer (some ⟨g, 0, none⟩), .int .i64 vars, .int .i64 n] w (Built vars n g B w) := by
  obtain ⟨i0, hi0, hz0, hz1, hz2⟩ := info_parts con_info
  have hg := h.lt
  go_enter Try.func16, Try.ntmps16
  go_wp2_with fail
  refine (n_any g B _ _ h (by omega) (by omega)).mono ?_
  rintro e w1 ⟨r, rfl, hr0, hr1, _, hs1, hg1⟩
  have hr2 : r ≤ n := by have := hr1 (by omega); omega
  obtain ⟨k0, rfl⟩ := Int.eq_ofNat_of_zero_le hr0
  clear hr1
  go_wp2
  go_loopw [7, 8] (fun s7 s8 wr => ∃ (k : Nat) (l : List Con), s8 = .int .i64 (k : Int) ∧ l.length + k ≤ n ∧ wr.ownsRow w.heap.size 40 5 s7 l.length (conCells l) ∧ (∀ c ∈ l, validB vars c = true) ∧ SrcIs wr g B ∧ w.grownBy wr (some g)) (fun _ s8 _ => (intOf s8).toNat)
  case atStart => exact ⟨k0, [], rfl, by simp; omega, World.ownsRow_nil _ _ _ _, fun c hc => by simp at hc, hs1, hg1⟩
  case round =>
    obtain ⟨k, l, rfl, hk, hown, hval, hs, hgr⟩ := hrel
    have HOWN := Lib.hid hown
    have HVAL := Lib.hid hval
    clear hown hval
    by_cases hk0 : 0 < k
    · have hkp : (0 : Int) < (k : Int) := by omega
      have hwr : w.heap.size ≤ wr.heap.size := hgr.size
      go_wp2_with fail
      refine (range_any g B _ _ _ hs (by omega) (by omega) (by omega)).mono ?_
      rintro e w2 ⟨r2, rfl, a1, a2, hs2, hg2⟩
      go_wp2_with fail
      refine (range_any g B _ _ _ hs2 (by omega) (by omega) (by omega)).mono ?_
      rintro e w3 ⟨r3, rfl, b1, b2, hs3, hg3⟩
      go_wp2_with fail
      refine (n_any g B _ _ hs3 (by omega) (by omega)).mono ?_
      rintro e w4 ⟨r4, rfl, c1, c2, _, hs4, hg4⟩
      have c3 := c2 (by omega)
      clear c2
      go_wp2_with fail
      refine (n_any g B _ _ hs4 (by omega) (by omega)).mono ?_
      rintro e w5 ⟨r5, rfl, d1, d2, _, hs5, hg5⟩
      have d3 := d2 (by omega)
      clear d2
      have hg25 := gb_trans (gb_trans (gb_trans hg2 hg3) hg4) hg5
      have hw5 : w.heap.size ≤ w5.heap.size := Nat.le_trans hwr hg25.size
      have hbox := Blk.new w5 40 #[.int .i64 r2, .int .i64 r3, .int .i64 r4, .int .i64 0, .int .i64 r5]
      have hgb : w5.heap.size ≠ g := by omega
      go_wp2_with fail
      refine (n_any g B _ _ (hs5.belowH ((Below.refl w.heap.size _).alloc hw5 _) hg) (by omega) (by omega)).mono ?_
      rintro e w6 ⟨r6, rfl, e1, e2, _, hs6, hg6⟩
      clear e2
      have hbox6 := blk_gb hbox hg6 hgb
      have hgr6 : w.grownBy w6 (some g) := gb_trans (gb_below (gb_trans hgr hg25) ((Below.refl w.heap.size _).alloc hw5 _)) hg6
      have hown5 := own_gb HOWN.out hg25 hg
      have hne5 := (fun hv => by have := (hown5.lt _ hv).2; omega : Value.ownBlock _ ≠ some w5.heap.size)
      have hown6 := own_gb (hown5.alloc (Obj.cells #[.int .i64 r2, .int .i64 r3, .int .i64 r4, .int .i64 0, .int .i64 r5] 40)) hg6 hg
      clear hg2 hg3 hg4 hg5 hg25 hgr hown5 hs hs2 hs3 hs4 hs5 hg6 hbox
      by_cases hr6 : 0 < r6
      · go_wp2_with fail
        refine (range_any g B _ _ _ hs6 (by omega) (by omega) (by omega)).mono ?_
        rintro e w7 ⟨r7, rfl, p1, p2, hs7, hg7⟩
        have hbox7 := blk_gb hbox6 hg7 hgb
        have hown7 := own_gb hown6 hg7 hg
        have hgr7 := gb_trans hgr6 hg7
        have hbox8 : Blk (w7.setCell ⟨w5.heap.size, 4, none⟩ (.int .i64 r7)) w5.heap.size 40 #[.int .i64 r2, .int .i64 r3, .int .i64 r4, .int .i64 0, .int .i64 r7] := by
          simpa using hbox7.set_ 4 (.int .i64 r7)
        have hown8 := own_far (i := 4) hown7 hne5 (.int .i64 r7)
        have hbl8 : Below w.heap.size w7 (w7.setCell ⟨w5.heap.size, 4, none⟩ (.int .i64 r7)) := (Below.refl w.heap.size w7).setCell (p := ⟨w5.heap.size, 4, none⟩) hw5 _
        have hs8 := hs7.belowH hbl8 hg
        have hgr8 := gb_below hgr7 hbl8
        have z4 : w7.cell? ⟨w5.heap.size, 4, none⟩ = some (.int .i64 r5) := by rw [hbox7.cell]; rfl
        have zf := hbox7.frozen 4
        have hlt7 : w5.heap.size < w7.heap.size := hbox7.lt
        clear hbox7 hown7 hgr7 hs7 hg7 hbl8 hbox6 hown6 hgr6 hs6
        have hw8 : w.heap.size ≤ (w7.setCell ⟨w5.heap.size, 4, none⟩ (.int .i64 r7)).heap.size := hgr8.size
        have hown8b := hown8.alloc (Obj.cells tblCells 3)
        go_wp2_with fail
        refine (n_any g B _ _ (hs8.belowH ((Below.refl w.heap.size _).alloc hw8 _) hg) (by omega) (by omega)).mono ?_
        rintro e w10 ⟨r10, rfl, f1, f2, _, hs10, hg10⟩
        have f3 := f2 (by omega)
        clear f2
        obtain ⟨i10, rfl⟩ := Int.eq_ofNat_of_zero_le f1
        have hgr10 : w.grownBy w10 (some g) := gb_trans (gb_below hgr8 ((Below.refl w.heap.size _).alloc hw8 _)) hg10
        have hbox10 := blk_gb (hbox8.alloc (Obj.cells tblCells 3)) hg10 hgb
        have htbl : Blk w10 w7.heap.size 3 tblCells := by
          have hh := blk_gb (Blk.new (w7.setCell ⟨w5.heap.size, 4, none⟩ (.int .i64 r7)) 3 tblCells) hg10 (by omega)
          rwa [show (w7.setCell ⟨w5.heap.size, 4, none⟩ (.int .i64 r7)).heap.size = w7.heap.size by simp [World.setCell]] at hh
        have hown10 := own_gb hown8b hg10 hg
        obtain ⟨cv, hcv, g1, g2⟩ := tbl_at i10 (by omega)
        have x0 : w10.cell? ⟨w7.heap.size, i10, none⟩ = some (.int .i64 cv) := by rw [htbl.cell]; exact hcv
        have y0 : w10.cell? ⟨w5.heap.size, 0, none⟩ = some (.int .i64 r2) := by rw [hbox10.cell]; rfl
        have y1 : w10.cell? ⟨w5.heap.size, 1, none⟩ = some (.int .i64 r3) := by rw [hbox10.cell]; rfl
        have y2 : w10.cell? ⟨w5.heap.size, 2, none⟩ = some (.int .i64 r4) := by rw [hbox10.cell]; rfl
        have y3 : w10.cell? ⟨w5.heap.size, 3, none⟩ = some (.int .i64 0) := by rw [hbox10.cell]; rfl
        have y4 : w10.cell? ⟨w5.heap.size, 4, none⟩ = some (.int .i64 r7) := by rw [hbox10.cell]; rfl
        have yf := hbox10.frozen 3
        have hcvok : validB vars ⟨r2, r3, r4, cv, r7⟩ = true := by simp only [validB, decide_eq_true_eq]; omega
        have hi10 : (i10 : Int) < 10 := f3
        have hb10 : w.heap.size ≤ w10.heap.size := hgr10.size
        have hown12 := Lib.hid ((own_far (i := 3) hown10 hne5 (.int .i64 cv)).alloc (Obj.cells #[.int .i64 r2, .int .i64 r3, .int .i64 r4, .int .i64 cv, .int .i64 r7] 40))
        have hrd12' := reads_new (w10.setCell ⟨w5.heap.size, 3, none⟩ (.int .i64 cv)) #[.int .i64 r2, .int .i64 r3, .int .i64 r4, .int .i64 cv, .int .i64 r7] 40 5 1 rfl
        have hsz10 : (w10.setCell ⟨w5.heap.size, 3, none⟩ (.int .i64 cv)).heap.size = w10.heap.size := by simp [World.setCell]
        rw [hsz10] at hrd12'
        have hrd12 := Lib.hid hrd12'
        clear hrd12' hsz10
        have HS10 := Lib.hid (hs10.belowH (((Below.refl w.heap.size w10).setCell (p := ⟨w5.heap.size, 3, none⟩) hw5 (.int .i64 cv)).alloc (by simp [World.setCell]; omega) (Obj.cells #[.int .i64 r2, .int .i64 r3, .int .i64 r4, .int .i64 cv, .int .i64 r7] 40)) hg)
        have HG10 := Lib.hid (gb_below hgr10 (((Below.refl w.heap.size w10).setCell (p := ⟨w5.heap.size, 3, none⟩) hw5 (.int .i64 cv)).alloc (by simp [World.setCell]; omega) (Obj.cells #[.int .i64 r2, .int .i64 r3, .int .i64 r4, .int .i64 cv, .int .i64 r7] 40)))
        have HCV := Lib.hid hcvok
        have hlt5 : w5.heap.size < w10.heap.size := hbox10.lt
        clear hcvok hbox10 htbl hown10 hown8b hcv
        go_wp2_with (
          at_builtin
          refine wpList_append_any _ rfl (.tmp 43) (.tmp 45) _ rfl w.heap.size 40 i0 _ 5 40 Try.underlying22 hi0 hz0 hz1 hz2 rfl (by omega) _ l.length (conCells l) rfl
            hown12.out _ _ 1 1 _ rfl hrd12.out (by intro u hu; simp at hu; rcases hu with rfl | rfl | rfl | rfl | rfl <;> rfl) (by simp only [maxLen]; omega) (by omega) (by simp [World.setCell]; omega) ?_
          intro v13 w13 hown13 hg13 hat13)
        go_roundw
        case rel =>
          have hbel : Below w.heap.size ((w10.setCell ⟨w5.heap.size, 3, none⟩ (.int .i64 cv)).alloc (Obj.cells #[.int .i64 r2, .int .i64 r3, .int .i64 r4, .int .i64 cv, .int .i64 r7] 40)) w13 :=
            (Below.refl _ _).grown hg13 (by simp [World.setCell]; omega) (fun k hk => (hown12.out.lt k hk).1)
          refine ⟨k - 1, l ++ [⟨r2, r3, r4, cv, r7⟩], by go_num, by simp; omega, ?_, ?_, HS10.out.belowH hbel hg, gb_below HG10.out hbel⟩
          · have e : conCells (l ++ [⟨r2, r3, r4, cv, r7⟩]) = conCells l ++ [.int .i64 r2, .int .i64 r3, .int .i64 r4, .int .i64 cv, .int .i64 r7] := by simp [conCells, Con.cells]
            rw [e, List.length_append]
            exact hown13
          · intro c hc
            rcases List.mem_append.1 hc with hc | hc
            · exact HVAL.out c hc
            · simp at hc; subst hc; exact HCV.out
        case measure => simp [intOf]; omega
      · have hown8 := hown6
        have hs8 := hs6
        have hgr8 := hgr6
        have hbox8 := hbox6
        clear hown6 hs6 hgr6 hbox6
        have hw8 : w.heap.size ≤ w6.heap.size := hgr8.size
        have hown8b := hown8.alloc (Obj.cells tblCells 3)
        go_wp2_with fail
        refine (n_any g B _ _ (hs8.belowH ((Below.refl w.heap.size _).alloc hw8 _) hg) (by omega) (by omega)).mono ?_
        rintro e w10 ⟨r10, rfl, f1, f2, _, hs10, hg10⟩
        have f3 := f2 (by omega)
        clear f2
        obtain ⟨i10, rfl⟩ := Int.eq_ofNat_of_zero_le f1
        have hgr10 : w.grownBy w10 (some g) := gb_trans (gb_below hgr8 ((Below.refl w.heap.size _).alloc hw8 _)) hg10
        have hbox10 := blk_gb (hbox8.alloc (Obj.cells tblCells 3)) hg10 hgb
        have htbl : Blk w10 w6.heap.size 3 tblCells := by
          have hh := blk_gb (Blk.new w6 3 tblCells) hg10 (by omega)
          exact hh
        have hown10 := own_gb hown8b hg10 hg
        obtain ⟨cv, hcv, g1, g2⟩ := tbl_at i10 (by omega)
        have x0 : w10.cell? ⟨w6.heap.size, i10, none⟩ = some (.int .i64 cv) := by rw [htbl.cell]; exact hcv
        have y0 : w10.cell? ⟨w5.heap.size, 0, none⟩ = some (.int .i64 r2) := by rw [hbox10.cell]; rfl
        have y1 : w10.cell? ⟨w5.heap.size, 1, none⟩ = some (.int .i64 r3) := by rw [hbox10.cell]; rfl
        have y2 : w10.cell? ⟨w5.heap.size, 2, none⟩ = some (.int .i64 r4) := by rw [hbox10.cell]; rfl
        have y3 : w10.cell? ⟨w5.heap.size, 3, none⟩ = some (.int .i64 0) := by rw [hbox10.cell]; rfl
        have y4 : w10.cell? ⟨w5.heap.size, 4, none⟩ = some (.int .i64 r5) := by rw [hbox10.cell]; rfl
        have yf := hbox10.frozen 3
        have hcvok : validB vars ⟨r2, r3, r4, cv, r5⟩ = true := by simp only [validB, decide_eq_true_eq]; omega
        have hi10 : (i10 : Int) < 10 := f3
        have hb10 : w.heap.size ≤ w10.heap.size := hgr10.size
        have hown12 := Lib.hid ((own_far (i := 3) hown10 hne5 (.int .i64 cv)).alloc (Obj.cells #[.int .i64 r2, .int .i64 r3, .int .i64 r4, .int .i64 cv, .int .i64 r5] 40))
        have hrd12' := reads_new (w10.setCell ⟨w5.heap.size, 3, none⟩ (.int .i64 cv)) #[.int .i64 r2, .int .i64 r3, .int .i64 r4, .int .i64 cv, .int .i64 r5] 40 5 1 rfl
        have hsz10 : (w10.setCell ⟨w5.heap.size, 3, none⟩ (.int .i64 cv)).heap.size = w10.heap.size := by simp [World.setCell]
        rw [hsz10] at hrd12'
        have hrd12 := Lib.hid hrd12'
        clear hrd12' hsz10
        have HS10 := Lib.hid (hs10.belowH (((Below.refl w.heap.size w10).setCell (p := ⟨w5.heap.size, 3, none⟩) hw5 (.int .i64 cv)).alloc (by simp [World.setCell]; omega) (Obj.cells #[.int .i64 r2, .int .i64 r3, .int .i64 r4, .int .i64 cv, .int .i64 r5] 40)) hg)
        have HG10 := Lib.hid (gb_below hgr10 (((Below.refl w.heap.size w10).setCell (p := ⟨w5.heap.size, 3, none⟩) hw5 (.int .i64 cv)).alloc (by simp [World.setCell]; omega) (Obj.cells #[.int .i64 r2, .int .i64 r3, .int .i64 r4, .int .i64 cv, .int .i64 r5] 40)))
        have HCV := Lib.hid hcvok
        have hlt5 : w5.heap.size < w10.heap.size := hbox10.lt
        clear hcvok hbox10 htbl hown10 hown8b hcv
        go_wp2_with (
          at_builtin
          refine wpList_append_any _ rfl (.tmp 43) (.tmp 45) _ rfl w.heap.size 40 i0 _ 5 40 Try.underlying22 hi0 hz0 hz1 hz2 rfl (by omega) _ l.length (conCells l) rfl
            hown12.out _ _ 1 1 _ rfl hrd12.out (by intro u hu; simp at hu; rcases hu with rfl | rfl | rfl | rfl | rfl <;> rfl) (by simp only [maxLen]; omega) (by omega) (by simp [World.setCell]; omega) ?_
          intro v13 w13 hown13 hg13 hat13)
        go_roundw
        case rel =>
          have hbel : Below w.heap.size ((w10.setCell ⟨w5.heap.size, 3, none⟩ (.int .i64 cv)).alloc (Obj.cells #[.int .i64 r2, .int .i64 r3, .int .i64 r4, .int .i64 cv, .int .i64 r5] 40)) w13 :=
            (Below.refl _ _).grown hg13 (by simp [World.setCell]; omega) (fun k hk => (hown12.out.lt k hk).1)
          refine ⟨k - 1, l ++ [⟨r2, r3, r4, cv, r5⟩], by go_num, by simp; omega, ?_, ?_, HS10.out.belowH hbel hg, gb_below HG10.out hbel⟩
          · have e : conCells (l ++ [⟨r2, r3, r4, cv, r5⟩]) = conCells l ++ [.int .i64 r2, .int .i64 r3, .int .i64 r4, .int .i64 cv, .int .i64 r5] := by simp [conCells, Con.cells]
            rw [e, List.length_append]
            exact hown13
          · intro c hc
            rcases List.mem_append.1 hc with hc | hc
            · exact HVAL.out c hc
            · simp at hc; subst hc; exact HCV.out
        case measure => simp [intOf]; omega
    · obtain rfl : k = 0 := by omega
      go_wp2
      go_ret
      exact ⟨l, _, rfl, HOWN.out, by omega, HVAL.out, hs, hgr⟩
end Go.Proofs.Ytkdgeahfmmfopaa
