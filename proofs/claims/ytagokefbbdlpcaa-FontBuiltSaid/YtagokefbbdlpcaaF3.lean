/- Fonts as data, and as memory. -/
import Derived.Test.YtagokefbbdlpcaaF2
namespace Go.Proofs.Ytagokefbbdlpcaa
set_option linter.unusedVariables false
set_option linter.unusedSimpArgs false
open Go.RowKit

structure Adv where
  f : Int
  t : Int
  w : Int
structure Ker where
  a : Int
  b : Int
  d : Int
structure Lig where
  a : Int
  b : Int
  g : Int
  w : Int
structure Fnt where
  u : Int
  a : Int
  d : Int
  g : Int
  df : Int
  adv : List Adv
  ker : List Ker
  lig : List Lig

def Adv.cells (x : Adv) : List Value := [.int .i32 x.f, .int .i32 x.t, .int .i64 x.w]
def Ker.cells (x : Ker) : List Value := [.int .i32 x.a, .int .i32 x.b, .int .i64 x.d]
def Lig.cells (x : Lig) : List Value := [.int .i32 x.a, .int .i32 x.b, .int .i64 x.g, .int .i64 x.w]
def acells (l : List Adv) : List Value := l.flatMap Adv.cells
def kcells (l : List Ker) : List Value := l.flatMap Ker.cells
def lcells (l : List Lig) : List Value := l.flatMap Lig.cells

theorem flat_at {α : Type} (cells : α → List Value) (size : Nat) (hs : ∀ x, (cells x).length = size) (l : List α) (k j : Nat) (x : α) (h : l[k]? = some x) (hj : j < size) : (l.flatMap cells)[k * size + j]? = (cells x)[j]? := by
  induction l generalizing k with
  | nil => simp at h
  | cons y l ih =>
    match k, h with
    | 0, h =>
      simp at h
      subst h
      simp only [List.flatMap_cons]
      rw [List.getElem?_append_left (by rw [hs]; omega)]
      congr 1
      omega
    | k + 1, h =>
      have := ih k (by simpa using h)
      simp only [List.flatMap_cons]
      rw [List.getElem?_append_right (by rw [hs, Nat.add_mul]; omega), ← this]
      congr 1
      rw [hs, Nat.add_mul]
      omega
theorem flat_len {α : Type} (cells : α → List Value) (size : Nat) (hs : ∀ x, (cells x).length = size) (l : List α) : (l.flatMap cells).length = l.length * size := by
  induction l with
  | nil => simp
  | cons y l ih => simp only [List.flatMap_cons, List.length_append, hs, ih, List.length_cons, Nat.add_mul]; omega

/-- A font as a value: its numbers and its three slices. -/
def Fnt.val (f : Fnt) (A1 : Option Addr) (c1 : Nat) (A2 : Option Addr) (c2 : Nat) (A3 : Option Addr) (c3 : Nat) : Value :=
  .agg #[.int .i64 f.u, .int .i64 f.a, .int .i64 f.d, .int .i64 f.g, .int .i64 f.df, .slice A1 f.adv.length c1, .slice A2 f.ker.length c2, .slice A3 f.lig.length c3]
def Fnt.cs (f : Fnt) (A1 : Option Addr) (c1 : Nat) (A2 : Option Addr) (c2 : Nat) (A3 : Option Addr) (c3 : Nat) : Array Value :=
  #[.int .i64 f.u, .int .i64 f.a, .int .i64 f.d, .int .i64 f.g, .int .i64 f.df, .slice A1 f.adv.length c1, .slice A2 f.ker.length c2, .slice A3 f.lig.length c3]

/-- A font in memory. -/
structure FM (w : World) (f : Fnt) (A1 : Option Addr) (c1 : Nat) (A2 : Option Addr) (c2 : Nat) (A3 : Option Addr) (c3 : Nat) : Prop where
  r1 : Reads w w.heap.size 3 A1 f.adv.length (acells f.adv)
  r2 : Reads w w.heap.size 3 A2 f.ker.length (kcells f.ker)
  r3 : Reads w w.heap.size 4 A3 f.lig.length (lcells f.lig)
  l1 : f.adv.length ≤ maxLen
  l2 : f.ker.length ≤ maxLen
  l3 : f.lig.length ≤ maxLen

theorem FM.below {w w' : World} {f : Fnt} {A1 A2 A3 : Option Addr} {c1 c2 c3 : Nat} (h : FM w f A1 c1 A2 c2 A3 c3) (hb : Below w.heap.size w w') : FM w' f A1 c1 A2 c2 A3 c3 :=
  ⟨(h.r1.below hb).more hb.size, (h.r2.below hb).more hb.size, (h.r3.below hb).more hb.size, h.l1, h.l2, h.l3⟩

/-- An address whose cell can be read has no spot; its cells in plain form. -/
theorem Reads.plain {w : World} {B size n : Nat} {A : Option Addr} {xs : List Value} (h : Reads w B size A n xs) (hn : 0 < n) (hs : 0 < size) :
    ∃ b off, A = some ⟨b, off, none⟩ ∧ b < B ∧ ∀ j u, xs[j]? = some u → w.cell? ⟨b, off + j, none⟩ = some u := by
  obtain ⟨⟨b, off, s⟩, rfl, hb, hc⟩ := h.2 hn
  have hl : 0 < xs.length := by rw [h.1]; exact Nat.mul_pos hn hs
  have h0 := hc 0 _ (List.getElem?_eq_getElem hl)
  have hs : s = none := by simpa [Addr.add] using World.cell?_spot h0
  subst hs
  refine ⟨b, off, rfl, hb, fun j u hu => ?_⟩
  have := hc j u hu
  by_cases hj : j = 0
  · subst hj; simpa [Addr.add] using this
  · simpa [Addr.add, hj] using this

/-- The k-th element of a slice of structs: where its cells lie. -/
theorem elem_at {α : Type} {cells : α → List Value} {size : Nat} (hs : ∀ x, (cells x).length = size) (hp : 0 < size) {w w' : World} {B : Nat} {A : Option Addr} {l : List α} (h : Reads w B size A l.length (l.flatMap cells)) (hb : Below B w w') (k : Nat) (hk : k < l.length) :
    ∃ (x : α) (b off : Nat), l[k]? = some x ∧ A = some ⟨b, off, none⟩ ∧ b < B ∧ ∀ j u, j < size → (cells x)[j]? = some u → w'.cell? ⟨b, off + (k * size + j), none⟩ = some u := by
  obtain ⟨b, off, rfl, hlt, hc⟩ := h.plain (by omega) hp
  refine ⟨l[k], b, off, List.getElem?_eq_getElem hk, rfl, hlt, fun j u hj hu => ?_⟩
  exact (hb.cell (p := ⟨b, off + (k * size + j), none⟩) hlt).trans (hc _ u (by rw [flat_at cells size hs l k j _ (List.getElem?_eq_getElem hk) hj]; exact hu))

def advOk (x : Adv) : Bool := inB x.f 0 1114111 && (inB x.t 0 1114111 && inB x.w 0 4096)
def kerOk (x : Ker) : Bool := inB x.a 0 1114111 && (inB x.b 0 1114111 && inB x.d (-1000) 1000)
def ligOk (x : Lig) : Bool := inB x.a 0 1114111 && (inB x.b 0 1114111 && (inB x.g 1114112 2097151 && inB x.w 0 4096))
def headOk (f : Fnt) : Bool := inB f.u 16 4096 && (inB f.a 0 4096 && (inB f.d 0 4096 && (inB f.g 0 4096 && (decide (1 ≤ f.a + f.d) && inB f.df 0 4096))))
def rangesB (f : Fnt) : Bool := headOk f && (f.adv.all advOk && (f.ker.all kerOk && f.lig.all ligOk))

/-- The advances from index k on are in order. -/
def advOrd : Int → List Adv → Bool
  | _, [] => true
  | last, x :: t => decide (last < x.f ∧ x.f ≤ x.t) && advOrd x.t t
def pw {α : Type} (p : α → α → Bool) : List α → Bool
  | [] => true
  | [_] => true
  | x :: y :: t => p x y && pw p (y :: t)
theorem pw_of {α : Type} (p : α → α → Bool) (l : List α) (h : ∀ j x y, l[j]? = some x → l[j + 1]? = some y → p x y = true) : pw p l = true := by
  induction l with
  | nil => rfl
  | cons x l ih =>
    cases l with
    | nil => rfl
    | cons y t =>
      simp only [pw, Bool.and_eq_true]
      exact ⟨h 0 x y rfl rfl, ih fun j u v hu hv => h (j + 1) u v (by simpa using hu) (by simpa using hv)⟩
theorem pw_not {α : Type} (p : α → α → Bool) (l : List α) (j : Nat) (x y : α) (hx : l[j]? = some x) (hy : l[j + 1]? = some y) (h : p x y = false) : pw p l = false := by
  induction l generalizing j with
  | nil => simp at hx
  | cons z l ih =>
    cases l with
    | nil => simp at hy
    | cons z2 t =>
      match j, hx, hy with
      | 0, hx, hy =>
        simp at hx hy
        subst hx hy
        simp [pw, h]
      | j + 1, hx, hy =>
        have := ih j (by simpa using hx) (by simpa using hy)
        simp [pw, this]
def kerLt (x y : Ker) : Bool := ltB x.a x.b y.a y.b
def ligLt (x y : Lig) : Bool := ltB x.a x.b y.a y.b
def kerOrd (l : List Ker) : Bool := pw kerLt l
def ligOrd (l : List Lig) : Bool := pw ligLt l
def ordB (f : Fnt) : Bool := advOrd (-1) f.adv && (kerOrd f.ker && ligOrd f.lig)
def longB (f : Fnt) : Bool := decide (100 < f.adv.length) || (decide (100 < f.ker.length) || decide (100 < f.lig.length))
/-- The first error of a font. -/
def vld (f : Fnt) : Int := if longB f then 2 else if rangesB f then (if ordB f then 0 else 10) else 1

theorem all_not {α : Type} {p : α → Bool} {l : List α} {k : Nat} {x : α} (h : l[k]? = some x) (hx : p x = false) : l.all p = false := by
  rw [Bool.eq_false_iff]
  intro ha
  have := List.all_eq_true.1 ha x (List.mem_of_getElem? h)
  rw [hx] at this
  cases this
theorem take_all {α : Type} {p : α → Bool} {l : List α} {k : Nat} {x : α} (h : l[k]? = some x) (hx : p x = true) (ht : (l.take k).all p = true) : (l.take (k + 1)).all p = true := by
  rw [List.take_add_one, h]
  simp only [List.all_append, ht, Option.toList_some, List.all_cons, hx, List.all_nil, Bool.and_self]
end Go.Proofs.Ytagokefbbdlpcaa
