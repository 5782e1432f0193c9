/-
  No cell of these rows narrows 'for every input' (looked for: loops, veiled, ifaces, maps, wideKeys, modest, calm, conditions, laid).
  DERIVED. THE GIVEN ROWS OF THIS SEAT. 6 by the template 'for every input the law returns true; each argument reads behind the call as it read before'; 0 by the template 'total and deterministic' (their statements: YtagokefbbdlpcaaTotals.lean).
  GIVEN WITH THE SEED: the statements are not yours to turn. If you find one false, say at which input.
  Laid BY PROGRAM, IN A SANDBOX (cutbox-rows.mjs): the forced cells as the released guide's own fill.sh prints them over the translation 8db2d5c0a0879512… (all of the seat's roots in one cut). By AI agents, Wed Nov 11 2026. No macro, syntax, notation, axiom, sorry.
-/
import Derived.Test.YtagokefbbdlpcaaChecked
import GoSem.Claim
import GoSem.ClaimJoined
import GoSem.ClaimMapViews
import Derived.JoinedTies
import Derived.KernelRfl
namespace Go.Proofs.Ytagokefbbdlpcaa
/- THE CELL 'sum', in the pinned program and in every row, IS THE sha256 OF THE DUMP (.gsa) THAT YtagokefbbdlpcaaProg.lean LOADS. Nothing in Lean hashes anything: it is a label: what it is worth is what the hold of that sum in a sandbox is worth. -/
noncomputable def Try.pinned : Pinned := { name := "ytagokefbbdlpcaa", sum := "8db2d5c0a0879512336287b0ef17ff6e367a00f34c6fdda5d720e53602bede29", checked := Try.checked }
namespace Rows
def none {H : Type} : Left H := { results := [], args := [] }

/-- 'widgetrylaw03.CharClasses': WHATEVER THE INPUT: true; the input reads as it did. -/
def charClassesSpec : ChangeSpec := { name := "charClasses", fn := fun _ => fun
  | [d] => { results := [.lit (.bool true)], args := [d] }
  | _ => none }
def charClassesRow : OpenClaim := { program := "ytagokefbbdlpcaa", sum := "8db2d5c0a0879512336287b0ef17ff6e367a00f34c6fdda5d720e53602bede29", func := "widgetry/widgetrylaw03.CharClasses", spec := "charClasses", apart := false }
def CharClassesSaid : Prop := charClassesRow.holds Try.pinned (OpenSpec.ofChange charClassesSpec)

/-- ITS FALSE NEIGHBOUR: 'it returns false'. Refute it at one input. -/
def charClassesWrong : ChangeSpec := { name := "charClasses", fn := fun _ => fun
  | [d] => { results := [.lit (.bool false)], args := [d] }
  | _ => none }
def CharClassesWrongFalsely : Prop := charClassesRow.holds Try.pinned (OpenSpec.ofChange charClassesWrong)

/-- 'widgetrylaw03.CharBlocks': WHATEVER THE INPUT: true; the input reads as it did. -/
def charBlocksSpec : ChangeSpec := { name := "charBlocks", fn := fun _ => fun
  | [d] => { results := [.lit (.bool true)], args := [d] }
  | _ => none }
def charBlocksRow : OpenClaim := { program := "ytagokefbbdlpcaa", sum := "8db2d5c0a0879512336287b0ef17ff6e367a00f34c6fdda5d720e53602bede29", func := "widgetry/widgetrylaw03.CharBlocks", spec := "charBlocks", apart := false }
def CharBlocksSaid : Prop := charBlocksRow.holds Try.pinned (OpenSpec.ofChange charBlocksSpec)

/-- ITS FALSE NEIGHBOUR: 'it returns false'. Refute it at one input. -/
def charBlocksWrong : ChangeSpec := { name := "charBlocks", fn := fun _ => fun
  | [d] => { results := [.lit (.bool false)], args := [d] }
  | _ => none }
def CharBlocksWrongFalsely : Prop := charBlocksRow.holds Try.pinned (OpenSpec.ofChange charBlocksWrong)

/-- 'widgetrylaw03.CharMirrors': WHATEVER THE INPUT: true; the input reads as it did. -/
def charMirrorsSpec : ChangeSpec := { name := "charMirrors", fn := fun _ => fun
  | [d] => { results := [.lit (.bool true)], args := [d] }
  | _ => none }
def charMirrorsRow : OpenClaim := { program := "ytagokefbbdlpcaa", sum := "8db2d5c0a0879512336287b0ef17ff6e367a00f34c6fdda5d720e53602bede29", func := "widgetry/widgetrylaw03.CharMirrors", spec := "charMirrors", apart := false }
def CharMirrorsSaid : Prop := charMirrorsRow.holds Try.pinned (OpenSpec.ofChange charMirrorsSpec)

/-- ITS FALSE NEIGHBOUR: 'it returns false'. Refute it at one input. -/
def charMirrorsWrong : ChangeSpec := { name := "charMirrors", fn := fun _ => fun
  | [d] => { results := [.lit (.bool false)], args := [d] }
  | _ => none }
def CharMirrorsWrongFalsely : Prop := charMirrorsRow.holds Try.pinned (OpenSpec.ofChange charMirrorsWrong)

/-- 'widgetrylaw07.FontScales': WHATEVER THE INPUT: true; the input reads as it did. -/
def fontScalesSpec : ChangeSpec := { name := "fontScales", fn := fun _ => fun
  | [d] => { results := [.lit (.bool true)], args := [d] }
  | _ => none }
def fontScalesRow : OpenClaim := { program := "ytagokefbbdlpcaa", sum := "8db2d5c0a0879512336287b0ef17ff6e367a00f34c6fdda5d720e53602bede29", func := "widgetry/widgetrylaw07.FontScales", spec := "fontScales", apart := false }
def FontScalesSaid : Prop := fontScalesRow.holds Try.pinned (OpenSpec.ofChange fontScalesSpec)

/-- ITS FALSE NEIGHBOUR: 'it returns false'. Refute it at one input. -/
def fontScalesWrong : ChangeSpec := { name := "fontScales", fn := fun _ => fun
  | [d] => { results := [.lit (.bool false)], args := [d] }
  | _ => none }
def FontScalesWrongFalsely : Prop := fontScalesRow.holds Try.pinned (OpenSpec.ofChange fontScalesWrong)

/-- 'widgetrylaw07.FontRaw': WHATEVER THE INPUT: true; the input reads as it did. -/
def fontRawSpec : ChangeSpec := { name := "fontRaw", fn := fun _ => fun
  | [d1, d2, d3, d4] => { results := [.lit (.bool true)], args := [d1, d2, d3, d4] }
  | _ => none }
def fontRawRow : OpenClaim := { program := "ytagokefbbdlpcaa", sum := "8db2d5c0a0879512336287b0ef17ff6e367a00f34c6fdda5d720e53602bede29", func := "widgetry/widgetrylaw07.FontRaw", spec := "fontRaw", unfollowed := true, recurses := true, apart := false }
def FontRawSaid : Prop := fontRawRow.holds Try.pinned (OpenSpec.ofChange fontRawSpec)

/-- ITS FALSE NEIGHBOUR: 'it returns false'. Refute it at one input. -/
def fontRawWrong : ChangeSpec := { name := "fontRaw", fn := fun _ => fun
  | [d1, d2, d3, d4] => { results := [.lit (.bool false)], args := [d1, d2, d3, d4] }
  | _ => none }
def FontRawWrongFalsely : Prop := fontRawRow.holds Try.pinned (OpenSpec.ofChange fontRawWrong)

/-- 'widgetrylaw07.FontBuilt': WHATEVER THE INPUT: true; the input reads as it did. -/
def fontBuiltSpec : ChangeSpec := { name := "fontBuilt", fn := fun _ => fun
  | [d] => { results := [.lit (.bool true)], args := [d] }
  | _ => none }
def fontBuiltRow : OpenClaim := { program := "ytagokefbbdlpcaa", sum := "8db2d5c0a0879512336287b0ef17ff6e367a00f34c6fdda5d720e53602bede29", func := "widgetry/widgetrylaw07.FontBuilt", spec := "fontBuilt", unfollowed := true, recurses := true, apart := false }
def FontBuiltSaid : Prop := fontBuiltRow.holds Try.pinned (OpenSpec.ofChange fontBuiltSpec)

/-- ITS FALSE NEIGHBOUR: 'it returns false'. Refute it at one input. -/
def fontBuiltWrong : ChangeSpec := { name := "fontBuilt", fn := fun _ => fun
  | [d] => { results := [.lit (.bool false)], args := [d] }
  | _ => none }
def FontBuiltWrongFalsely : Prop := fontBuiltRow.holds Try.pinned (OpenSpec.ofChange fontBuiltWrong)

/- THE SECOND FORM. 'bulk': how many values and letters a reading holds, each counted each time it is reached (what is shared counts as often as it is met; a slice's spare places count too). A statement '..UptoSaid' is the law's where the arguments, and the package variables that the reading takes, are together of bulk at most 1048576: NARROWER than '..Said'. Prove '..Said' where nothing that the law and all that it calls make is longer than what came in: it says more and counts as full. Else prove '..UptoSaid'. A law counts once. -/
mutual
def uptoBulk {H : Type} : DataW H → Nat
  | .lit (.string bytes) => bytes.length + 1
  | .lit _ => 1
  | .nil => 1
  | .ptr d => uptoBulk d + 1
  | .slice elems spare => uptoBulkAll elems + uptoBulkAll spare + 1
  | .agg parts => uptoBulkAll parts + 1
  | .iface _ d => uptoBulk d + 1
  | .map entries => uptoBulkEntries entries + 1
  | .held _ => 1
def uptoBulkAll {H : Type} : List (DataW H) → Nat
  | [] => 0
  | d :: r => uptoBulk d + uptoBulkAll r
def uptoBulkEntries {H : Type} : List (Lit × DataW H) → Nat
  | [] => 0
  | x :: r => uptoBulkEntry x + uptoBulkEntries r
def uptoBulkEntry {H : Type} : Lit × DataW H → Nat
  | (.string bytes, d) => bytes.length + uptoBulk d + 1
  | (_, d) => uptoBulk d + 1
 end
def uptoSmall : (H : Type) → List (DataW H) → Bool := fun _ ds => decide (uptoBulkAll ds ≤ 1048576)
def OpenSpec.upto (s : _root_.Go.ChangeSpec) : _root_.Go.OpenSpec := { _root_.Go.OpenSpec.ofChange s with cond := some uptoSmall }

/-- 'widgetrylaw03.CharClasses', WHERE WHAT IT READS IS OF BULK AT MOST 1048576: true; the input reads as it did. -/
def charClassesUptoRow : OpenClaim := { program := "ytagokefbbdlpcaa", sum := "8db2d5c0a0879512336287b0ef17ff6e367a00f34c6fdda5d720e53602bede29", func := "widgetry/widgetrylaw03.CharClasses", spec := "charClasses", apart := false, narrowed := true }
def CharClassesUptoSaid : Prop := charClassesUptoRow.holds Try.pinned (OpenSpec.upto charClassesSpec)

/-- 'widgetrylaw03.CharBlocks', WHERE WHAT IT READS IS OF BULK AT MOST 1048576: true; the input reads as it did. -/
def charBlocksUptoRow : OpenClaim := { program := "ytagokefbbdlpcaa", sum := "8db2d5c0a0879512336287b0ef17ff6e367a00f34c6fdda5d720e53602bede29", func := "widgetry/widgetrylaw03.CharBlocks", spec := "charBlocks", apart := false, narrowed := true }
def CharBlocksUptoSaid : Prop := charBlocksUptoRow.holds Try.pinned (OpenSpec.upto charBlocksSpec)

/-- 'widgetrylaw03.CharMirrors', WHERE WHAT IT READS IS OF BULK AT MOST 1048576: true; the input reads as it did. -/
def charMirrorsUptoRow : OpenClaim := { program := "ytagokefbbdlpcaa", sum := "8db2d5c0a0879512336287b0ef17ff6e367a00f34c6fdda5d720e53602bede29", func := "widgetry/widgetrylaw03.CharMirrors", spec := "charMirrors", apart := false, narrowed := true }
def CharMirrorsUptoSaid : Prop := charMirrorsUptoRow.holds Try.pinned (OpenSpec.upto charMirrorsSpec)

/-- 'widgetrylaw07.FontScales', WHERE WHAT IT READS IS OF BULK AT MOST 1048576: true; the input reads as it did. -/
def fontScalesUptoRow : OpenClaim := { program := "ytagokefbbdlpcaa", sum := "8db2d5c0a0879512336287b0ef17ff6e367a00f34c6fdda5d720e53602bede29", func := "widgetry/widgetrylaw07.FontScales", spec := "fontScales", apart := false, narrowed := true }
def FontScalesUptoSaid : Prop := fontScalesUptoRow.holds Try.pinned (OpenSpec.upto fontScalesSpec)

/-- 'widgetrylaw07.FontRaw', WHERE WHAT IT READS IS OF BULK AT MOST 1048576: true; the input reads as it did. -/
def fontRawUptoRow : OpenClaim := { program := "ytagokefbbdlpcaa", sum := "8db2d5c0a0879512336287b0ef17ff6e367a00f34c6fdda5d720e53602bede29", func := "widgetry/widgetrylaw07.FontRaw", spec := "fontRaw", unfollowed := true, recurses := true, apart := false, narrowed := true }
def FontRawUptoSaid : Prop := fontRawUptoRow.holds Try.pinned (OpenSpec.upto fontRawSpec)

/-- 'widgetrylaw07.FontBuilt', WHERE WHAT IT READS IS OF BULK AT MOST 1048576: true; the input reads as it did. -/
def fontBuiltUptoRow : OpenClaim := { program := "ytagokefbbdlpcaa", sum := "8db2d5c0a0879512336287b0ef17ff6e367a00f34c6fdda5d720e53602bede29", func := "widgetry/widgetrylaw07.FontBuilt", spec := "fontBuilt", unfollowed := true, recurses := true, apart := false, narrowed := true }
def FontBuiltUptoSaid : Prop := fontBuiltUptoRow.holds Try.pinned (OpenSpec.upto fontBuiltSpec)

end Rows
end Go.Proofs.Ytagokefbbdlpcaa
