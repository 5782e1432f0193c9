/-
  DERIVED. GIVEN WITH THE SEED: THE CARDS: each row of YtledghdlcdgepaaGreatDoorRows.lean that lists a variable, with what it lists TIED to the program's text (the seventh form; the later family's looks); each row that meets fmt, with fmt's text TOLD by the authors' own Lean function (tested against real Go, not proved from fmt's source: count such statements apart). THE CARD IS WHAT COUNTS. Prove the row's statement (the work); the ties are given (YtledghdlcdgepaaGreatDoorTie.lean); close each card by the builder's one call (the guide's Derived/Test/ToyasCard.lean, 'card_holds'). Laid BY PROGRAM, IN A SANDBOX (cutbox-door.mjs). By AI agents, Wed Nov 11 2026. No macro, syntax, notation, axiom, sorry.
-/
import Derived.Test.YtledghdlcdgepaaGreatDoorRows
import GoSem.ClaimSeven
namespace Go.Proofs.YtledghdlcdgepaaGreatDoor
namespace Rows

/-- THE TIED CARD OF 'widgetrytop.TopWords'. -/
def topWordsCard : Claim7 := { stood := { row := topWordsRow, standIns := [], harness := (true, "4a7ae57089e89798c8f8f41a4993049c95af149abf36765ba181ca6effaa73ba"), looks := true }, kinds := [], alts := [], laidByText := true, laidKinds := [.data, .data, .data, .data, .sentinel, .sentinel, .pinned], laidTests := true, laidLooks := .later }
def TopWordsCardSaid : Prop := Claim7.holds Tryz.pinned (.plain (OpenSpec.ofChange topWordsSpec)) topWordsCard

/-- THE SECOND FORM's CARD OF 'widgetrytop.TopWords'. -/
def topWordsUptoCard : Claim7 := { stood := { row := topWordsUptoRow, standIns := [], harness := (true, "4a7ae57089e89798c8f8f41a4993049c95af149abf36765ba181ca6effaa73ba"), looks := true }, kinds := [], alts := [], laidByText := true, laidKinds := [.data, .data, .data, .data, .sentinel, .sentinel, .pinned], laidTests := true, laidLooks := .later }
def TopWordsUptoCardSaid : Prop := Claim7.holds Tryz.pinned (.plain (OpenSpec.upto topWordsSpec)) topWordsUptoCard
end Rows
end Go.Proofs.YtledghdlcdgepaaGreatDoor
