/-
  DERIVED. GIVEN WITH THE SEED: THE CARDS: each row of YtfbecfnagidioaaGreatDoorRows.lean that lists a variable, with what it lists TIED to the program's text (the seventh form; the later family's looks); each row that meets fmt, with fmt's text TOLD by the authors' own Lean function (tested against real Go, not proved from fmt's source: count such statements apart). THE CARD IS WHAT COUNTS. Prove the row's statement (the work); the ties are given (YtfbecfnagidioaaGreatDoorTie.lean); close each card by the builder's one call (the guide's Derived/Test/ToyasCard.lean, 'card_holds'). Laid BY PROGRAM, IN A SANDBOX (cutbox-door.mjs). By AI agents, Wed Nov 11 2026. No macro, syntax, notation, axiom, sorry.
-/
import Derived.Test.YtfbecfnagidioaaGreatDoorRows
import GoSem.ClaimSeven
namespace Go.Proofs.YtfbecfnagidioaaGreatDoor
namespace Rows

/-- THE TIED CARD OF 'tenetlaw03.TermFills'. -/
def termFillsCard : Claim7 := { stood := { row := termFillsRow, standIns := [], harness := (true, "1da1a55c04df154c9809be5f70a41bc4713dc9ebd7287be2a98ee664ac01c169"), looks := true }, kinds := [], alts := [], laidByText := true, laidKinds := [.data, .data, .data], laidTests := true, laidLooks := .later }
def TermFillsCardSaid : Prop := Claim7.holds Tryz.pinned (.plain (OpenSpec.ofChange termFillsSpec)) termFillsCard

/-- THE TIED CARD OF 'tenetlaw03.TermUndoes'. -/
def termUndoesCard : Claim7 := { stood := { row := termUndoesRow, standIns := [], harness := (true, "1da1a55c04df154c9809be5f70a41bc4713dc9ebd7287be2a98ee664ac01c169"), looks := true }, kinds := [], alts := [], laidByText := true, laidKinds := [.data, .data, .data], laidTests := true, laidLooks := .later }
def TermUndoesCardSaid : Prop := Claim7.holds Tryz.pinned (.plain (OpenSpec.ofChange termUndoesSpec)) termUndoesCard

/-- THE TIED CARD OF 'tenetlaw03.TermSets'. -/
def termSetsCard : Claim7 := { stood := { row := termSetsRow, standIns := [], harness := (true, "1da1a55c04df154c9809be5f70a41bc4713dc9ebd7287be2a98ee664ac01c169"), looks := true }, kinds := [], alts := [], laidByText := true, laidKinds := [.data, .data, .data], laidTests := true, laidLooks := .later }
def TermSetsCardSaid : Prop := Claim7.holds Tryz.pinned (.plain (OpenSpec.ofChange termSetsSpec)) termSetsCard

/-- THE TIED CARD OF 'tenetlaw03.TermLevels'. -/
def termLevelsCard : Claim7 := { stood := { row := termLevelsRow, standIns := [], harness := (true, "1da1a55c04df154c9809be5f70a41bc4713dc9ebd7287be2a98ee664ac01c169"), looks := true }, kinds := [], alts := [], laidByText := true, laidKinds := [.data, .data, .data], laidTests := true, laidLooks := .later }
def TermLevelsCardSaid : Prop := Claim7.holds Tryz.pinned (.plain (OpenSpec.ofChange termLevelsSpec)) termLevelsCard

/-- THE TIED CARD OF 'tenetlaw03.TermTexts'. -/
def termTextsCard : Claim7 := { stood := { row := termTextsRow, standIns := [], harness := (true, "1da1a55c04df154c9809be5f70a41bc4713dc9ebd7287be2a98ee664ac01c169"), looks := true }, kinds := [], alts := [], laidByText := true, laidKinds := [.data, .data, .data, .data, .sentinel, .sentinel, .pinned], laidTests := true, laidLooks := .later }
def TermTextsCardSaid : Prop := Claim7.holds Tryz.pinned (.plain (OpenSpec.ofChange termTextsSpec)) termTextsCard

/-- THE TIED CARD OF 'tenetlaw03.TermReads'. -/
def termReadsCard : Claim7 := { stood := { row := termReadsRow, standIns := [], harness := (true, "1da1a55c04df154c9809be5f70a41bc4713dc9ebd7287be2a98ee664ac01c169"), looks := true }, kinds := [], alts := [], laidByText := true, laidKinds := [.data, .data, .data, .data, .sentinel, .sentinel, .pinned], laidTests := true, laidLooks := .later }
def TermReadsCardSaid : Prop := Claim7.holds Tryz.pinned (.plain (OpenSpec.ofChange termReadsSpec)) termReadsCard

/-- THE SECOND FORM's CARD OF 'tenetlaw03.TermFills'. -/
def termFillsUptoCard : Claim7 := { stood := { row := termFillsUptoRow, standIns := [], harness := (true, "1da1a55c04df154c9809be5f70a41bc4713dc9ebd7287be2a98ee664ac01c169"), looks := true }, kinds := [], alts := [], laidByText := true, laidKinds := [.data, .data, .data], laidTests := true, laidLooks := .later }
def TermFillsUptoCardSaid : Prop := Claim7.holds Tryz.pinned (.plain (OpenSpec.upto termFillsSpec)) termFillsUptoCard

/-- THE SECOND FORM's CARD OF 'tenetlaw03.TermUndoes'. -/
def termUndoesUptoCard : Claim7 := { stood := { row := termUndoesUptoRow, standIns := [], harness := (true, "1da1a55c04df154c9809be5f70a41bc4713dc9ebd7287be2a98ee664ac01c169"), looks := true }, kinds := [], alts := [], laidByText := true, laidKinds := [.data, .data, .data], laidTests := true, laidLooks := .later }
def TermUndoesUptoCardSaid : Prop := Claim7.holds Tryz.pinned (.plain (OpenSpec.upto termUndoesSpec)) termUndoesUptoCard

/-- THE SECOND FORM's CARD OF 'tenetlaw03.TermSets'. -/
def termSetsUptoCard : Claim7 := { stood := { row := termSetsUptoRow, standIns := [], harness := (true, "1da1a55c04df154c9809be5f70a41bc4713dc9ebd7287be2a98ee664ac01c169"), looks := true }, kinds := [], alts := [], laidByText := true, laidKinds := [.data, .data, .data], laidTests := true, laidLooks := .later }
def TermSetsUptoCardSaid : Prop := Claim7.holds Tryz.pinned (.plain (OpenSpec.upto termSetsSpec)) termSetsUptoCard

/-- THE SECOND FORM's CARD OF 'tenetlaw03.TermLevels'. -/
def termLevelsUptoCard : Claim7 := { stood := { row := termLevelsUptoRow, standIns := [], harness := (true, "1da1a55c04df154c9809be5f70a41bc4713dc9ebd7287be2a98ee664ac01c169"), looks := true }, kinds := [], alts := [], laidByText := true, laidKinds := [.data, .data, .data], laidTests := true, laidLooks := .later }
def TermLevelsUptoCardSaid : Prop := Claim7.holds Tryz.pinned (.plain (OpenSpec.upto termLevelsSpec)) termLevelsUptoCard

/-- THE SECOND FORM's CARD OF 'tenetlaw03.TermTexts'. -/
def termTextsUptoCard : Claim7 := { stood := { row := termTextsUptoRow, standIns := [], harness := (true, "1da1a55c04df154c9809be5f70a41bc4713dc9ebd7287be2a98ee664ac01c169"), looks := true }, kinds := [], alts := [], laidByText := true, laidKinds := [.data, .data, .data, .data, .sentinel, .sentinel, .pinned], laidTests := true, laidLooks := .later }
def TermTextsUptoCardSaid : Prop := Claim7.holds Tryz.pinned (.plain (OpenSpec.upto termTextsSpec)) termTextsUptoCard

/-- THE SECOND FORM's CARD OF 'tenetlaw03.TermReads'. -/
def termReadsUptoCard : Claim7 := { stood := { row := termReadsUptoRow, standIns := [], harness := (true, "1da1a55c04df154c9809be5f70a41bc4713dc9ebd7287be2a98ee664ac01c169"), looks := true }, kinds := [], alts := [], laidByText := true, laidKinds := [.data, .data, .data, .data, .sentinel, .sentinel, .pinned], laidTests := true, laidLooks := .later }
def TermReadsUptoCardSaid : Prop := Claim7.holds Tryz.pinned (.plain (OpenSpec.upto termReadsSpec)) termReadsUptoCard
end Rows
end Go.Proofs.YtfbecfnagidioaaGreatDoor
