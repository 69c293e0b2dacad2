/-
  DERIVED. GIVEN WITH THE SEED: THE CARDS: each row of YtfbecfnagidioaaDoorRows.lean that lists a variable, with what it lists TIED to the program's text (the seventh form; the later family's looks); each row that meets fmt, with fmt's text TOLD by the authors' own Lean function (tested against real Go, not proved from fmt's source: count such statements apart). THE CARD IS WHAT COUNTS. Prove the row's statement (the work); the ties are given (YtfbecfnagidioaaDoorTie.lean); close each card by the builder's one call (the guide's Derived/Test/ToyasCard.lean, 'card_holds'). Laid BY PROGRAM, IN A SANDBOX (cutbox-door.mjs). By AI agents, Wed Nov 11 2026. No macro, syntax, notation, axiom, sorry.
-/
import Derived.Test.YtfbecfnagidioaaDoorRows
import GoSem.ClaimSeven
namespace Go.Proofs.YtfbecfnagidioaaDoor
namespace Rows

/-- THE TIED CARD OF 'tenetlaw03.TermForms'. -/
def termFormsCard : Claim7 := { stood := { row := termFormsRow, standIns := [], harness := (true, "4f2f8365065d56ad86a573aa3f3df150c6308306ba4d869141c3166ccc1655fa"), looks := false }, kinds := [], alts := [], laidByText := true, laidKinds := [.data, .data, .data], laidTests := true, laidLooks := .later }
def TermFormsCardSaid : Prop := Claim7.holds Tryd.pinned (.plain (OpenSpec.ofChange termFormsSpec)) termFormsCard

/-- THE TIED CARD OF 'tenetlaw03.TermCompares'. -/
def termComparesCard : Claim7 := { stood := { row := termComparesRow, standIns := [], harness := (true, "4f2f8365065d56ad86a573aa3f3df150c6308306ba4d869141c3166ccc1655fa"), looks := false }, kinds := [], alts := [], laidByText := true, laidKinds := [.data, .data, .data], laidTests := true, laidLooks := .later }
def TermComparesCardSaid : Prop := Claim7.holds Tryd.pinned (.plain (OpenSpec.ofChange termComparesSpec)) termComparesCard

/-- THE TIED CARD OF 'tenetlaw03.TermShifts'. -/
def termShiftsCard : Claim7 := { stood := { row := termShiftsRow, standIns := [], harness := (true, "4f2f8365065d56ad86a573aa3f3df150c6308306ba4d869141c3166ccc1655fa"), looks := false }, kinds := [], alts := [], laidByText := true, laidKinds := [.data, .data, .data], laidTests := true, laidLooks := .later }
def TermShiftsCardSaid : Prop := Claim7.holds Tryd.pinned (.plain (OpenSpec.ofChange termShiftsSpec)) termShiftsCard

/-- THE TIED CARD OF 'tenetlaw03.TermMoves'. -/
def termMovesCard : Claim7 := { stood := { row := termMovesRow, standIns := [], harness := (true, "4f2f8365065d56ad86a573aa3f3df150c6308306ba4d869141c3166ccc1655fa"), looks := false }, kinds := [], alts := [], laidByText := true, laidKinds := [.data, .data, .data], laidTests := true, laidLooks := .later }
def TermMovesCardSaid : Prop := Claim7.holds Tryd.pinned (.plain (OpenSpec.ofChange termMovesSpec)) termMovesCard

/-- THE TIED CARD OF 'tenetlaw03.TermBinds'. -/
def termBindsCard : Claim7 := { stood := { row := termBindsRow, standIns := [], harness := (true, "4f2f8365065d56ad86a573aa3f3df150c6308306ba4d869141c3166ccc1655fa"), looks := false }, kinds := [], alts := [], laidByText := true, laidKinds := [.data, .data, .data], laidTests := true, laidLooks := .later }
def TermBindsCardSaid : Prop := Claim7.holds Tryd.pinned (.plain (OpenSpec.ofChange termBindsSpec)) termBindsCard

/-- THE TIED CARD OF 'tenetlaw03.TermTwice'. -/
def termTwiceCard : Claim7 := { stood := { row := termTwiceRow, standIns := [], harness := (true, "4f2f8365065d56ad86a573aa3f3df150c6308306ba4d869141c3166ccc1655fa"), looks := false }, kinds := [], alts := [], laidByText := true, laidKinds := [.data, .data, .data], laidTests := true, laidLooks := .later }
def TermTwiceCardSaid : Prop := Claim7.holds Tryd.pinned (.plain (OpenSpec.ofChange termTwiceSpec)) termTwiceCard

/-- THE TIED CARD OF 'tenetlaw03.TermPaths'. -/
def termPathsCard : Claim7 := { stood := { row := termPathsRow, standIns := [], harness := (true, "4f2f8365065d56ad86a573aa3f3df150c6308306ba4d869141c3166ccc1655fa"), looks := false }, kinds := [], alts := [], laidByText := true, laidKinds := [.data, .data, .data], laidTests := true, laidLooks := .later }
def TermPathsCardSaid : Prop := Claim7.holds Tryd.pinned (.plain (OpenSpec.ofChange termPathsSpec)) termPathsCard

/-- THE TIED CARD OF 'tenetlaw03.TermStands'. -/
def termStandsCard : Claim7 := { stood := { row := termStandsRow, standIns := [], harness := (true, "4f2f8365065d56ad86a573aa3f3df150c6308306ba4d869141c3166ccc1655fa"), looks := false }, kinds := [], alts := [], laidByText := true, laidKinds := [.data, .data, .data], laidTests := true, laidLooks := .later }
def TermStandsCardSaid : Prop := Claim7.holds Tryd.pinned (.plain (OpenSpec.ofChange termStandsSpec)) termStandsCard

/-- THE TIED CARD OF 'tenetlaw03.TermAlikes'. -/
def termAlikesCard : Claim7 := { stood := { row := termAlikesRow, standIns := [], harness := (true, "4f2f8365065d56ad86a573aa3f3df150c6308306ba4d869141c3166ccc1655fa"), looks := false }, kinds := [], alts := [], laidByText := true, laidKinds := [.data, .data, .data], laidTests := true, laidLooks := .later }
def TermAlikesCardSaid : Prop := Claim7.holds Tryd.pinned (.plain (OpenSpec.ofChange termAlikesSpec)) termAlikesCard

/-- THE SECOND FORM's CARD OF 'tenetlaw03.TermForms'. -/
def termFormsUptoCard : Claim7 := { stood := { row := termFormsUptoRow, standIns := [], harness := (true, "4f2f8365065d56ad86a573aa3f3df150c6308306ba4d869141c3166ccc1655fa"), looks := false }, kinds := [], alts := [], laidByText := true, laidKinds := [.data, .data, .data], laidTests := true, laidLooks := .later }
def TermFormsUptoCardSaid : Prop := Claim7.holds Tryd.pinned (.plain (OpenSpec.upto termFormsSpec)) termFormsUptoCard

/-- THE SECOND FORM's CARD OF 'tenetlaw03.TermCompares'. -/
def termComparesUptoCard : Claim7 := { stood := { row := termComparesUptoRow, standIns := [], harness := (true, "4f2f8365065d56ad86a573aa3f3df150c6308306ba4d869141c3166ccc1655fa"), looks := false }, kinds := [], alts := [], laidByText := true, laidKinds := [.data, .data, .data], laidTests := true, laidLooks := .later }
def TermComparesUptoCardSaid : Prop := Claim7.holds Tryd.pinned (.plain (OpenSpec.upto termComparesSpec)) termComparesUptoCard

/-- THE SECOND FORM's CARD OF 'tenetlaw03.TermShifts'. -/
def termShiftsUptoCard : Claim7 := { stood := { row := termShiftsUptoRow, standIns := [], harness := (true, "4f2f8365065d56ad86a573aa3f3df150c6308306ba4d869141c3166ccc1655fa"), looks := false }, kinds := [], alts := [], laidByText := true, laidKinds := [.data, .data, .data], laidTests := true, laidLooks := .later }
def TermShiftsUptoCardSaid : Prop := Claim7.holds Tryd.pinned (.plain (OpenSpec.upto termShiftsSpec)) termShiftsUptoCard

/-- THE SECOND FORM's CARD OF 'tenetlaw03.TermMoves'. -/
def termMovesUptoCard : Claim7 := { stood := { row := termMovesUptoRow, standIns := [], harness := (true, "4f2f8365065d56ad86a573aa3f3df150c6308306ba4d869141c3166ccc1655fa"), looks := false }, kinds := [], alts := [], laidByText := true, laidKinds := [.data, .data, .data], laidTests := true, laidLooks := .later }
def TermMovesUptoCardSaid : Prop := Claim7.holds Tryd.pinned (.plain (OpenSpec.upto termMovesSpec)) termMovesUptoCard

/-- THE SECOND FORM's CARD OF 'tenetlaw03.TermBinds'. -/
def termBindsUptoCard : Claim7 := { stood := { row := termBindsUptoRow, standIns := [], harness := (true, "4f2f8365065d56ad86a573aa3f3df150c6308306ba4d869141c3166ccc1655fa"), looks := false }, kinds := [], alts := [], laidByText := true, laidKinds := [.data, .data, .data], laidTests := true, laidLooks := .later }
def TermBindsUptoCardSaid : Prop := Claim7.holds Tryd.pinned (.plain (OpenSpec.upto termBindsSpec)) termBindsUptoCard

/-- THE SECOND FORM's CARD OF 'tenetlaw03.TermTwice'. -/
def termTwiceUptoCard : Claim7 := { stood := { row := termTwiceUptoRow, standIns := [], harness := (true, "4f2f8365065d56ad86a573aa3f3df150c6308306ba4d869141c3166ccc1655fa"), looks := false }, kinds := [], alts := [], laidByText := true, laidKinds := [.data, .data, .data], laidTests := true, laidLooks := .later }
def TermTwiceUptoCardSaid : Prop := Claim7.holds Tryd.pinned (.plain (OpenSpec.upto termTwiceSpec)) termTwiceUptoCard

/-- THE SECOND FORM's CARD OF 'tenetlaw03.TermPaths'. -/
def termPathsUptoCard : Claim7 := { stood := { row := termPathsUptoRow, standIns := [], harness := (true, "4f2f8365065d56ad86a573aa3f3df150c6308306ba4d869141c3166ccc1655fa"), looks := false }, kinds := [], alts := [], laidByText := true, laidKinds := [.data, .data, .data], laidTests := true, laidLooks := .later }
def TermPathsUptoCardSaid : Prop := Claim7.holds Tryd.pinned (.plain (OpenSpec.upto termPathsSpec)) termPathsUptoCard

/-- THE SECOND FORM's CARD OF 'tenetlaw03.TermStands'. -/
def termStandsUptoCard : Claim7 := { stood := { row := termStandsUptoRow, standIns := [], harness := (true, "4f2f8365065d56ad86a573aa3f3df150c6308306ba4d869141c3166ccc1655fa"), looks := false }, kinds := [], alts := [], laidByText := true, laidKinds := [.data, .data, .data], laidTests := true, laidLooks := .later }
def TermStandsUptoCardSaid : Prop := Claim7.holds Tryd.pinned (.plain (OpenSpec.upto termStandsSpec)) termStandsUptoCard

/-- THE SECOND FORM's CARD OF 'tenetlaw03.TermAlikes'. -/
def termAlikesUptoCard : Claim7 := { stood := { row := termAlikesUptoRow, standIns := [], harness := (true, "4f2f8365065d56ad86a573aa3f3df150c6308306ba4d869141c3166ccc1655fa"), looks := false }, kinds := [], alts := [], laidByText := true, laidKinds := [.data, .data, .data], laidTests := true, laidLooks := .later }
def TermAlikesUptoCardSaid : Prop := Claim7.holds Tryd.pinned (.plain (OpenSpec.upto termAlikesSpec)) termAlikesUptoCard
end Rows
end Go.Proofs.YtfbecfnagidioaaDoor
