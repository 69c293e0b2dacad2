/-
  DERIVED. GIVEN WITH THE SEED: THE CARDS: each row of YtcpdnjehmnbheaaDoorRows.lean that lists a variable, with what it lists TIED to the program's text (the seventh form; the later family's looks); each row that meets fmt, with fmt's text TOLD by the authors' own Lean function (tested against real Go, not proved from fmt's source: count such statements apart). THE CARD IS WHAT COUNTS. Prove the row's statement (the work); the ties are given (YtcpdnjehmnbheaaDoorTie.lean); close each card by the builder's one call (the guide's Derived/Test/ToyasCard.lean, 'card_holds'). Laid BY PROGRAM, IN A SANDBOX (cutbox-door.mjs). By AI agents, Wed Nov 11 2026. No macro, syntax, notation, axiom, sorry.
-/
import Derived.Test.YtcpdnjehmnbheaaDoorRows
import GoSem.ClaimSeven
namespace Go.Proofs.YtcpdnjehmnbheaaDoor
namespace Rows

/-- THE TIED CARD OF 'tenetlaw11.LexTokens'. -/
def lexTokensCard : Claim7 := { stood := { row := lexTokensRow, standIns := [], harness := (true, "08c15da290f9cc06b03be33f3c0f64b24333254c91ea76e25e95445fc3a9376c"), looks := false }, kinds := [], alts := [], laidByText := true, laidKinds := [.listed, .data], laidTests := true, laidLooks := .later }
def LexTokensCardSaid : Prop := Claim7.holds Tryd.pinned (.plain (OpenSpec.ofChange lexTokensSpec)) lexTokensCard

/-- THE TIED CARD OF 'tenetlaw11.LexStands'. -/
def lexStandsCard : Claim7 := { stood := { row := lexStandsRow, standIns := [], harness := (true, "08c15da290f9cc06b03be33f3c0f64b24333254c91ea76e25e95445fc3a9376c"), looks := false }, kinds := [], alts := [], laidByText := true, laidKinds := [.listed, .data], laidTests := true, laidLooks := .later }
def LexStandsCardSaid : Prop := Claim7.holds Tryd.pinned (.plain (OpenSpec.ofChange lexStandsSpec)) lexStandsCard

/-- THE TIED CARD OF 'tenetlaw11.LexParts'. -/
def lexPartsCard : Claim7 := { stood := { row := lexPartsRow, standIns := [], harness := (true, "08c15da290f9cc06b03be33f3c0f64b24333254c91ea76e25e95445fc3a9376c"), looks := false }, kinds := [], alts := [], laidByText := true, laidKinds := [.listed, .data], laidTests := true, laidLooks := .later }
def LexPartsCardSaid : Prop := Claim7.holds Tryd.pinned (.plain (OpenSpec.ofChange lexPartsSpec)) lexPartsCard

/-- THE TIED CARD OF 'tenetlaw11.LexRights'. -/
def lexRightsCard : Claim7 := { stood := { row := lexRightsRow, standIns := [], harness := (true, "08c15da290f9cc06b03be33f3c0f64b24333254c91ea76e25e95445fc3a9376c"), looks := false }, kinds := [], alts := [], laidByText := true, laidKinds := [.listed, .data], laidTests := true, laidLooks := .later }
def LexRightsCardSaid : Prop := Claim7.holds Tryd.pinned (.plain (OpenSpec.ofChange lexRightsSpec)) lexRightsCard

/-- THE TIED CARD OF 'tenetlaw11.LexStrips'. -/
def lexStripsCard : Claim7 := { stood := { row := lexStripsRow, standIns := [], harness := (true, "08c15da290f9cc06b03be33f3c0f64b24333254c91ea76e25e95445fc3a9376c"), looks := false }, kinds := [], alts := [], laidByText := true, laidKinds := [.listed, .data], laidTests := true, laidLooks := .later }
def LexStripsCardSaid : Prop := Claim7.holds Tryd.pinned (.plain (OpenSpec.ofChange lexStripsSpec)) lexStripsCard

/-- THE TIED CARD OF 'tenetlaw11.LexJoins'. -/
def lexJoinsCard : Claim7 := { stood := { row := lexJoinsRow, standIns := [], harness := (true, "08c15da290f9cc06b03be33f3c0f64b24333254c91ea76e25e95445fc3a9376c"), looks := false }, kinds := [], alts := [], laidByText := true, laidKinds := [.listed, .data], laidTests := true, laidLooks := .later }
def LexJoinsCardSaid : Prop := Claim7.holds Tryd.pinned (.plain (OpenSpec.ofChange lexJoinsSpec)) lexJoinsCard

/-- THE TIED CARD OF 'tenetlaw11.LexPlaces'. -/
def lexPlacesCard : Claim7 := { stood := { row := lexPlacesRow, standIns := [], harness := (true, "08c15da290f9cc06b03be33f3c0f64b24333254c91ea76e25e95445fc3a9376c"), looks := false }, kinds := [], alts := [], laidByText := true, laidKinds := [.listed, .data], laidTests := true, laidLooks := .later }
def LexPlacesCardSaid : Prop := Claim7.holds Tryd.pinned (.plain (OpenSpec.ofChange lexPlacesSpec)) lexPlacesCard

/-- THE SECOND FORM's CARD OF 'tenetlaw11.LexTokens'. -/
def lexTokensUptoCard : Claim7 := { stood := { row := lexTokensUptoRow, standIns := [], harness := (true, "08c15da290f9cc06b03be33f3c0f64b24333254c91ea76e25e95445fc3a9376c"), looks := false }, kinds := [], alts := [], laidByText := true, laidKinds := [.listed, .data], laidTests := true, laidLooks := .later }
def LexTokensUptoCardSaid : Prop := Claim7.holds Tryd.pinned (.plain (OpenSpec.upto lexTokensSpec)) lexTokensUptoCard

/-- THE SECOND FORM's CARD OF 'tenetlaw11.LexStands'. -/
def lexStandsUptoCard : Claim7 := { stood := { row := lexStandsUptoRow, standIns := [], harness := (true, "08c15da290f9cc06b03be33f3c0f64b24333254c91ea76e25e95445fc3a9376c"), looks := false }, kinds := [], alts := [], laidByText := true, laidKinds := [.listed, .data], laidTests := true, laidLooks := .later }
def LexStandsUptoCardSaid : Prop := Claim7.holds Tryd.pinned (.plain (OpenSpec.upto lexStandsSpec)) lexStandsUptoCard

/-- THE SECOND FORM's CARD OF 'tenetlaw11.LexParts'. -/
def lexPartsUptoCard : Claim7 := { stood := { row := lexPartsUptoRow, standIns := [], harness := (true, "08c15da290f9cc06b03be33f3c0f64b24333254c91ea76e25e95445fc3a9376c"), looks := false }, kinds := [], alts := [], laidByText := true, laidKinds := [.listed, .data], laidTests := true, laidLooks := .later }
def LexPartsUptoCardSaid : Prop := Claim7.holds Tryd.pinned (.plain (OpenSpec.upto lexPartsSpec)) lexPartsUptoCard

/-- THE SECOND FORM's CARD OF 'tenetlaw11.LexRights'. -/
def lexRightsUptoCard : Claim7 := { stood := { row := lexRightsUptoRow, standIns := [], harness := (true, "08c15da290f9cc06b03be33f3c0f64b24333254c91ea76e25e95445fc3a9376c"), looks := false }, kinds := [], alts := [], laidByText := true, laidKinds := [.listed, .data], laidTests := true, laidLooks := .later }
def LexRightsUptoCardSaid : Prop := Claim7.holds Tryd.pinned (.plain (OpenSpec.upto lexRightsSpec)) lexRightsUptoCard

/-- THE SECOND FORM's CARD OF 'tenetlaw11.LexStrips'. -/
def lexStripsUptoCard : Claim7 := { stood := { row := lexStripsUptoRow, standIns := [], harness := (true, "08c15da290f9cc06b03be33f3c0f64b24333254c91ea76e25e95445fc3a9376c"), looks := false }, kinds := [], alts := [], laidByText := true, laidKinds := [.listed, .data], laidTests := true, laidLooks := .later }
def LexStripsUptoCardSaid : Prop := Claim7.holds Tryd.pinned (.plain (OpenSpec.upto lexStripsSpec)) lexStripsUptoCard

/-- THE SECOND FORM's CARD OF 'tenetlaw11.LexJoins'. -/
def lexJoinsUptoCard : Claim7 := { stood := { row := lexJoinsUptoRow, standIns := [], harness := (true, "08c15da290f9cc06b03be33f3c0f64b24333254c91ea76e25e95445fc3a9376c"), looks := false }, kinds := [], alts := [], laidByText := true, laidKinds := [.listed, .data], laidTests := true, laidLooks := .later }
def LexJoinsUptoCardSaid : Prop := Claim7.holds Tryd.pinned (.plain (OpenSpec.upto lexJoinsSpec)) lexJoinsUptoCard

/-- THE SECOND FORM's CARD OF 'tenetlaw11.LexPlaces'. -/
def lexPlacesUptoCard : Claim7 := { stood := { row := lexPlacesUptoRow, standIns := [], harness := (true, "08c15da290f9cc06b03be33f3c0f64b24333254c91ea76e25e95445fc3a9376c"), looks := false }, kinds := [], alts := [], laidByText := true, laidKinds := [.listed, .data], laidTests := true, laidLooks := .later }
def LexPlacesUptoCardSaid : Prop := Claim7.holds Tryd.pinned (.plain (OpenSpec.upto lexPlacesSpec)) lexPlacesUptoCard
end Rows
end Go.Proofs.YtcpdnjehmnbheaaDoor
