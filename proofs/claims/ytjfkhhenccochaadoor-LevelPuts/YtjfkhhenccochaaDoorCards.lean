/-
  DERIVED. GIVEN WITH THE SEED: THE CARDS: each row of YtjfkhhenccochaaDoorRows.lean that lists a variable, with what it lists TIED to the program's text (the seventh form; the later family's looks); each row that meets fmt, with fmt's text TOLD by the authors' own Lean function (tested against real Go, not proved from fmt's source: count such statements apart). THE CARD IS WHAT COUNTS. Prove the row's statement (the work); the ties are given (YtjfkhhenccochaaDoorTie.lean); close each card by the builder's one call (the guide's Derived/Test/ToyasCard.lean, 'card_holds'). Laid BY PROGRAM, IN A SANDBOX (cutbox-door.mjs). By AI agents, Wed Nov 11 2026. No macro, syntax, notation, axiom, sorry.
-/
import Derived.Test.YtjfkhhenccochaaDoorRows
import GoSem.ClaimSeven
namespace Go.Proofs.YtjfkhhenccochaaDoor
namespace Rows

/-- THE TIED CARD OF 'tenetlaw01.LevelOrders'. -/
def levelOrdersCard : Claim7 := { stood := { row := levelOrdersRow, standIns := [], harness := (true, "6d0cf40c818d4a4966a7912ad0ed6143e63c87d56d60ac35c1914771d37a7a37"), looks := false }, kinds := [], alts := [], laidByText := true, laidKinds := [.data, .data, .data], laidTests := true, laidLooks := .later }
def LevelOrdersCardSaid : Prop := Claim7.holds Tryd.pinned (.plain (OpenSpec.ofChange levelOrdersSpec)) levelOrdersCard

/-- THE TIED CARD OF 'tenetlaw01.LevelEvals'. -/
def levelEvalsCard : Claim7 := { stood := { row := levelEvalsRow, standIns := [], harness := (true, "6d0cf40c818d4a4966a7912ad0ed6143e63c87d56d60ac35c1914771d37a7a37"), looks := false }, kinds := [], alts := [], laidByText := true, laidKinds := [.data, .data, .data], laidTests := true, laidLooks := .later }
def LevelEvalsCardSaid : Prop := Claim7.holds Tryd.pinned (.plain (OpenSpec.ofChange levelEvalsSpec)) levelEvalsCard

/-- THE TIED CARD OF 'tenetlaw01.LevelTells'. -/
def levelTellsCard : Claim7 := { stood := { row := levelTellsRow, standIns := [], harness := (true, "6d0cf40c818d4a4966a7912ad0ed6143e63c87d56d60ac35c1914771d37a7a37"), looks := false }, kinds := [], alts := [], laidByText := true, laidKinds := [.data, .data, .data], laidTests := true, laidLooks := .later }
def LevelTellsCardSaid : Prop := Claim7.holds Tryd.pinned (.plain (OpenSpec.ofChange levelTellsSpec)) levelTellsCard

/-- THE TIED CARD OF 'tenetlaw01.LevelMakes'. -/
def levelMakesCard : Claim7 := { stood := { row := levelMakesRow, standIns := [], harness := (true, "6d0cf40c818d4a4966a7912ad0ed6143e63c87d56d60ac35c1914771d37a7a37"), looks := false }, kinds := [], alts := [], laidByText := true, laidKinds := [.data, .data, .data], laidTests := true, laidLooks := .later }
def LevelMakesCardSaid : Prop := Claim7.holds Tryd.pinned (.plain (OpenSpec.ofChange levelMakesSpec)) levelMakesCard

/-- THE TIED CARD OF 'tenetlaw01.LevelSubst'. -/
def levelSubstCard : Claim7 := { stood := { row := levelSubstRow, standIns := [], harness := (true, "6d0cf40c818d4a4966a7912ad0ed6143e63c87d56d60ac35c1914771d37a7a37"), looks := false }, kinds := [], alts := [], laidByText := true, laidKinds := [.data, .data, .data], laidTests := true, laidLooks := .later }
def LevelSubstCardSaid : Prop := Claim7.holds Tryd.pinned (.plain (OpenSpec.ofChange levelSubstSpec)) levelSubstCard

/-- THE TIED CARD OF 'tenetlaw01.LevelLattice'. -/
def levelLatticeCard : Claim7 := { stood := { row := levelLatticeRow, standIns := [], harness := (true, "6d0cf40c818d4a4966a7912ad0ed6143e63c87d56d60ac35c1914771d37a7a37"), looks := false }, kinds := [], alts := [], laidByText := true, laidKinds := [.data, .data, .data], laidTests := true, laidLooks := .later }
def LevelLatticeCardSaid : Prop := Claim7.holds Tryd.pinned (.plain (OpenSpec.ofChange levelLatticeSpec)) levelLatticeCard

/-- THE TIED CARD OF 'tenetlaw01.LevelPuts'. -/
def levelPutsCard : Claim7 := { stood := { row := levelPutsRow, standIns := [], harness := (true, "6d0cf40c818d4a4966a7912ad0ed6143e63c87d56d60ac35c1914771d37a7a37"), looks := false }, kinds := [], alts := [], laidByText := true, laidKinds := [.data, .data, .data], laidTests := true, laidLooks := .later }
def LevelPutsCardSaid : Prop := Claim7.holds Tryd.pinned (.plain (OpenSpec.ofChange levelPutsSpec)) levelPutsCard

/-- THE TIED CARD OF 'tenetlaw01.LevelForms'. -/
def levelFormsCard : Claim7 := { stood := { row := levelFormsRow, standIns := [], harness := (true, "6d0cf40c818d4a4966a7912ad0ed6143e63c87d56d60ac35c1914771d37a7a37"), looks := false }, kinds := [], alts := [], laidByText := true, laidKinds := [.data, .data, .data], laidTests := true, laidLooks := .later }
def LevelFormsCardSaid : Prop := Claim7.holds Tryd.pinned (.plain (OpenSpec.ofChange levelFormsSpec)) levelFormsCard

/-- THE SECOND FORM's CARD OF 'tenetlaw01.LevelOrders'. -/
def levelOrdersUptoCard : Claim7 := { stood := { row := levelOrdersUptoRow, standIns := [], harness := (true, "6d0cf40c818d4a4966a7912ad0ed6143e63c87d56d60ac35c1914771d37a7a37"), looks := false }, kinds := [], alts := [], laidByText := true, laidKinds := [.data, .data, .data], laidTests := true, laidLooks := .later }
def LevelOrdersUptoCardSaid : Prop := Claim7.holds Tryd.pinned (.plain (OpenSpec.upto levelOrdersSpec)) levelOrdersUptoCard

/-- THE SECOND FORM's CARD OF 'tenetlaw01.LevelEvals'. -/
def levelEvalsUptoCard : Claim7 := { stood := { row := levelEvalsUptoRow, standIns := [], harness := (true, "6d0cf40c818d4a4966a7912ad0ed6143e63c87d56d60ac35c1914771d37a7a37"), looks := false }, kinds := [], alts := [], laidByText := true, laidKinds := [.data, .data, .data], laidTests := true, laidLooks := .later }
def LevelEvalsUptoCardSaid : Prop := Claim7.holds Tryd.pinned (.plain (OpenSpec.upto levelEvalsSpec)) levelEvalsUptoCard

/-- THE SECOND FORM's CARD OF 'tenetlaw01.LevelTells'. -/
def levelTellsUptoCard : Claim7 := { stood := { row := levelTellsUptoRow, standIns := [], harness := (true, "6d0cf40c818d4a4966a7912ad0ed6143e63c87d56d60ac35c1914771d37a7a37"), looks := false }, kinds := [], alts := [], laidByText := true, laidKinds := [.data, .data, .data], laidTests := true, laidLooks := .later }
def LevelTellsUptoCardSaid : Prop := Claim7.holds Tryd.pinned (.plain (OpenSpec.upto levelTellsSpec)) levelTellsUptoCard

/-- THE SECOND FORM's CARD OF 'tenetlaw01.LevelMakes'. -/
def levelMakesUptoCard : Claim7 := { stood := { row := levelMakesUptoRow, standIns := [], harness := (true, "6d0cf40c818d4a4966a7912ad0ed6143e63c87d56d60ac35c1914771d37a7a37"), looks := false }, kinds := [], alts := [], laidByText := true, laidKinds := [.data, .data, .data], laidTests := true, laidLooks := .later }
def LevelMakesUptoCardSaid : Prop := Claim7.holds Tryd.pinned (.plain (OpenSpec.upto levelMakesSpec)) levelMakesUptoCard

/-- THE SECOND FORM's CARD OF 'tenetlaw01.LevelSubst'. -/
def levelSubstUptoCard : Claim7 := { stood := { row := levelSubstUptoRow, standIns := [], harness := (true, "6d0cf40c818d4a4966a7912ad0ed6143e63c87d56d60ac35c1914771d37a7a37"), looks := false }, kinds := [], alts := [], laidByText := true, laidKinds := [.data, .data, .data], laidTests := true, laidLooks := .later }
def LevelSubstUptoCardSaid : Prop := Claim7.holds Tryd.pinned (.plain (OpenSpec.upto levelSubstSpec)) levelSubstUptoCard

/-- THE SECOND FORM's CARD OF 'tenetlaw01.LevelLattice'. -/
def levelLatticeUptoCard : Claim7 := { stood := { row := levelLatticeUptoRow, standIns := [], harness := (true, "6d0cf40c818d4a4966a7912ad0ed6143e63c87d56d60ac35c1914771d37a7a37"), looks := false }, kinds := [], alts := [], laidByText := true, laidKinds := [.data, .data, .data], laidTests := true, laidLooks := .later }
def LevelLatticeUptoCardSaid : Prop := Claim7.holds Tryd.pinned (.plain (OpenSpec.upto levelLatticeSpec)) levelLatticeUptoCard

/-- THE SECOND FORM's CARD OF 'tenetlaw01.LevelPuts'. -/
def levelPutsUptoCard : Claim7 := { stood := { row := levelPutsUptoRow, standIns := [], harness := (true, "6d0cf40c818d4a4966a7912ad0ed6143e63c87d56d60ac35c1914771d37a7a37"), looks := false }, kinds := [], alts := [], laidByText := true, laidKinds := [.data, .data, .data], laidTests := true, laidLooks := .later }
def LevelPutsUptoCardSaid : Prop := Claim7.holds Tryd.pinned (.plain (OpenSpec.upto levelPutsSpec)) levelPutsUptoCard

/-- THE SECOND FORM's CARD OF 'tenetlaw01.LevelForms'. -/
def levelFormsUptoCard : Claim7 := { stood := { row := levelFormsUptoRow, standIns := [], harness := (true, "6d0cf40c818d4a4966a7912ad0ed6143e63c87d56d60ac35c1914771d37a7a37"), looks := false }, kinds := [], alts := [], laidByText := true, laidKinds := [.data, .data, .data], laidTests := true, laidLooks := .later }
def LevelFormsUptoCardSaid : Prop := Claim7.holds Tryd.pinned (.plain (OpenSpec.upto levelFormsSpec)) levelFormsUptoCard
end Rows
end Go.Proofs.YtjfkhhenccochaaDoor
