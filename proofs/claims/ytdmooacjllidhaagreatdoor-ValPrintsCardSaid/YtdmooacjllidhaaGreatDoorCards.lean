/-
  DERIVED. GIVEN WITH THE SEED: THE CARDS: each row of YtdmooacjllidhaaGreatDoorRows.lean that lists a variable, with what it lists TIED to the program's text (the seventh form; the later family's looks); each row that meets fmt, with fmt's text TOLD by the authors' own Lean function (tested against real Go, not proved from fmt's source: count such statements apart). THE CARD IS WHAT COUNTS. Prove the row's statement (the work); the ties are given (YtdmooacjllidhaaGreatDoorTie.lean); close each card by the builder's one call (the guide's Derived/Test/ToyasCard.lean, 'card_holds'). Laid BY PROGRAM, IN A SANDBOX (cutbox-door.mjs). By AI agents, Wed Nov 11 2026. No macro, syntax, notation, axiom, sorry.
-/
import Derived.Test.YtdmooacjllidhaaGreatDoorRows
import GoSem.ClaimSeven
namespace Go.Proofs.YtdmooacjllidhaaGreatDoor
namespace Rows

/-- THE TIED CARD OF 'umlautlaw8.CollWrong'. -/
def collWrongCard : Claim7 := { stood := { row := collWrongRow, standIns := [], harness := (true, "25f2b302c7f03a4d7fb69a10b5ec03943510664cf24fcc79f0532698449b74e6"), looks := true }, kinds := [], alts := [], laidByText := true, laidKinds := [.data, .pinned], laidTests := true, laidLooks := .later }
def CollWrongCardSaid : Prop := Claim7.holds Tryz.pinned (.plain (OpenSpec.ofChange collWrongSpec)) collWrongCard

/-- THE TIED CARD OF 'umlautlaw10.RegMany'. -/
def regManyCard : Claim7 := { stood := { row := regManyRow, standIns := [], harness := (true, "25f2b302c7f03a4d7fb69a10b5ec03943510664cf24fcc79f0532698449b74e6"), looks := true }, kinds := [], alts := [], laidByText := true, laidKinds := [.data, .pinned], laidTests := true, laidLooks := .later }
def RegManyCardSaid : Prop := Claim7.holds Tryz.pinned (.plain (OpenSpec.ofChange regManySpec)) regManyCard

/-- THE TIED CARD OF 'umlautlaw10.RegPlays'. -/
def regPlaysCard : Claim7 := { stood := { row := regPlaysRow, standIns := [], harness := (true, "25f2b302c7f03a4d7fb69a10b5ec03943510664cf24fcc79f0532698449b74e6"), looks := true }, kinds := [], alts := [], laidByText := true, laidKinds := [.data, .pinned], laidTests := true, laidLooks := .later }
def RegPlaysCardSaid : Prop := Claim7.holds Tryz.pinned (.plain (OpenSpec.ofChange regPlaysSpec)) regPlaysCard

/-- THE TIED CARD OF 'umlautlaw11.ValMakes'. -/
def valMakesCard : Claim7 := { stood := { row := valMakesRow, standIns := [], harness := (true, "25f2b302c7f03a4d7fb69a10b5ec03943510664cf24fcc79f0532698449b74e6"), looks := true }, kinds := [], alts := [], laidByText := true, laidKinds := [.data, .data, .data, .data, .pinned], laidTests := true, laidLooks := .later }
def ValMakesCardSaid : Prop := Claim7.holds Tryz.pinned (.plain (OpenSpec.ofChange valMakesSpec)) valMakesCard

/-- THE TIED CARD OF 'umlautlaw11.ValCompares'. -/
def valComparesCard : Claim7 := { stood := { row := valComparesRow, standIns := [], harness := (true, "25f2b302c7f03a4d7fb69a10b5ec03943510664cf24fcc79f0532698449b74e6"), looks := true }, kinds := [], alts := [], laidByText := true, laidKinds := [.data, .data, .data, .data, .pinned], laidTests := true, laidLooks := .later }
def ValComparesCardSaid : Prop := Claim7.holds Tryz.pinned (.plain (OpenSpec.ofChange valComparesSpec)) valComparesCard

/-- THE TIED CARD OF 'umlautlaw11.ValChains'. -/
def valChainsCard : Claim7 := { stood := { row := valChainsRow, standIns := [], harness := (true, "25f2b302c7f03a4d7fb69a10b5ec03943510664cf24fcc79f0532698449b74e6"), looks := true }, kinds := [], alts := [], laidByText := true, laidKinds := [.data, .data, .data, .data, .pinned], laidTests := true, laidLooks := .later }
def ValChainsCardSaid : Prop := Claim7.holds Tryz.pinned (.plain (OpenSpec.ofChange valChainsSpec)) valChainsCard

/-- THE TIED CARD OF 'umlautlaw19.StoreNumbers'. -/
def storeNumbersCard : Claim7 := { stood := { row := storeNumbersRow, standIns := [], harness := (true, "25f2b302c7f03a4d7fb69a10b5ec03943510664cf24fcc79f0532698449b74e6"), looks := true }, kinds := [], alts := [], laidByText := true, laidKinds := [.data, .pinned], laidTests := true, laidLooks := .later }
def StoreNumbersCardSaid : Prop := Claim7.holds Tryz.pinned (.plain (OpenSpec.ofChange storeNumbersSpec)) storeNumbersCard

/-- THE TIED CARD OF 'umlautlaw19.StoreSwaps'. -/
def storeSwapsCard : Claim7 := { stood := { row := storeSwapsRow, standIns := [], harness := (true, "25f2b302c7f03a4d7fb69a10b5ec03943510664cf24fcc79f0532698449b74e6"), looks := true }, kinds := [], alts := [], laidByText := true, laidKinds := [.data, .pinned], laidTests := true, laidLooks := .later }
def StoreSwapsCardSaid : Prop := Claim7.holds Tryz.pinned (.plain (OpenSpec.ofChange storeSwapsSpec)) storeSwapsCard

/-- THE TIED CARD OF 'umlautlaw19.StoreNames'. -/
def storeNamesCard : Claim7 := { stood := { row := storeNamesRow, standIns := [], harness := (true, "25f2b302c7f03a4d7fb69a10b5ec03943510664cf24fcc79f0532698449b74e6"), looks := true }, kinds := [], alts := [], laidByText := true, laidKinds := [.data, .pinned], laidTests := true, laidLooks := .later }
def StoreNamesCardSaid : Prop := Claim7.holds Tryz.pinned (.plain (OpenSpec.ofChange storeNamesSpec)) storeNamesCard

/-- THE TIED CARD OF 'umlautlaw11.ValPrints'. -/
def valPrintsCard : Claim7 := { stood := { row := valPrintsRow, standIns := [], harness := (true, "25f2b302c7f03a4d7fb69a10b5ec03943510664cf24fcc79f0532698449b74e6"), looks := true }, kinds := [], alts := [], laidByText := true, laidKinds := [.data, .data, .data, .data, .sentinel, .sentinel, .pinned], laidTests := true, laidLooks := .later }
def ValPrintsCardSaid : Prop := Claim7.holds Tryz.pinned (.plain (OpenSpec.ofChange valPrintsSpec)) valPrintsCard

/-- THE SECOND FORM's CARD OF 'umlautlaw8.CollWrong'. -/
def collWrongUptoCard : Claim7 := { stood := { row := collWrongUptoRow, standIns := [], harness := (true, "25f2b302c7f03a4d7fb69a10b5ec03943510664cf24fcc79f0532698449b74e6"), looks := true }, kinds := [], alts := [], laidByText := true, laidKinds := [.data, .pinned], laidTests := true, laidLooks := .later }
def CollWrongUptoCardSaid : Prop := Claim7.holds Tryz.pinned (.plain (OpenSpec.upto collWrongSpec)) collWrongUptoCard

/-- THE SECOND FORM's CARD OF 'umlautlaw10.RegMany'. -/
def regManyUptoCard : Claim7 := { stood := { row := regManyUptoRow, standIns := [], harness := (true, "25f2b302c7f03a4d7fb69a10b5ec03943510664cf24fcc79f0532698449b74e6"), looks := true }, kinds := [], alts := [], laidByText := true, laidKinds := [.data, .pinned], laidTests := true, laidLooks := .later }
def RegManyUptoCardSaid : Prop := Claim7.holds Tryz.pinned (.plain (OpenSpec.upto regManySpec)) regManyUptoCard

/-- THE SECOND FORM's CARD OF 'umlautlaw10.RegPlays'. -/
def regPlaysUptoCard : Claim7 := { stood := { row := regPlaysUptoRow, standIns := [], harness := (true, "25f2b302c7f03a4d7fb69a10b5ec03943510664cf24fcc79f0532698449b74e6"), looks := true }, kinds := [], alts := [], laidByText := true, laidKinds := [.data, .pinned], laidTests := true, laidLooks := .later }
def RegPlaysUptoCardSaid : Prop := Claim7.holds Tryz.pinned (.plain (OpenSpec.upto regPlaysSpec)) regPlaysUptoCard

/-- THE SECOND FORM's CARD OF 'umlautlaw11.ValMakes'. -/
def valMakesUptoCard : Claim7 := { stood := { row := valMakesUptoRow, standIns := [], harness := (true, "25f2b302c7f03a4d7fb69a10b5ec03943510664cf24fcc79f0532698449b74e6"), looks := true }, kinds := [], alts := [], laidByText := true, laidKinds := [.data, .data, .data, .data, .pinned], laidTests := true, laidLooks := .later }
def ValMakesUptoCardSaid : Prop := Claim7.holds Tryz.pinned (.plain (OpenSpec.upto valMakesSpec)) valMakesUptoCard

/-- THE SECOND FORM's CARD OF 'umlautlaw11.ValCompares'. -/
def valComparesUptoCard : Claim7 := { stood := { row := valComparesUptoRow, standIns := [], harness := (true, "25f2b302c7f03a4d7fb69a10b5ec03943510664cf24fcc79f0532698449b74e6"), looks := true }, kinds := [], alts := [], laidByText := true, laidKinds := [.data, .data, .data, .data, .pinned], laidTests := true, laidLooks := .later }
def ValComparesUptoCardSaid : Prop := Claim7.holds Tryz.pinned (.plain (OpenSpec.upto valComparesSpec)) valComparesUptoCard

/-- THE SECOND FORM's CARD OF 'umlautlaw11.ValChains'. -/
def valChainsUptoCard : Claim7 := { stood := { row := valChainsUptoRow, standIns := [], harness := (true, "25f2b302c7f03a4d7fb69a10b5ec03943510664cf24fcc79f0532698449b74e6"), looks := true }, kinds := [], alts := [], laidByText := true, laidKinds := [.data, .data, .data, .data, .pinned], laidTests := true, laidLooks := .later }
def ValChainsUptoCardSaid : Prop := Claim7.holds Tryz.pinned (.plain (OpenSpec.upto valChainsSpec)) valChainsUptoCard

/-- THE SECOND FORM's CARD OF 'umlautlaw19.StoreNumbers'. -/
def storeNumbersUptoCard : Claim7 := { stood := { row := storeNumbersUptoRow, standIns := [], harness := (true, "25f2b302c7f03a4d7fb69a10b5ec03943510664cf24fcc79f0532698449b74e6"), looks := true }, kinds := [], alts := [], laidByText := true, laidKinds := [.data, .pinned], laidTests := true, laidLooks := .later }
def StoreNumbersUptoCardSaid : Prop := Claim7.holds Tryz.pinned (.plain (OpenSpec.upto storeNumbersSpec)) storeNumbersUptoCard

/-- THE SECOND FORM's CARD OF 'umlautlaw19.StoreSwaps'. -/
def storeSwapsUptoCard : Claim7 := { stood := { row := storeSwapsUptoRow, standIns := [], harness := (true, "25f2b302c7f03a4d7fb69a10b5ec03943510664cf24fcc79f0532698449b74e6"), looks := true }, kinds := [], alts := [], laidByText := true, laidKinds := [.data, .pinned], laidTests := true, laidLooks := .later }
def StoreSwapsUptoCardSaid : Prop := Claim7.holds Tryz.pinned (.plain (OpenSpec.upto storeSwapsSpec)) storeSwapsUptoCard

/-- THE SECOND FORM's CARD OF 'umlautlaw19.StoreNames'. -/
def storeNamesUptoCard : Claim7 := { stood := { row := storeNamesUptoRow, standIns := [], harness := (true, "25f2b302c7f03a4d7fb69a10b5ec03943510664cf24fcc79f0532698449b74e6"), looks := true }, kinds := [], alts := [], laidByText := true, laidKinds := [.data, .pinned], laidTests := true, laidLooks := .later }
def StoreNamesUptoCardSaid : Prop := Claim7.holds Tryz.pinned (.plain (OpenSpec.upto storeNamesSpec)) storeNamesUptoCard

/-- THE SECOND FORM's CARD OF 'umlautlaw11.ValPrints'. -/
def valPrintsUptoCard : Claim7 := { stood := { row := valPrintsUptoRow, standIns := [], harness := (true, "25f2b302c7f03a4d7fb69a10b5ec03943510664cf24fcc79f0532698449b74e6"), looks := true }, kinds := [], alts := [], laidByText := true, laidKinds := [.data, .data, .data, .data, .sentinel, .sentinel, .pinned], laidTests := true, laidLooks := .later }
def ValPrintsUptoCardSaid : Prop := Claim7.holds Tryz.pinned (.plain (OpenSpec.upto valPrintsSpec)) valPrintsUptoCard
end Rows
end Go.Proofs.YtdmooacjllidhaaGreatDoor
