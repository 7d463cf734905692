/-
  DERIVED. GIVEN WITH THE SEED: THE CARDS: each row of YtopoklifappmcaaGreatDoorRows.lean that lists a variable, with what it lists TIED to the program's text (the seventh form; the later family's looks); each row that meets fmt, with fmt's text TOLD by the authors' own Lean function (tested against real Go, not proved from fmt's source: count such statements apart). THE CARD IS WHAT COUNTS. Prove the row's statement (the work); the ties are given (YtopoklifappmcaaGreatDoorTie.lean); close each card by the builder's one call (the guide's Derived/Test/ToyasCard.lean, 'card_holds'). Laid BY PROGRAM, IN A SANDBOX (cutbox-door.mjs). By AI agents, Wed Nov 11 2026. No macro, syntax, notation, axiom, sorry.
-/
import Derived.Test.YtopoklifappmcaaGreatDoorRows
import GoSem.ClaimSeven
namespace Go.Proofs.YtopoklifappmcaaGreatDoor
namespace Rows

/-- THE TIED CARD OF 'bursarlaw27.ShelfLoads'. -/
def shelfLoadsCard : Claim7 := { stood := { row := shelfLoadsRow, standIns := [], harness := (true, "d28fed6dd794e10756b644249adc63d164d7b78fffd9b5724f1fe8cd8b24d80a"), looks := true }, kinds := [], alts := [], laidByText := true, laidKinds := [.data, .data, .data, .data, .sentinel, .sentinel, .pinned], laidTests := true, laidLooks := .later }
def ShelfLoadsCardSaid : Prop := Claim7.holds Tryz.pinned (.plain (OpenSpec.ofChange shelfLoadsSpec)) shelfLoadsCard

/-- THE TIED CARD OF 'bursarlaw27.ShelfDiffs'. -/
def shelfDiffsCard : Claim7 := { stood := { row := shelfDiffsRow, standIns := [], harness := (true, "d28fed6dd794e10756b644249adc63d164d7b78fffd9b5724f1fe8cd8b24d80a"), looks := true }, kinds := [], alts := [], laidByText := true, laidKinds := [.data, .data, .data, .data, .sentinel, .sentinel, .pinned], laidTests := true, laidLooks := .later }
def ShelfDiffsCardSaid : Prop := Claim7.holds Tryz.pinned (.plain (OpenSpec.ofChange shelfDiffsSpec)) shelfDiffsCard

/-- THE TIED CARD OF 'bursarlaw27.ShelfPairs'. -/
def shelfPairsCard : Claim7 := { stood := { row := shelfPairsRow, standIns := [], harness := (true, "d28fed6dd794e10756b644249adc63d164d7b78fffd9b5724f1fe8cd8b24d80a"), looks := true }, kinds := [], alts := [], laidByText := true, laidKinds := [.data, .data, .data, .data, .sentinel, .sentinel, .pinned], laidTests := true, laidLooks := .later }
def ShelfPairsCardSaid : Prop := Claim7.holds Tryz.pinned (.plain (OpenSpec.ofChange shelfPairsSpec)) shelfPairsCard

/-- THE TIED CARD OF 'bursarlaw27.ShelfSame'. -/
def shelfSameCard : Claim7 := { stood := { row := shelfSameRow, standIns := [], harness := (true, "d28fed6dd794e10756b644249adc63d164d7b78fffd9b5724f1fe8cd8b24d80a"), looks := true }, kinds := [], alts := [], laidByText := true, laidKinds := [.data, .data, .data, .data, .sentinel, .sentinel, .pinned], laidTests := true, laidLooks := .later }
def ShelfSameCardSaid : Prop := Claim7.holds Tryz.pinned (.plain (OpenSpec.ofChange shelfSameSpec)) shelfSameCard

/-- THE TIED CARD OF 'bursarlaw27.ShelfGoes'. -/
def shelfGoesCard : Claim7 := { stood := { row := shelfGoesRow, standIns := [], harness := (true, "d28fed6dd794e10756b644249adc63d164d7b78fffd9b5724f1fe8cd8b24d80a"), looks := true }, kinds := [], alts := [], laidByText := true, laidKinds := [.data, .data, .data, .data, .sentinel, .sentinel, .pinned], laidTests := true, laidLooks := .later }
def ShelfGoesCardSaid : Prop := Claim7.holds Tryz.pinned (.plain (OpenSpec.ofChange shelfGoesSpec)) shelfGoesCard

/-- THE TIED CARD OF 'bursarlaw27.ShelfMany'. -/
def shelfManyCard : Claim7 := { stood := { row := shelfManyRow, standIns := [], harness := (true, "d28fed6dd794e10756b644249adc63d164d7b78fffd9b5724f1fe8cd8b24d80a"), looks := true }, kinds := [], alts := [], laidByText := true, laidKinds := [.data, .data, .data, .data, .sentinel, .sentinel, .pinned], laidTests := true, laidLooks := .later }
def ShelfManyCardSaid : Prop := Claim7.holds Tryz.pinned (.plain (OpenSpec.ofChange shelfManySpec)) shelfManyCard

/-- THE SECOND FORM's CARD OF 'bursarlaw27.ShelfLoads'. -/
def shelfLoadsUptoCard : Claim7 := { stood := { row := shelfLoadsUptoRow, standIns := [], harness := (true, "d28fed6dd794e10756b644249adc63d164d7b78fffd9b5724f1fe8cd8b24d80a"), looks := true }, kinds := [], alts := [], laidByText := true, laidKinds := [.data, .data, .data, .data, .sentinel, .sentinel, .pinned], laidTests := true, laidLooks := .later }
def ShelfLoadsUptoCardSaid : Prop := Claim7.holds Tryz.pinned (.plain (OpenSpec.upto shelfLoadsSpec)) shelfLoadsUptoCard

/-- THE SECOND FORM's CARD OF 'bursarlaw27.ShelfDiffs'. -/
def shelfDiffsUptoCard : Claim7 := { stood := { row := shelfDiffsUptoRow, standIns := [], harness := (true, "d28fed6dd794e10756b644249adc63d164d7b78fffd9b5724f1fe8cd8b24d80a"), looks := true }, kinds := [], alts := [], laidByText := true, laidKinds := [.data, .data, .data, .data, .sentinel, .sentinel, .pinned], laidTests := true, laidLooks := .later }
def ShelfDiffsUptoCardSaid : Prop := Claim7.holds Tryz.pinned (.plain (OpenSpec.upto shelfDiffsSpec)) shelfDiffsUptoCard

/-- THE SECOND FORM's CARD OF 'bursarlaw27.ShelfPairs'. -/
def shelfPairsUptoCard : Claim7 := { stood := { row := shelfPairsUptoRow, standIns := [], harness := (true, "d28fed6dd794e10756b644249adc63d164d7b78fffd9b5724f1fe8cd8b24d80a"), looks := true }, kinds := [], alts := [], laidByText := true, laidKinds := [.data, .data, .data, .data, .sentinel, .sentinel, .pinned], laidTests := true, laidLooks := .later }
def ShelfPairsUptoCardSaid : Prop := Claim7.holds Tryz.pinned (.plain (OpenSpec.upto shelfPairsSpec)) shelfPairsUptoCard

/-- THE SECOND FORM's CARD OF 'bursarlaw27.ShelfSame'. -/
def shelfSameUptoCard : Claim7 := { stood := { row := shelfSameUptoRow, standIns := [], harness := (true, "d28fed6dd794e10756b644249adc63d164d7b78fffd9b5724f1fe8cd8b24d80a"), looks := true }, kinds := [], alts := [], laidByText := true, laidKinds := [.data, .data, .data, .data, .sentinel, .sentinel, .pinned], laidTests := true, laidLooks := .later }
def ShelfSameUptoCardSaid : Prop := Claim7.holds Tryz.pinned (.plain (OpenSpec.upto shelfSameSpec)) shelfSameUptoCard

/-- THE SECOND FORM's CARD OF 'bursarlaw27.ShelfGoes'. -/
def shelfGoesUptoCard : Claim7 := { stood := { row := shelfGoesUptoRow, standIns := [], harness := (true, "d28fed6dd794e10756b644249adc63d164d7b78fffd9b5724f1fe8cd8b24d80a"), looks := true }, kinds := [], alts := [], laidByText := true, laidKinds := [.data, .data, .data, .data, .sentinel, .sentinel, .pinned], laidTests := true, laidLooks := .later }
def ShelfGoesUptoCardSaid : Prop := Claim7.holds Tryz.pinned (.plain (OpenSpec.upto shelfGoesSpec)) shelfGoesUptoCard

/-- THE SECOND FORM's CARD OF 'bursarlaw27.ShelfMany'. -/
def shelfManyUptoCard : Claim7 := { stood := { row := shelfManyUptoRow, standIns := [], harness := (true, "d28fed6dd794e10756b644249adc63d164d7b78fffd9b5724f1fe8cd8b24d80a"), looks := true }, kinds := [], alts := [], laidByText := true, laidKinds := [.data, .data, .data, .data, .sentinel, .sentinel, .pinned], laidTests := true, laidLooks := .later }
def ShelfManyUptoCardSaid : Prop := Claim7.holds Tryz.pinned (.plain (OpenSpec.upto shelfManySpec)) shelfManyUptoCard
end Rows
end Go.Proofs.YtopoklifappmcaaGreatDoor
