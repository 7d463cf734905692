/-
  DERIVED. GIVEN WITH THE SEED: THE CARDS: each row of YtbjajidphaeogaaDoorRows.lean that lists a variable, with what it lists TIED to the program's text (the seventh form; the later family's looks); each row that meets fmt, with fmt's text TOLD by the authors' own Lean function (tested against real Go, not proved from fmt's source: count such statements apart). THE CARD IS WHAT COUNTS. Prove the row's statement (the work); the ties are given (YtbjajidphaeogaaDoorTie.lean); close each card by the builder's one call (the guide's Derived/Test/ToyasCard.lean, 'card_holds'). Laid BY PROGRAM, IN A SANDBOX (cutbox-door.mjs). By AI agents, Wed Nov 11 2026. No macro, syntax, notation, axiom, sorry.
-/
import Derived.Test.YtbjajidphaeogaaDoorRows
import GoSem.ClaimSeven
namespace Go.Proofs.YtbjajidphaeogaaDoor
namespace Rows

/-- THE TIED CARD OF 'bursarlaw01.MoneySums'. -/
def moneySumsCard : Claim7 := { stood := { row := moneySumsRow, standIns := [], harness := (true, "f731de008941817ed7b362de19589baba67c7bb3ef52ee2c4bb9631146d14688"), looks := true }, kinds := [], alts := [], laidByText := true, laidKinds := [.data, .data, .data], laidTests := true, laidLooks := .later }
def MoneySumsCardSaid : Prop := Claim7.holds Tryd.pinned (.plain (OpenSpec.ofChange moneySumsSpec)) moneySumsCard

/-- THE TIED CARD OF 'bursarlaw01.MoneyShares'. -/
def moneySharesCard : Claim7 := { stood := { row := moneySharesRow, standIns := [], harness := (true, "f731de008941817ed7b362de19589baba67c7bb3ef52ee2c4bb9631146d14688"), looks := true }, kinds := [], alts := [], laidByText := true, laidKinds := [.data, .data, .data], laidTests := true, laidLooks := .later }
def MoneySharesCardSaid : Prop := Claim7.holds Tryd.pinned (.plain (OpenSpec.ofChange moneySharesSpec)) moneySharesCard

/-- THE TIED CARD OF 'bursarlaw01.MoneyParts'. -/
def moneyPartsCard : Claim7 := { stood := { row := moneyPartsRow, standIns := [], harness := (true, "f731de008941817ed7b362de19589baba67c7bb3ef52ee2c4bb9631146d14688"), looks := true }, kinds := [], alts := [], laidByText := true, laidKinds := [.data, .data, .data], laidTests := true, laidLooks := .later }
def MoneyPartsCardSaid : Prop := Claim7.holds Tryd.pinned (.plain (OpenSpec.ofChange moneyPartsSpec)) moneyPartsCard

/-- THE TIED CARD OF 'bursarlaw01.MoneyBack'. -/
def moneyBackCard : Claim7 := { stood := { row := moneyBackRow, standIns := [], harness := (true, "f731de008941817ed7b362de19589baba67c7bb3ef52ee2c4bb9631146d14688"), looks := true }, kinds := [], alts := [], laidByText := true, laidKinds := [.data, .data, .data], laidTests := true, laidLooks := .later }
def MoneyBackCardSaid : Prop := Claim7.holds Tryd.pinned (.plain (OpenSpec.ofChange moneyBackSpec)) moneyBackCard

/-- THE TIED CARD OF 'bursarlaw01.MoneyOrder'. -/
def moneyOrderCard : Claim7 := { stood := { row := moneyOrderRow, standIns := [], harness := (true, "f731de008941817ed7b362de19589baba67c7bb3ef52ee2c4bb9631146d14688"), looks := true }, kinds := [], alts := [], laidByText := true, laidKinds := [.data, .data, .data], laidTests := true, laidLooks := .later }
def MoneyOrderCardSaid : Prop := Claim7.holds Tryd.pinned (.plain (OpenSpec.ofChange moneyOrderSpec)) moneyOrderCard

/-- THE TIED CARD OF 'bursarlaw01.MoneyReckons'. -/
def moneyReckonsCard : Claim7 := { stood := { row := moneyReckonsRow, standIns := [], harness := (true, "f731de008941817ed7b362de19589baba67c7bb3ef52ee2c4bb9631146d14688"), looks := true }, kinds := [], alts := [], laidByText := true, laidKinds := [.data, .data, .data], laidTests := true, laidLooks := .later }
def MoneyReckonsCardSaid : Prop := Claim7.holds Tryd.pinned (.plain (OpenSpec.ofChange moneyReckonsSpec)) moneyReckonsCard

/-- THE TIED CARD OF 'bursarlaw12.EntryMoves'. -/
def entryMovesCard : Claim7 := { stood := { row := entryMovesRow, standIns := [], harness := (true, "f731de008941817ed7b362de19589baba67c7bb3ef52ee2c4bb9631146d14688"), looks := true }, kinds := [], alts := [], laidByText := true, laidKinds := [.data, .data, .data], laidTests := true, laidLooks := .later }
def EntryMovesCardSaid : Prop := Claim7.holds Tryd.pinned (.plain (OpenSpec.ofChange entryMovesSpec)) entryMovesCard

/-- THE TIED CARD OF 'bursarlaw12.EntryEven'. -/
def entryEvenCard : Claim7 := { stood := { row := entryEvenRow, standIns := [], harness := (true, "f731de008941817ed7b362de19589baba67c7bb3ef52ee2c4bb9631146d14688"), looks := true }, kinds := [], alts := [], laidByText := true, laidKinds := [.data, .data, .data], laidTests := true, laidLooks := .later }
def EntryEvenCardSaid : Prop := Claim7.holds Tryd.pinned (.plain (OpenSpec.ofChange entryEvenSpec)) entryEvenCard

/-- THE TIED CARD OF 'bursarlaw12.EntryBack'. -/
def entryBackCard : Claim7 := { stood := { row := entryBackRow, standIns := [], harness := (true, "f731de008941817ed7b362de19589baba67c7bb3ef52ee2c4bb9631146d14688"), looks := true }, kinds := [], alts := [], laidByText := true, laidKinds := [.data, .data, .data], laidTests := true, laidLooks := .later }
def EntryBackCardSaid : Prop := Claim7.holds Tryd.pinned (.plain (OpenSpec.ofChange entryBackSpec)) entryBackCard

/-- THE TIED CARD OF 'bursarlaw01.MoneyTexts'. -/
def moneyTextsCard : Claim7 := { stood := { row := moneyTextsRow, standIns := [], harness := (true, "f731de008941817ed7b362de19589baba67c7bb3ef52ee2c4bb9631146d14688"), looks := true }, kinds := [], alts := [], laidByText := true, laidKinds := [.data, .data, .data, .sentinel, .sentinel], laidTests := true, laidLooks := .later }
def MoneyTextsCardSaid : Prop := Claim7.holds Tryd.pinned (.plain (OpenSpec.ofChange moneyTextsSpec)) moneyTextsCard

/-- THE TIED CARD OF 'bursarlaw14.HoldTexts'. -/
def holdTextsCard : Claim7 := { stood := { row := holdTextsRow, standIns := [], harness := (true, "f731de008941817ed7b362de19589baba67c7bb3ef52ee2c4bb9631146d14688"), looks := true }, kinds := [], alts := [], laidByText := true, laidKinds := [.data, .data, .data, .sentinel, .sentinel], laidTests := true, laidLooks := .later }
def HoldTextsCardSaid : Prop := Claim7.holds Tryd.pinned (.plain (OpenSpec.ofChange holdTextsSpec)) holdTextsCard

/-- THE TIED CARD OF 'bursarlaw12.EntryChecks'. -/
def entryChecksCard : Claim7 := { stood := { row := entryChecksRow, standIns := [], harness := (true, "f731de008941817ed7b362de19589baba67c7bb3ef52ee2c4bb9631146d14688"), looks := true }, kinds := [], alts := [], laidByText := true, laidKinds := [.data, .data, .data, .data, .sentinel, .sentinel, .pinned], laidTests := true, laidLooks := .later }
def EntryChecksCardSaid : Prop := Claim7.holds Tryd.pinned (.plain (OpenSpec.ofChange entryChecksSpec)) entryChecksCard

/-- THE SECOND FORM's CARD OF 'bursarlaw01.MoneySums'. -/
def moneySumsUptoCard : Claim7 := { stood := { row := moneySumsUptoRow, standIns := [], harness := (true, "f731de008941817ed7b362de19589baba67c7bb3ef52ee2c4bb9631146d14688"), looks := true }, kinds := [], alts := [], laidByText := true, laidKinds := [.data, .data, .data], laidTests := true, laidLooks := .later }
def MoneySumsUptoCardSaid : Prop := Claim7.holds Tryd.pinned (.plain (OpenSpec.upto moneySumsSpec)) moneySumsUptoCard

/-- THE SECOND FORM's CARD OF 'bursarlaw01.MoneyShares'. -/
def moneySharesUptoCard : Claim7 := { stood := { row := moneySharesUptoRow, standIns := [], harness := (true, "f731de008941817ed7b362de19589baba67c7bb3ef52ee2c4bb9631146d14688"), looks := true }, kinds := [], alts := [], laidByText := true, laidKinds := [.data, .data, .data], laidTests := true, laidLooks := .later }
def MoneySharesUptoCardSaid : Prop := Claim7.holds Tryd.pinned (.plain (OpenSpec.upto moneySharesSpec)) moneySharesUptoCard

/-- THE SECOND FORM's CARD OF 'bursarlaw01.MoneyParts'. -/
def moneyPartsUptoCard : Claim7 := { stood := { row := moneyPartsUptoRow, standIns := [], harness := (true, "f731de008941817ed7b362de19589baba67c7bb3ef52ee2c4bb9631146d14688"), looks := true }, kinds := [], alts := [], laidByText := true, laidKinds := [.data, .data, .data], laidTests := true, laidLooks := .later }
def MoneyPartsUptoCardSaid : Prop := Claim7.holds Tryd.pinned (.plain (OpenSpec.upto moneyPartsSpec)) moneyPartsUptoCard

/-- THE SECOND FORM's CARD OF 'bursarlaw01.MoneyBack'. -/
def moneyBackUptoCard : Claim7 := { stood := { row := moneyBackUptoRow, standIns := [], harness := (true, "f731de008941817ed7b362de19589baba67c7bb3ef52ee2c4bb9631146d14688"), looks := true }, kinds := [], alts := [], laidByText := true, laidKinds := [.data, .data, .data], laidTests := true, laidLooks := .later }
def MoneyBackUptoCardSaid : Prop := Claim7.holds Tryd.pinned (.plain (OpenSpec.upto moneyBackSpec)) moneyBackUptoCard

/-- THE SECOND FORM's CARD OF 'bursarlaw01.MoneyOrder'. -/
def moneyOrderUptoCard : Claim7 := { stood := { row := moneyOrderUptoRow, standIns := [], harness := (true, "f731de008941817ed7b362de19589baba67c7bb3ef52ee2c4bb9631146d14688"), looks := true }, kinds := [], alts := [], laidByText := true, laidKinds := [.data, .data, .data], laidTests := true, laidLooks := .later }
def MoneyOrderUptoCardSaid : Prop := Claim7.holds Tryd.pinned (.plain (OpenSpec.upto moneyOrderSpec)) moneyOrderUptoCard

/-- THE SECOND FORM's CARD OF 'bursarlaw01.MoneyReckons'. -/
def moneyReckonsUptoCard : Claim7 := { stood := { row := moneyReckonsUptoRow, standIns := [], harness := (true, "f731de008941817ed7b362de19589baba67c7bb3ef52ee2c4bb9631146d14688"), looks := true }, kinds := [], alts := [], laidByText := true, laidKinds := [.data, .data, .data], laidTests := true, laidLooks := .later }
def MoneyReckonsUptoCardSaid : Prop := Claim7.holds Tryd.pinned (.plain (OpenSpec.upto moneyReckonsSpec)) moneyReckonsUptoCard

/-- THE SECOND FORM's CARD OF 'bursarlaw12.EntryMoves'. -/
def entryMovesUptoCard : Claim7 := { stood := { row := entryMovesUptoRow, standIns := [], harness := (true, "f731de008941817ed7b362de19589baba67c7bb3ef52ee2c4bb9631146d14688"), looks := true }, kinds := [], alts := [], laidByText := true, laidKinds := [.data, .data, .data], laidTests := true, laidLooks := .later }
def EntryMovesUptoCardSaid : Prop := Claim7.holds Tryd.pinned (.plain (OpenSpec.upto entryMovesSpec)) entryMovesUptoCard

/-- THE SECOND FORM's CARD OF 'bursarlaw12.EntryEven'. -/
def entryEvenUptoCard : Claim7 := { stood := { row := entryEvenUptoRow, standIns := [], harness := (true, "f731de008941817ed7b362de19589baba67c7bb3ef52ee2c4bb9631146d14688"), looks := true }, kinds := [], alts := [], laidByText := true, laidKinds := [.data, .data, .data], laidTests := true, laidLooks := .later }
def EntryEvenUptoCardSaid : Prop := Claim7.holds Tryd.pinned (.plain (OpenSpec.upto entryEvenSpec)) entryEvenUptoCard

/-- THE SECOND FORM's CARD OF 'bursarlaw12.EntryBack'. -/
def entryBackUptoCard : Claim7 := { stood := { row := entryBackUptoRow, standIns := [], harness := (true, "f731de008941817ed7b362de19589baba67c7bb3ef52ee2c4bb9631146d14688"), looks := true }, kinds := [], alts := [], laidByText := true, laidKinds := [.data, .data, .data], laidTests := true, laidLooks := .later }
def EntryBackUptoCardSaid : Prop := Claim7.holds Tryd.pinned (.plain (OpenSpec.upto entryBackSpec)) entryBackUptoCard

/-- THE SECOND FORM's CARD OF 'bursarlaw01.MoneyTexts'. -/
def moneyTextsUptoCard : Claim7 := { stood := { row := moneyTextsUptoRow, standIns := [], harness := (true, "f731de008941817ed7b362de19589baba67c7bb3ef52ee2c4bb9631146d14688"), looks := true }, kinds := [], alts := [], laidByText := true, laidKinds := [.data, .data, .data, .sentinel, .sentinel], laidTests := true, laidLooks := .later }
def MoneyTextsUptoCardSaid : Prop := Claim7.holds Tryd.pinned (.plain (OpenSpec.upto moneyTextsSpec)) moneyTextsUptoCard

/-- THE SECOND FORM's CARD OF 'bursarlaw14.HoldTexts'. -/
def holdTextsUptoCard : Claim7 := { stood := { row := holdTextsUptoRow, standIns := [], harness := (true, "f731de008941817ed7b362de19589baba67c7bb3ef52ee2c4bb9631146d14688"), looks := true }, kinds := [], alts := [], laidByText := true, laidKinds := [.data, .data, .data, .sentinel, .sentinel], laidTests := true, laidLooks := .later }
def HoldTextsUptoCardSaid : Prop := Claim7.holds Tryd.pinned (.plain (OpenSpec.upto holdTextsSpec)) holdTextsUptoCard

/-- THE SECOND FORM's CARD OF 'bursarlaw12.EntryChecks'. -/
def entryChecksUptoCard : Claim7 := { stood := { row := entryChecksUptoRow, standIns := [], harness := (true, "f731de008941817ed7b362de19589baba67c7bb3ef52ee2c4bb9631146d14688"), looks := true }, kinds := [], alts := [], laidByText := true, laidKinds := [.data, .data, .data, .data, .sentinel, .sentinel, .pinned], laidTests := true, laidLooks := .later }
def EntryChecksUptoCardSaid : Prop := Claim7.holds Tryd.pinned (.plain (OpenSpec.upto entryChecksSpec)) entryChecksUptoCard
end Rows
end Go.Proofs.YtbjajidphaeogaaDoor
