/-
  DERIVED. GIVEN WITH THE SEED: THE CARDS: each row of YtpoiijkodpnobaaGreatDoorRows.lean that lists a variable, with what it lists TIED to the program's text (the seventh form; the later family's looks); each row that meets fmt, with fmt's text TOLD by the authors' own Lean function (tested against real Go, not proved from fmt's source: count such statements apart). THE CARD IS WHAT COUNTS. Prove the row's statement (the work); the ties are given (YtpoiijkodpnobaaGreatDoorTie.lean); close each card by the builder's one call (the guide's Derived/Test/ToyasCard.lean, 'card_holds'). Laid BY PROGRAM, IN A SANDBOX (cutbox-door.mjs). By AI agents, Wed Nov 11 2026. No macro, syntax, notation, axiom, sorry.
-/
import Derived.Test.YtpoiijkodpnobaaGreatDoorRows
import GoSem.ClaimSeven
namespace Go.Proofs.YtpoiijkodpnobaaGreatDoor
namespace Rows

/-- THE TIED CARD OF 'bursarlaw20.TradeReads'. -/
def tradeReadsCard : Claim7 := { stood := { row := tradeReadsRow, standIns := [], harness := (true, "bf724d4f18b19264e7bd250bb3244673d72c77338245170921484629fefa8bc9"), looks := true }, kinds := [], alts := [], laidByText := true, laidKinds := [.data, .data, .data, .data, .sentinel, .sentinel, .listed, .data, .pinned], laidTests := true, laidLooks := .later }
def TradeReadsCardSaid : Prop := Claim7.holds Tryz.pinned (.plain (OpenSpec.ofChange tradeReadsSpec)) tradeReadsCard

/-- THE TIED CARD OF 'bursarlaw20.TradeKeys'. -/
def tradeKeysCard : Claim7 := { stood := { row := tradeKeysRow, standIns := [], harness := (true, "bf724d4f18b19264e7bd250bb3244673d72c77338245170921484629fefa8bc9"), looks := true }, kinds := [], alts := [], laidByText := true, laidKinds := [.data, .data, .data, .data, .sentinel, .sentinel, .listed, .data, .pinned], laidTests := true, laidLooks := .later }
def TradeKeysCardSaid : Prop := Claim7.holds Tryz.pinned (.plain (OpenSpec.ofChange tradeKeysSpec)) tradeKeysCard

/-- THE TIED CARD OF 'bursarlaw20.TradePosts'. -/
def tradePostsCard : Claim7 := { stood := { row := tradePostsRow, standIns := [], harness := (true, "bf724d4f18b19264e7bd250bb3244673d72c77338245170921484629fefa8bc9"), looks := true }, kinds := [], alts := [], laidByText := true, laidKinds := [.data, .data, .data, .data, .sentinel, .sentinel, .listed, .data, .pinned], laidTests := true, laidLooks := .later }
def TradePostsCardSaid : Prop := Claim7.holds Tryz.pinned (.plain (OpenSpec.ofChange tradePostsSpec)) tradePostsCard

/-- THE TIED CARD OF 'bursarlaw20.TradeSums'. -/
def tradeSumsCard : Claim7 := { stood := { row := tradeSumsRow, standIns := [], harness := (true, "bf724d4f18b19264e7bd250bb3244673d72c77338245170921484629fefa8bc9"), looks := true }, kinds := [], alts := [], laidByText := true, laidKinds := [.data, .data, .data, .data, .sentinel, .sentinel, .listed, .data, .pinned], laidTests := true, laidLooks := .later }
def TradeSumsCardSaid : Prop := Claim7.holds Tryz.pinned (.plain (OpenSpec.ofChange tradeSumsSpec)) tradeSumsCard

/-- THE SECOND FORM's CARD OF 'bursarlaw20.TradeReads'. -/
def tradeReadsUptoCard : Claim7 := { stood := { row := tradeReadsUptoRow, standIns := [], harness := (true, "bf724d4f18b19264e7bd250bb3244673d72c77338245170921484629fefa8bc9"), looks := true }, kinds := [], alts := [], laidByText := true, laidKinds := [.data, .data, .data, .data, .sentinel, .sentinel, .listed, .data, .pinned], laidTests := true, laidLooks := .later }
def TradeReadsUptoCardSaid : Prop := Claim7.holds Tryz.pinned (.plain (OpenSpec.upto tradeReadsSpec)) tradeReadsUptoCard

/-- THE SECOND FORM's CARD OF 'bursarlaw20.TradeKeys'. -/
def tradeKeysUptoCard : Claim7 := { stood := { row := tradeKeysUptoRow, standIns := [], harness := (true, "bf724d4f18b19264e7bd250bb3244673d72c77338245170921484629fefa8bc9"), looks := true }, kinds := [], alts := [], laidByText := true, laidKinds := [.data, .data, .data, .data, .sentinel, .sentinel, .listed, .data, .pinned], laidTests := true, laidLooks := .later }
def TradeKeysUptoCardSaid : Prop := Claim7.holds Tryz.pinned (.plain (OpenSpec.upto tradeKeysSpec)) tradeKeysUptoCard

/-- THE SECOND FORM's CARD OF 'bursarlaw20.TradePosts'. -/
def tradePostsUptoCard : Claim7 := { stood := { row := tradePostsUptoRow, standIns := [], harness := (true, "bf724d4f18b19264e7bd250bb3244673d72c77338245170921484629fefa8bc9"), looks := true }, kinds := [], alts := [], laidByText := true, laidKinds := [.data, .data, .data, .data, .sentinel, .sentinel, .listed, .data, .pinned], laidTests := true, laidLooks := .later }
def TradePostsUptoCardSaid : Prop := Claim7.holds Tryz.pinned (.plain (OpenSpec.upto tradePostsSpec)) tradePostsUptoCard

/-- THE SECOND FORM's CARD OF 'bursarlaw20.TradeSums'. -/
def tradeSumsUptoCard : Claim7 := { stood := { row := tradeSumsUptoRow, standIns := [], harness := (true, "bf724d4f18b19264e7bd250bb3244673d72c77338245170921484629fefa8bc9"), looks := true }, kinds := [], alts := [], laidByText := true, laidKinds := [.data, .data, .data, .data, .sentinel, .sentinel, .listed, .data, .pinned], laidTests := true, laidLooks := .later }
def TradeSumsUptoCardSaid : Prop := Claim7.holds Tryz.pinned (.plain (OpenSpec.upto tradeSumsSpec)) tradeSumsUptoCard
end Rows
end Go.Proofs.YtpoiijkodpnobaaGreatDoor
