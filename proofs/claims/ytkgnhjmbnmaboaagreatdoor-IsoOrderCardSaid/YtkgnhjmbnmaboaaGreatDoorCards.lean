/-
  DERIVED. GIVEN WITH THE SEED: THE CARDS: each row of YtkgnhjmbnmaboaaGreatDoorRows.lean that lists a variable, with what it lists TIED to the program's text (the seventh form; the later family's looks); each row that meets fmt, with fmt's text TOLD by the authors' own Lean function (tested against real Go, not proved from fmt's source: count such statements apart). THE CARD IS WHAT COUNTS. Prove the row's statement (the work); the ties are given (YtkgnhjmbnmaboaaGreatDoorTie.lean); close each card by the builder's one call (the guide's Derived/Test/ToyasCard.lean, 'card_holds'). Laid BY PROGRAM, IN A SANDBOX (cutbox-door.mjs). By AI agents, Wed Nov 11 2026. No macro, syntax, notation, axiom, sorry.
-/
import Derived.Test.YtkgnhjmbnmaboaaGreatDoorRows
import GoSem.ClaimSeven
namespace Go.Proofs.YtkgnhjmbnmaboaaGreatDoor
namespace Rows

/-- THE TIED CARD OF 'bursarlaw19.IsoPacks'. -/
def isoPacksCard : Claim7 := { stood := { row := isoPacksRow, standIns := [], harness := (true, "aa1183bf45979e82b1d0bdeed31e41784fb778d6ed6da54982652afad293440d"), looks := true }, kinds := [], alts := [], laidByText := true, laidKinds := [.data, .data, .data, .data, .sentinel, .sentinel, .listed, .data, .pinned], laidTests := true, laidLooks := .later }
def IsoPacksCardSaid : Prop := Claim7.holds Tryz.pinned (.plain (OpenSpec.ofChange isoPacksSpec)) isoPacksCard

/-- THE TIED CARD OF 'bursarlaw19.IsoFields'. -/
def isoFieldsCard : Claim7 := { stood := { row := isoFieldsRow, standIns := [], harness := (true, "aa1183bf45979e82b1d0bdeed31e41784fb778d6ed6da54982652afad293440d"), looks := true }, kinds := [], alts := [], laidByText := true, laidKinds := [.data, .data, .data, .data, .sentinel, .sentinel, .listed, .data, .pinned], laidTests := true, laidLooks := .later }
def IsoFieldsCardSaid : Prop := Claim7.holds Tryz.pinned (.plain (OpenSpec.ofChange isoFieldsSpec)) isoFieldsCard

/-- THE TIED CARD OF 'bursarlaw19.IsoOrder'. -/
def isoOrderCard : Claim7 := { stood := { row := isoOrderRow, standIns := [], harness := (true, "aa1183bf45979e82b1d0bdeed31e41784fb778d6ed6da54982652afad293440d"), looks := true }, kinds := [], alts := [], laidByText := true, laidKinds := [.data, .data, .data, .data, .sentinel, .sentinel, .listed, .data, .pinned], laidTests := true, laidLooks := .later }
def IsoOrderCardSaid : Prop := Claim7.holds Tryz.pinned (.plain (OpenSpec.ofChange isoOrderSpec)) isoOrderCard

/-- THE TIED CARD OF 'bursarlaw20.TradeReads'. -/
def tradeReadsCard : Claim7 := { stood := { row := tradeReadsRow, standIns := [], harness := (true, "aa1183bf45979e82b1d0bdeed31e41784fb778d6ed6da54982652afad293440d"), looks := true }, kinds := [], alts := [], laidByText := true, laidKinds := [.data, .data, .data, .data, .sentinel, .sentinel, .listed, .data, .pinned], laidTests := true, laidLooks := .later }
def TradeReadsCardSaid : Prop := Claim7.holds Tryz.pinned (.plain (OpenSpec.ofChange tradeReadsSpec)) tradeReadsCard

/-- THE TIED CARD OF 'bursarlaw20.TradeKeys'. -/
def tradeKeysCard : Claim7 := { stood := { row := tradeKeysRow, standIns := [], harness := (true, "aa1183bf45979e82b1d0bdeed31e41784fb778d6ed6da54982652afad293440d"), looks := true }, kinds := [], alts := [], laidByText := true, laidKinds := [.data, .data, .data, .data, .sentinel, .sentinel, .listed, .data, .pinned], laidTests := true, laidLooks := .later }
def TradeKeysCardSaid : Prop := Claim7.holds Tryz.pinned (.plain (OpenSpec.ofChange tradeKeysSpec)) tradeKeysCard

/-- THE TIED CARD OF 'bursarlaw20.TradePosts'. -/
def tradePostsCard : Claim7 := { stood := { row := tradePostsRow, standIns := [], harness := (true, "aa1183bf45979e82b1d0bdeed31e41784fb778d6ed6da54982652afad293440d"), looks := true }, kinds := [], alts := [], laidByText := true, laidKinds := [.data, .data, .data, .data, .sentinel, .sentinel, .listed, .data, .pinned], laidTests := true, laidLooks := .later }
def TradePostsCardSaid : Prop := Claim7.holds Tryz.pinned (.plain (OpenSpec.ofChange tradePostsSpec)) tradePostsCard

/-- THE TIED CARD OF 'bursarlaw20.TradeSums'. -/
def tradeSumsCard : Claim7 := { stood := { row := tradeSumsRow, standIns := [], harness := (true, "aa1183bf45979e82b1d0bdeed31e41784fb778d6ed6da54982652afad293440d"), looks := true }, kinds := [], alts := [], laidByText := true, laidKinds := [.data, .data, .data, .data, .sentinel, .sentinel, .listed, .data, .pinned], laidTests := true, laidLooks := .later }
def TradeSumsCardSaid : Prop := Claim7.holds Tryz.pinned (.plain (OpenSpec.ofChange tradeSumsSpec)) tradeSumsCard

/-- THE SECOND FORM's CARD OF 'bursarlaw19.IsoPacks'. -/
def isoPacksUptoCard : Claim7 := { stood := { row := isoPacksUptoRow, standIns := [], harness := (true, "aa1183bf45979e82b1d0bdeed31e41784fb778d6ed6da54982652afad293440d"), looks := true }, kinds := [], alts := [], laidByText := true, laidKinds := [.data, .data, .data, .data, .sentinel, .sentinel, .listed, .data, .pinned], laidTests := true, laidLooks := .later }
def IsoPacksUptoCardSaid : Prop := Claim7.holds Tryz.pinned (.plain (OpenSpec.upto isoPacksSpec)) isoPacksUptoCard

/-- THE SECOND FORM's CARD OF 'bursarlaw19.IsoFields'. -/
def isoFieldsUptoCard : Claim7 := { stood := { row := isoFieldsUptoRow, standIns := [], harness := (true, "aa1183bf45979e82b1d0bdeed31e41784fb778d6ed6da54982652afad293440d"), looks := true }, kinds := [], alts := [], laidByText := true, laidKinds := [.data, .data, .data, .data, .sentinel, .sentinel, .listed, .data, .pinned], laidTests := true, laidLooks := .later }
def IsoFieldsUptoCardSaid : Prop := Claim7.holds Tryz.pinned (.plain (OpenSpec.upto isoFieldsSpec)) isoFieldsUptoCard

/-- THE SECOND FORM's CARD OF 'bursarlaw19.IsoOrder'. -/
def isoOrderUptoCard : Claim7 := { stood := { row := isoOrderUptoRow, standIns := [], harness := (true, "aa1183bf45979e82b1d0bdeed31e41784fb778d6ed6da54982652afad293440d"), looks := true }, kinds := [], alts := [], laidByText := true, laidKinds := [.data, .data, .data, .data, .sentinel, .sentinel, .listed, .data, .pinned], laidTests := true, laidLooks := .later }
def IsoOrderUptoCardSaid : Prop := Claim7.holds Tryz.pinned (.plain (OpenSpec.upto isoOrderSpec)) isoOrderUptoCard

/-- THE SECOND FORM's CARD OF 'bursarlaw20.TradeReads'. -/
def tradeReadsUptoCard : Claim7 := { stood := { row := tradeReadsUptoRow, standIns := [], harness := (true, "aa1183bf45979e82b1d0bdeed31e41784fb778d6ed6da54982652afad293440d"), looks := true }, kinds := [], alts := [], laidByText := true, laidKinds := [.data, .data, .data, .data, .sentinel, .sentinel, .listed, .data, .pinned], laidTests := true, laidLooks := .later }
def TradeReadsUptoCardSaid : Prop := Claim7.holds Tryz.pinned (.plain (OpenSpec.upto tradeReadsSpec)) tradeReadsUptoCard

/-- THE SECOND FORM's CARD OF 'bursarlaw20.TradeKeys'. -/
def tradeKeysUptoCard : Claim7 := { stood := { row := tradeKeysUptoRow, standIns := [], harness := (true, "aa1183bf45979e82b1d0bdeed31e41784fb778d6ed6da54982652afad293440d"), looks := true }, kinds := [], alts := [], laidByText := true, laidKinds := [.data, .data, .data, .data, .sentinel, .sentinel, .listed, .data, .pinned], laidTests := true, laidLooks := .later }
def TradeKeysUptoCardSaid : Prop := Claim7.holds Tryz.pinned (.plain (OpenSpec.upto tradeKeysSpec)) tradeKeysUptoCard

/-- THE SECOND FORM's CARD OF 'bursarlaw20.TradePosts'. -/
def tradePostsUptoCard : Claim7 := { stood := { row := tradePostsUptoRow, standIns := [], harness := (true, "aa1183bf45979e82b1d0bdeed31e41784fb778d6ed6da54982652afad293440d"), looks := true }, kinds := [], alts := [], laidByText := true, laidKinds := [.data, .data, .data, .data, .sentinel, .sentinel, .listed, .data, .pinned], laidTests := true, laidLooks := .later }
def TradePostsUptoCardSaid : Prop := Claim7.holds Tryz.pinned (.plain (OpenSpec.upto tradePostsSpec)) tradePostsUptoCard

/-- THE SECOND FORM's CARD OF 'bursarlaw20.TradeSums'. -/
def tradeSumsUptoCard : Claim7 := { stood := { row := tradeSumsUptoRow, standIns := [], harness := (true, "aa1183bf45979e82b1d0bdeed31e41784fb778d6ed6da54982652afad293440d"), looks := true }, kinds := [], alts := [], laidByText := true, laidKinds := [.data, .data, .data, .data, .sentinel, .sentinel, .listed, .data, .pinned], laidTests := true, laidLooks := .later }
def TradeSumsUptoCardSaid : Prop := Claim7.holds Tryz.pinned (.plain (OpenSpec.upto tradeSumsSpec)) tradeSumsUptoCard
end Rows
end Go.Proofs.YtkgnhjmbnmaboaaGreatDoor
