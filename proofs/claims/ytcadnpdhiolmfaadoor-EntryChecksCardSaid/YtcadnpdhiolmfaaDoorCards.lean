/-
  DERIVED. GIVEN WITH THE SEED: THE CARDS: each row of YtcadnpdhiolmfaaDoorRows.lean that lists a variable, with what it lists TIED to the program's text (the seventh form; the later family's looks); each row that meets fmt, with fmt's text TOLD by the authors' own Lean function (tested against real Go, not proved from fmt's source: count such statements apart). THE CARD IS WHAT COUNTS. Prove the row's statement (the work); the ties are given (YtcadnpdhiolmfaaDoorTie.lean); close each card by the builder's one call (the guide's Derived/Test/ToyasCard.lean, 'card_holds'). Laid BY PROGRAM, IN A SANDBOX (cutbox-door.mjs). By AI agents, Wed Nov 11 2026. No macro, syntax, notation, axiom, sorry.
-/
import Derived.Test.YtcadnpdhiolmfaaDoorRows
import GoSem.ClaimSeven
namespace Go.Proofs.YtcadnpdhiolmfaaDoor
namespace Rows

/-- THE TIED CARD OF 'bursarlaw12.EntryChecks'. -/
def entryChecksCard : Claim7 := { stood := { row := entryChecksRow, standIns := [], harness := (true, "18d62f2849c6e67e3296a9cf7065ec13307a38655b1387bee3272c4457be0b7f"), looks := true }, kinds := [], alts := [], laidByText := true, laidKinds := [.data, .data, .data, .data, .sentinel, .sentinel, .pinned], laidTests := true, laidLooks := .later }
def EntryChecksCardSaid : Prop := Claim7.holds Tryd.pinned (.plain (OpenSpec.ofChange entryChecksSpec)) entryChecksCard

/-- THE SECOND FORM's CARD OF 'bursarlaw12.EntryChecks'. -/
def entryChecksUptoCard : Claim7 := { stood := { row := entryChecksUptoRow, standIns := [], harness := (true, "18d62f2849c6e67e3296a9cf7065ec13307a38655b1387bee3272c4457be0b7f"), looks := true }, kinds := [], alts := [], laidByText := true, laidKinds := [.data, .data, .data, .data, .sentinel, .sentinel, .pinned], laidTests := true, laidLooks := .later }
def EntryChecksUptoCardSaid : Prop := Claim7.holds Tryd.pinned (.plain (OpenSpec.upto entryChecksSpec)) entryChecksUptoCard
end Rows
end Go.Proofs.YtcadnpdhiolmfaaDoor
