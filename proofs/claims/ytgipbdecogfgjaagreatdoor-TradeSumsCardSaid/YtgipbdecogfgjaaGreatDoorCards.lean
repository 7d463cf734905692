/-
  DERIVED. GIVEN WITH THE SEED: THE CARDS: each row of YtgipbdecogfgjaaGreatDoorRows.lean that lists a variable, with what it lists TIED to the program's text (the seventh form; the later family's looks); each row that meets fmt, with fmt's text TOLD by the authors' own Lean function (tested against real Go, not proved from fmt's source: count such statements apart). THE CARD IS WHAT COUNTS. Prove the row's statement (the work); the ties are given (YtgipbdecogfgjaaGreatDoorTie.lean); close each card by the builder's one call (the guide's Derived/Test/ToyasCard.lean, 'card_holds'). Laid BY PROGRAM, IN A SANDBOX (cutbox-door.mjs). By AI agents, Wed Nov 11 2026. No macro, syntax, notation, axiom, sorry.
-/
import Derived.Test.YtgipbdecogfgjaaGreatDoorRows
import GoSem.ClaimSeven
namespace Go.Proofs.YtgipbdecogfgjaaGreatDoor
namespace Rows

/-- THE TIED CARD OF 'bursarlaw20.TradeSums'. -/
def tradeSumsCard : Claim7 := { stood := { row := tradeSumsRow, standIns := [], harness := (true, "90f2a6b345cb8672bb7bf1b2d0e14e7fa8a68a8fce524c691855a8d9f09ada30"), looks := true }, kinds := [], alts := [], laidByText := true, laidKinds := [.data, .data, .data, .data, .sentinel, .sentinel, .listed, .data, .pinned], laidTests := true, laidLooks := .later }
def TradeSumsCardSaid : Prop := Claim7.holds Tryz.pinned (.plain (OpenSpec.ofChange tradeSumsSpec)) tradeSumsCard

/-- THE SECOND FORM's CARD OF 'bursarlaw20.TradeSums'. -/
def tradeSumsUptoCard : Claim7 := { stood := { row := tradeSumsUptoRow, standIns := [], harness := (true, "90f2a6b345cb8672bb7bf1b2d0e14e7fa8a68a8fce524c691855a8d9f09ada30"), looks := true }, kinds := [], alts := [], laidByText := true, laidKinds := [.data, .data, .data, .data, .sentinel, .sentinel, .listed, .data, .pinned], laidTests := true, laidLooks := .later }
def TradeSumsUptoCardSaid : Prop := Claim7.holds Tryz.pinned (.plain (OpenSpec.upto tradeSumsSpec)) tradeSumsUptoCard
end Rows
end Go.Proofs.YtgipbdecogfgjaaGreatDoor
