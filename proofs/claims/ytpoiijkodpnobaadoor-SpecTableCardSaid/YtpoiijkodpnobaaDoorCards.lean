/-
  DERIVED. GIVEN WITH THE SEED: THE CARDS: each row of YtpoiijkodpnobaaDoorRows.lean that lists a variable, with what it lists TIED to the program's text (the seventh form; the later family's looks); each row that meets fmt, with fmt's text TOLD by the authors' own Lean function (tested against real Go, not proved from fmt's source: count such statements apart). THE CARD IS WHAT COUNTS. Prove the row's statement (the work); the ties are given (YtpoiijkodpnobaaDoorTie.lean); close each card by the builder's one call (the guide's Derived/Test/ToyasCard.lean, 'card_holds'). Laid BY PROGRAM, IN A SANDBOX (cutbox-door.mjs). By AI agents, Wed Nov 11 2026. No macro, syntax, notation, axiom, sorry.
-/
import Derived.Test.YtpoiijkodpnobaaDoorRows
import GoSem.ClaimSeven
namespace Go.Proofs.YtpoiijkodpnobaaDoor
namespace Rows

/-- THE TIED CARD OF 'bursarlaw16.SpecTable'. -/
def specTableCard : Claim7 := { stood := { row := specTableRow, standIns := [], harness := (true, "70d159cf72eee3b08d425f38a00a86315e43181f833f49ac6c999127a4552fb0"), looks := true }, kinds := [], alts := [], laidByText := true, laidKinds := [.data, .data, .data, .data, .sentinel, .sentinel, .listed, .data, .pinned], laidTests := true, laidLooks := .later }
def SpecTableCardSaid : Prop := Claim7.holds Tryd.pinned (.plain (OpenSpec.ofChange specTableSpec)) specTableCard

/-- THE SECOND FORM's CARD OF 'bursarlaw16.SpecTable'. -/
def specTableUptoCard : Claim7 := { stood := { row := specTableUptoRow, standIns := [], harness := (true, "70d159cf72eee3b08d425f38a00a86315e43181f833f49ac6c999127a4552fb0"), looks := true }, kinds := [], alts := [], laidByText := true, laidKinds := [.data, .data, .data, .data, .sentinel, .sentinel, .listed, .data, .pinned], laidTests := true, laidLooks := .later }
def SpecTableUptoCardSaid : Prop := Claim7.holds Tryd.pinned (.plain (OpenSpec.upto specTableSpec)) specTableUptoCard
end Rows
end Go.Proofs.YtpoiijkodpnobaaDoor
