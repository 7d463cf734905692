/-
  DERIVED. GIVEN WITH THE SEED: THE CARDS: each row of YtnnebljljmpdkaaDoorRows.lean that lists a variable, with what it lists TIED to the program's text (the seventh form; the later family's looks); each row that meets fmt, with fmt's text TOLD by the authors' own Lean function (tested against real Go, not proved from fmt's source: count such statements apart). THE CARD IS WHAT COUNTS. Prove the row's statement (the work); the ties are given (YtnnebljljmpdkaaDoorTie.lean); close each card by the builder's one call (the guide's Derived/Test/ToyasCard.lean, 'card_holds'). Laid BY PROGRAM, IN A SANDBOX (cutbox-door.mjs). By AI agents, Wed Nov 11 2026. No macro, syntax, notation, axiom, sorry.
-/
import Derived.Test.YtnnebljljmpdkaaDoorRows
import GoSem.ClaimSeven
namespace Go.Proofs.YtnnebljljmpdkaaDoor
namespace Rows

/-- THE TIED CARD OF 'bursarlaw12.EntryMoves'. -/
def entryMovesCard : Claim7 := { stood := { row := entryMovesRow, standIns := [], harness := (true, "1d6d50409bfa2ee97996de2408cce1be4afeb24f2b52e15a9f5b65781189beeb"), looks := true }, kinds := [], alts := [], laidByText := true, laidKinds := [.data, .data, .data], laidTests := true, laidLooks := .later }
def EntryMovesCardSaid : Prop := Claim7.holds Tryd.pinned (.plain (OpenSpec.ofChange entryMovesSpec)) entryMovesCard

/-- THE TIED CARD OF 'bursarlaw12.EntryEven'. -/
def entryEvenCard : Claim7 := { stood := { row := entryEvenRow, standIns := [], harness := (true, "1d6d50409bfa2ee97996de2408cce1be4afeb24f2b52e15a9f5b65781189beeb"), looks := true }, kinds := [], alts := [], laidByText := true, laidKinds := [.data, .data, .data], laidTests := true, laidLooks := .later }
def EntryEvenCardSaid : Prop := Claim7.holds Tryd.pinned (.plain (OpenSpec.ofChange entryEvenSpec)) entryEvenCard

/-- THE TIED CARD OF 'bursarlaw12.EntryBack'. -/
def entryBackCard : Claim7 := { stood := { row := entryBackRow, standIns := [], harness := (true, "1d6d50409bfa2ee97996de2408cce1be4afeb24f2b52e15a9f5b65781189beeb"), looks := true }, kinds := [], alts := [], laidByText := true, laidKinds := [.data, .data, .data], laidTests := true, laidLooks := .later }
def EntryBackCardSaid : Prop := Claim7.holds Tryd.pinned (.plain (OpenSpec.ofChange entryBackSpec)) entryBackCard

/-- THE TIED CARD OF 'bursarlaw12.EntryChecks'. -/
def entryChecksCard : Claim7 := { stood := { row := entryChecksRow, standIns := [], harness := (true, "1d6d50409bfa2ee97996de2408cce1be4afeb24f2b52e15a9f5b65781189beeb"), looks := true }, kinds := [], alts := [], laidByText := true, laidKinds := [.data, .data, .data, .data, .sentinel, .sentinel, .pinned], laidTests := true, laidLooks := .later }
def EntryChecksCardSaid : Prop := Claim7.holds Tryd.pinned (.plain (OpenSpec.ofChange entryChecksSpec)) entryChecksCard

/-- THE SECOND FORM's CARD OF 'bursarlaw12.EntryMoves'. -/
def entryMovesUptoCard : Claim7 := { stood := { row := entryMovesUptoRow, standIns := [], harness := (true, "1d6d50409bfa2ee97996de2408cce1be4afeb24f2b52e15a9f5b65781189beeb"), looks := true }, kinds := [], alts := [], laidByText := true, laidKinds := [.data, .data, .data], laidTests := true, laidLooks := .later }
def EntryMovesUptoCardSaid : Prop := Claim7.holds Tryd.pinned (.plain (OpenSpec.upto entryMovesSpec)) entryMovesUptoCard

/-- THE SECOND FORM's CARD OF 'bursarlaw12.EntryEven'. -/
def entryEvenUptoCard : Claim7 := { stood := { row := entryEvenUptoRow, standIns := [], harness := (true, "1d6d50409bfa2ee97996de2408cce1be4afeb24f2b52e15a9f5b65781189beeb"), looks := true }, kinds := [], alts := [], laidByText := true, laidKinds := [.data, .data, .data], laidTests := true, laidLooks := .later }
def EntryEvenUptoCardSaid : Prop := Claim7.holds Tryd.pinned (.plain (OpenSpec.upto entryEvenSpec)) entryEvenUptoCard

/-- THE SECOND FORM's CARD OF 'bursarlaw12.EntryBack'. -/
def entryBackUptoCard : Claim7 := { stood := { row := entryBackUptoRow, standIns := [], harness := (true, "1d6d50409bfa2ee97996de2408cce1be4afeb24f2b52e15a9f5b65781189beeb"), looks := true }, kinds := [], alts := [], laidByText := true, laidKinds := [.data, .data, .data], laidTests := true, laidLooks := .later }
def EntryBackUptoCardSaid : Prop := Claim7.holds Tryd.pinned (.plain (OpenSpec.upto entryBackSpec)) entryBackUptoCard

/-- THE SECOND FORM's CARD OF 'bursarlaw12.EntryChecks'. -/
def entryChecksUptoCard : Claim7 := { stood := { row := entryChecksUptoRow, standIns := [], harness := (true, "1d6d50409bfa2ee97996de2408cce1be4afeb24f2b52e15a9f5b65781189beeb"), looks := true }, kinds := [], alts := [], laidByText := true, laidKinds := [.data, .data, .data, .data, .sentinel, .sentinel, .pinned], laidTests := true, laidLooks := .later }
def EntryChecksUptoCardSaid : Prop := Claim7.holds Tryd.pinned (.plain (OpenSpec.upto entryChecksSpec)) entryChecksUptoCard
end Rows
end Go.Proofs.YtnnebljljmpdkaaDoor
