/-
  DERIVED. GIVEN WITH THE SEED: THE CARDS: each row of YtkgnhjmbnmaboaaDoorRows.lean that lists a variable, with what it lists TIED to the program's text (the seventh form; the later family's looks); each row that meets fmt, with fmt's text TOLD by the authors' own Lean function (tested against real Go, not proved from fmt's source: count such statements apart). THE CARD IS WHAT COUNTS. Prove the row's statement (the work); the ties are given (YtkgnhjmbnmaboaaDoorTie.lean); close each card by the builder's one call (the guide's Derived/Test/ToyasCard.lean, 'card_holds'). Laid BY PROGRAM, IN A SANDBOX (cutbox-door.mjs). By AI agents, Wed Nov 11 2026. No macro, syntax, notation, axiom, sorry.
-/
import Derived.Test.YtkgnhjmbnmaboaaDoorRows
import GoSem.ClaimSeven
namespace Go.Proofs.YtkgnhjmbnmaboaaDoor
namespace Rows

/-- THE TIED CARD OF 'bursarlaw12.EntryMoves'. -/
def entryMovesCard : Claim7 := { stood := { row := entryMovesRow, standIns := [], harness := (true, "2e0c885f8446b61dc3283b514c59b90490802f1eb18fc4e80228db72dbdbad7b"), looks := true }, kinds := [], alts := [], laidByText := true, laidKinds := [.data, .data, .data], laidTests := true, laidLooks := .later }
def EntryMovesCardSaid : Prop := Claim7.holds Tryd.pinned (.plain (OpenSpec.ofChange entryMovesSpec)) entryMovesCard

/-- THE TIED CARD OF 'bursarlaw12.EntryEven'. -/
def entryEvenCard : Claim7 := { stood := { row := entryEvenRow, standIns := [], harness := (true, "2e0c885f8446b61dc3283b514c59b90490802f1eb18fc4e80228db72dbdbad7b"), looks := true }, kinds := [], alts := [], laidByText := true, laidKinds := [.data, .data, .data], laidTests := true, laidLooks := .later }
def EntryEvenCardSaid : Prop := Claim7.holds Tryd.pinned (.plain (OpenSpec.ofChange entryEvenSpec)) entryEvenCard

/-- THE TIED CARD OF 'bursarlaw12.EntryBack'. -/
def entryBackCard : Claim7 := { stood := { row := entryBackRow, standIns := [], harness := (true, "2e0c885f8446b61dc3283b514c59b90490802f1eb18fc4e80228db72dbdbad7b"), looks := true }, kinds := [], alts := [], laidByText := true, laidKinds := [.data, .data, .data], laidTests := true, laidLooks := .later }
def EntryBackCardSaid : Prop := Claim7.holds Tryd.pinned (.plain (OpenSpec.ofChange entryBackSpec)) entryBackCard

/-- THE TIED CARD OF 'bursarlaw12.EntryChecks'. -/
def entryChecksCard : Claim7 := { stood := { row := entryChecksRow, standIns := [], harness := (true, "2e0c885f8446b61dc3283b514c59b90490802f1eb18fc4e80228db72dbdbad7b"), looks := true }, kinds := [], alts := [], laidByText := true, laidKinds := [.data, .data, .data, .data, .sentinel, .sentinel, .pinned], laidTests := true, laidLooks := .later }
def EntryChecksCardSaid : Prop := Claim7.holds Tryd.pinned (.plain (OpenSpec.ofChange entryChecksSpec)) entryChecksCard

/-- THE TIED CARD OF 'bursarlaw16.SpecTable'. -/
def specTableCard : Claim7 := { stood := { row := specTableRow, standIns := [], harness := (true, "2e0c885f8446b61dc3283b514c59b90490802f1eb18fc4e80228db72dbdbad7b"), looks := true }, kinds := [], alts := [], laidByText := true, laidKinds := [.data, .data, .data, .data, .sentinel, .sentinel, .listed, .data, .pinned], laidTests := true, laidLooks := .later }
def SpecTableCardSaid : Prop := Claim7.holds Tryd.pinned (.plain (OpenSpec.ofChange specTableSpec)) specTableCard

/-- THE TIED CARD OF 'bursarlaw17.BitmapReads'. -/
def bitmapReadsCard : Claim7 := { stood := { row := bitmapReadsRow, standIns := [], harness := (true, "2e0c885f8446b61dc3283b514c59b90490802f1eb18fc4e80228db72dbdbad7b"), looks := true }, kinds := [], alts := [], laidByText := true, laidKinds := [.data, .data, .data, .data, .sentinel, .sentinel, .listed, .data, .pinned], laidTests := true, laidLooks := .later }
def BitmapReadsCardSaid : Prop := Claim7.holds Tryd.pinned (.plain (OpenSpec.ofChange bitmapReadsSpec)) bitmapReadsCard

/-- THE TIED CARD OF 'bursarlaw17.BitmapOne'. -/
def bitmapOneCard : Claim7 := { stood := { row := bitmapOneRow, standIns := [], harness := (true, "2e0c885f8446b61dc3283b514c59b90490802f1eb18fc4e80228db72dbdbad7b"), looks := true }, kinds := [], alts := [], laidByText := true, laidKinds := [.data, .data, .data, .data, .sentinel, .sentinel, .listed, .data, .pinned], laidTests := true, laidLooks := .later }
def BitmapOneCardSaid : Prop := Claim7.holds Tryd.pinned (.plain (OpenSpec.ofChange bitmapOneSpec)) bitmapOneCard

/-- THE TIED CARD OF 'bursarlaw19.IsoLong'. -/
def isoLongCard : Claim7 := { stood := { row := isoLongRow, standIns := [], harness := (true, "2e0c885f8446b61dc3283b514c59b90490802f1eb18fc4e80228db72dbdbad7b"), looks := true }, kinds := [], alts := [], laidByText := true, laidKinds := [.data, .data, .data, .data, .sentinel, .sentinel, .listed, .data, .pinned], laidTests := true, laidLooks := .later }
def IsoLongCardSaid : Prop := Claim7.holds Tryd.pinned (.plain (OpenSpec.ofChange isoLongSpec)) isoLongCard

/-- THE SECOND FORM's CARD OF 'bursarlaw12.EntryMoves'. -/
def entryMovesUptoCard : Claim7 := { stood := { row := entryMovesUptoRow, standIns := [], harness := (true, "2e0c885f8446b61dc3283b514c59b90490802f1eb18fc4e80228db72dbdbad7b"), looks := true }, kinds := [], alts := [], laidByText := true, laidKinds := [.data, .data, .data], laidTests := true, laidLooks := .later }
def EntryMovesUptoCardSaid : Prop := Claim7.holds Tryd.pinned (.plain (OpenSpec.upto entryMovesSpec)) entryMovesUptoCard

/-- THE SECOND FORM's CARD OF 'bursarlaw12.EntryEven'. -/
def entryEvenUptoCard : Claim7 := { stood := { row := entryEvenUptoRow, standIns := [], harness := (true, "2e0c885f8446b61dc3283b514c59b90490802f1eb18fc4e80228db72dbdbad7b"), looks := true }, kinds := [], alts := [], laidByText := true, laidKinds := [.data, .data, .data], laidTests := true, laidLooks := .later }
def EntryEvenUptoCardSaid : Prop := Claim7.holds Tryd.pinned (.plain (OpenSpec.upto entryEvenSpec)) entryEvenUptoCard

/-- THE SECOND FORM's CARD OF 'bursarlaw12.EntryBack'. -/
def entryBackUptoCard : Claim7 := { stood := { row := entryBackUptoRow, standIns := [], harness := (true, "2e0c885f8446b61dc3283b514c59b90490802f1eb18fc4e80228db72dbdbad7b"), looks := true }, kinds := [], alts := [], laidByText := true, laidKinds := [.data, .data, .data], laidTests := true, laidLooks := .later }
def EntryBackUptoCardSaid : Prop := Claim7.holds Tryd.pinned (.plain (OpenSpec.upto entryBackSpec)) entryBackUptoCard

/-- THE SECOND FORM's CARD OF 'bursarlaw12.EntryChecks'. -/
def entryChecksUptoCard : Claim7 := { stood := { row := entryChecksUptoRow, standIns := [], harness := (true, "2e0c885f8446b61dc3283b514c59b90490802f1eb18fc4e80228db72dbdbad7b"), looks := true }, kinds := [], alts := [], laidByText := true, laidKinds := [.data, .data, .data, .data, .sentinel, .sentinel, .pinned], laidTests := true, laidLooks := .later }
def EntryChecksUptoCardSaid : Prop := Claim7.holds Tryd.pinned (.plain (OpenSpec.upto entryChecksSpec)) entryChecksUptoCard

/-- THE SECOND FORM's CARD OF 'bursarlaw16.SpecTable'. -/
def specTableUptoCard : Claim7 := { stood := { row := specTableUptoRow, standIns := [], harness := (true, "2e0c885f8446b61dc3283b514c59b90490802f1eb18fc4e80228db72dbdbad7b"), looks := true }, kinds := [], alts := [], laidByText := true, laidKinds := [.data, .data, .data, .data, .sentinel, .sentinel, .listed, .data, .pinned], laidTests := true, laidLooks := .later }
def SpecTableUptoCardSaid : Prop := Claim7.holds Tryd.pinned (.plain (OpenSpec.upto specTableSpec)) specTableUptoCard

/-- THE SECOND FORM's CARD OF 'bursarlaw17.BitmapReads'. -/
def bitmapReadsUptoCard : Claim7 := { stood := { row := bitmapReadsUptoRow, standIns := [], harness := (true, "2e0c885f8446b61dc3283b514c59b90490802f1eb18fc4e80228db72dbdbad7b"), looks := true }, kinds := [], alts := [], laidByText := true, laidKinds := [.data, .data, .data, .data, .sentinel, .sentinel, .listed, .data, .pinned], laidTests := true, laidLooks := .later }
def BitmapReadsUptoCardSaid : Prop := Claim7.holds Tryd.pinned (.plain (OpenSpec.upto bitmapReadsSpec)) bitmapReadsUptoCard

/-- THE SECOND FORM's CARD OF 'bursarlaw17.BitmapOne'. -/
def bitmapOneUptoCard : Claim7 := { stood := { row := bitmapOneUptoRow, standIns := [], harness := (true, "2e0c885f8446b61dc3283b514c59b90490802f1eb18fc4e80228db72dbdbad7b"), looks := true }, kinds := [], alts := [], laidByText := true, laidKinds := [.data, .data, .data, .data, .sentinel, .sentinel, .listed, .data, .pinned], laidTests := true, laidLooks := .later }
def BitmapOneUptoCardSaid : Prop := Claim7.holds Tryd.pinned (.plain (OpenSpec.upto bitmapOneSpec)) bitmapOneUptoCard

/-- THE SECOND FORM's CARD OF 'bursarlaw19.IsoLong'. -/
def isoLongUptoCard : Claim7 := { stood := { row := isoLongUptoRow, standIns := [], harness := (true, "2e0c885f8446b61dc3283b514c59b90490802f1eb18fc4e80228db72dbdbad7b"), looks := true }, kinds := [], alts := [], laidByText := true, laidKinds := [.data, .data, .data, .data, .sentinel, .sentinel, .listed, .data, .pinned], laidTests := true, laidLooks := .later }
def IsoLongUptoCardSaid : Prop := Claim7.holds Tryd.pinned (.plain (OpenSpec.upto isoLongSpec)) isoLongUptoCard
end Rows
end Go.Proofs.YtkgnhjmbnmaboaaDoor
