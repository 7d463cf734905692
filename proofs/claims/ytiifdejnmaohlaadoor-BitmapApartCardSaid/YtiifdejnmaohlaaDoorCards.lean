/-
  DERIVED. GIVEN WITH THE SEED: THE CARDS: each row of YtiifdejnmaohlaaDoorRows.lean that lists a variable, with what it lists TIED to the program's text (the seventh form; the later family's looks); each row that meets fmt, with fmt's text TOLD by the authors' own Lean function (tested against real Go, not proved from fmt's source: count such statements apart). THE CARD IS WHAT COUNTS. Prove the row's statement (the work); the ties are given (YtiifdejnmaohlaaDoorTie.lean); close each card by the builder's one call (the guide's Derived/Test/ToyasCard.lean, 'card_holds'). Laid BY PROGRAM, IN A SANDBOX (cutbox-door.mjs). By AI agents, Wed Nov 11 2026. No macro, syntax, notation, axiom, sorry.
-/
import Derived.Test.YtiifdejnmaohlaaDoorRows
import GoSem.ClaimSeven
namespace Go.Proofs.YtiifdejnmaohlaaDoor
namespace Rows

/-- THE TIED CARD OF 'bursarlaw16.SpecPacks'. -/
def specPacksCard : Claim7 := { stood := { row := specPacksRow, standIns := [], harness := (true, "13b24e5dfa25163ab2f1a08fa0e087a30c90e3f1aeac505018b9aabea3771cef"), looks := true }, kinds := [], alts := [], laidByText := true, laidKinds := [.data, .data, .data, .data, .sentinel, .sentinel, .listed, .data, .pinned], laidTests := true, laidLooks := .later }
def SpecPacksCardSaid : Prop := Claim7.holds Tryd.pinned (.plain (OpenSpec.ofChange specPacksSpec)) specPacksCard

/-- THE TIED CARD OF 'bursarlaw16.SpecApart'. -/
def specApartCard : Claim7 := { stood := { row := specApartRow, standIns := [], harness := (true, "13b24e5dfa25163ab2f1a08fa0e087a30c90e3f1aeac505018b9aabea3771cef"), looks := true }, kinds := [], alts := [], laidByText := true, laidKinds := [.data, .data, .data, .data, .sentinel, .sentinel, .listed, .data, .pinned], laidTests := true, laidLooks := .later }
def SpecApartCardSaid : Prop := Claim7.holds Tryd.pinned (.plain (OpenSpec.ofChange specApartSpec)) specApartCard

/-- THE TIED CARD OF 'bursarlaw16.SpecKinds'. -/
def specKindsCard : Claim7 := { stood := { row := specKindsRow, standIns := [], harness := (true, "13b24e5dfa25163ab2f1a08fa0e087a30c90e3f1aeac505018b9aabea3771cef"), looks := true }, kinds := [], alts := [], laidByText := true, laidKinds := [.data, .data, .data, .data, .sentinel, .sentinel, .listed, .data, .pinned], laidTests := true, laidLooks := .later }
def SpecKindsCardSaid : Prop := Claim7.holds Tryd.pinned (.plain (OpenSpec.ofChange specKindsSpec)) specKindsCard

/-- THE TIED CARD OF 'bursarlaw17.BitmapMaps'. -/
def bitmapMapsCard : Claim7 := { stood := { row := bitmapMapsRow, standIns := [], harness := (true, "13b24e5dfa25163ab2f1a08fa0e087a30c90e3f1aeac505018b9aabea3771cef"), looks := true }, kinds := [], alts := [], laidByText := true, laidKinds := [.data, .data, .data, .data, .sentinel, .sentinel, .listed, .data, .pinned], laidTests := true, laidLooks := .later }
def BitmapMapsCardSaid : Prop := Claim7.holds Tryd.pinned (.plain (OpenSpec.ofChange bitmapMapsSpec)) bitmapMapsCard

/-- THE TIED CARD OF 'bursarlaw17.BitmapApart'. -/
def bitmapApartCard : Claim7 := { stood := { row := bitmapApartRow, standIns := [], harness := (true, "13b24e5dfa25163ab2f1a08fa0e087a30c90e3f1aeac505018b9aabea3771cef"), looks := true }, kinds := [], alts := [], laidByText := true, laidKinds := [.data, .data, .data, .data, .sentinel, .sentinel, .listed, .data, .pinned], laidTests := true, laidLooks := .later }
def BitmapApartCardSaid : Prop := Claim7.holds Tryd.pinned (.plain (OpenSpec.ofChange bitmapApartSpec)) bitmapApartCard

/-- THE TIED CARD OF 'bursarlaw16.SpecTable'. -/
def specTableCard : Claim7 := { stood := { row := specTableRow, standIns := [], harness := (true, "13b24e5dfa25163ab2f1a08fa0e087a30c90e3f1aeac505018b9aabea3771cef"), looks := true }, kinds := [], alts := [], laidByText := true, laidKinds := [.data, .data, .data, .data, .sentinel, .sentinel, .listed, .data, .pinned], laidTests := true, laidLooks := .later }
def SpecTableCardSaid : Prop := Claim7.holds Tryd.pinned (.plain (OpenSpec.ofChange specTableSpec)) specTableCard

/-- THE TIED CARD OF 'bursarlaw17.BitmapReads'. -/
def bitmapReadsCard : Claim7 := { stood := { row := bitmapReadsRow, standIns := [], harness := (true, "13b24e5dfa25163ab2f1a08fa0e087a30c90e3f1aeac505018b9aabea3771cef"), looks := true }, kinds := [], alts := [], laidByText := true, laidKinds := [.data, .data, .data, .data, .sentinel, .sentinel, .listed, .data, .pinned], laidTests := true, laidLooks := .later }
def BitmapReadsCardSaid : Prop := Claim7.holds Tryd.pinned (.plain (OpenSpec.ofChange bitmapReadsSpec)) bitmapReadsCard

/-- THE TIED CARD OF 'bursarlaw17.BitmapOne'. -/
def bitmapOneCard : Claim7 := { stood := { row := bitmapOneRow, standIns := [], harness := (true, "13b24e5dfa25163ab2f1a08fa0e087a30c90e3f1aeac505018b9aabea3771cef"), looks := true }, kinds := [], alts := [], laidByText := true, laidKinds := [.data, .data, .data, .data, .sentinel, .sentinel, .listed, .data, .pinned], laidTests := true, laidLooks := .later }
def BitmapOneCardSaid : Prop := Claim7.holds Tryd.pinned (.plain (OpenSpec.ofChange bitmapOneSpec)) bitmapOneCard

/-- THE TIED CARD OF 'bursarlaw19.IsoLong'. -/
def isoLongCard : Claim7 := { stood := { row := isoLongRow, standIns := [], harness := (true, "13b24e5dfa25163ab2f1a08fa0e087a30c90e3f1aeac505018b9aabea3771cef"), looks := true }, kinds := [], alts := [], laidByText := true, laidKinds := [.data, .data, .data, .data, .sentinel, .sentinel, .listed, .data, .pinned], laidTests := true, laidLooks := .later }
def IsoLongCardSaid : Prop := Claim7.holds Tryd.pinned (.plain (OpenSpec.ofChange isoLongSpec)) isoLongCard

/-- THE SECOND FORM's CARD OF 'bursarlaw16.SpecPacks'. -/
def specPacksUptoCard : Claim7 := { stood := { row := specPacksUptoRow, standIns := [], harness := (true, "13b24e5dfa25163ab2f1a08fa0e087a30c90e3f1aeac505018b9aabea3771cef"), looks := true }, kinds := [], alts := [], laidByText := true, laidKinds := [.data, .data, .data, .data, .sentinel, .sentinel, .listed, .data, .pinned], laidTests := true, laidLooks := .later }
def SpecPacksUptoCardSaid : Prop := Claim7.holds Tryd.pinned (.plain (OpenSpec.upto specPacksSpec)) specPacksUptoCard

/-- THE SECOND FORM's CARD OF 'bursarlaw16.SpecApart'. -/
def specApartUptoCard : Claim7 := { stood := { row := specApartUptoRow, standIns := [], harness := (true, "13b24e5dfa25163ab2f1a08fa0e087a30c90e3f1aeac505018b9aabea3771cef"), looks := true }, kinds := [], alts := [], laidByText := true, laidKinds := [.data, .data, .data, .data, .sentinel, .sentinel, .listed, .data, .pinned], laidTests := true, laidLooks := .later }
def SpecApartUptoCardSaid : Prop := Claim7.holds Tryd.pinned (.plain (OpenSpec.upto specApartSpec)) specApartUptoCard

/-- THE SECOND FORM's CARD OF 'bursarlaw16.SpecKinds'. -/
def specKindsUptoCard : Claim7 := { stood := { row := specKindsUptoRow, standIns := [], harness := (true, "13b24e5dfa25163ab2f1a08fa0e087a30c90e3f1aeac505018b9aabea3771cef"), looks := true }, kinds := [], alts := [], laidByText := true, laidKinds := [.data, .data, .data, .data, .sentinel, .sentinel, .listed, .data, .pinned], laidTests := true, laidLooks := .later }
def SpecKindsUptoCardSaid : Prop := Claim7.holds Tryd.pinned (.plain (OpenSpec.upto specKindsSpec)) specKindsUptoCard

/-- THE SECOND FORM's CARD OF 'bursarlaw17.BitmapMaps'. -/
def bitmapMapsUptoCard : Claim7 := { stood := { row := bitmapMapsUptoRow, standIns := [], harness := (true, "13b24e5dfa25163ab2f1a08fa0e087a30c90e3f1aeac505018b9aabea3771cef"), looks := true }, kinds := [], alts := [], laidByText := true, laidKinds := [.data, .data, .data, .data, .sentinel, .sentinel, .listed, .data, .pinned], laidTests := true, laidLooks := .later }
def BitmapMapsUptoCardSaid : Prop := Claim7.holds Tryd.pinned (.plain (OpenSpec.upto bitmapMapsSpec)) bitmapMapsUptoCard

/-- THE SECOND FORM's CARD OF 'bursarlaw17.BitmapApart'. -/
def bitmapApartUptoCard : Claim7 := { stood := { row := bitmapApartUptoRow, standIns := [], harness := (true, "13b24e5dfa25163ab2f1a08fa0e087a30c90e3f1aeac505018b9aabea3771cef"), looks := true }, kinds := [], alts := [], laidByText := true, laidKinds := [.data, .data, .data, .data, .sentinel, .sentinel, .listed, .data, .pinned], laidTests := true, laidLooks := .later }
def BitmapApartUptoCardSaid : Prop := Claim7.holds Tryd.pinned (.plain (OpenSpec.upto bitmapApartSpec)) bitmapApartUptoCard

/-- THE SECOND FORM's CARD OF 'bursarlaw16.SpecTable'. -/
def specTableUptoCard : Claim7 := { stood := { row := specTableUptoRow, standIns := [], harness := (true, "13b24e5dfa25163ab2f1a08fa0e087a30c90e3f1aeac505018b9aabea3771cef"), looks := true }, kinds := [], alts := [], laidByText := true, laidKinds := [.data, .data, .data, .data, .sentinel, .sentinel, .listed, .data, .pinned], laidTests := true, laidLooks := .later }
def SpecTableUptoCardSaid : Prop := Claim7.holds Tryd.pinned (.plain (OpenSpec.upto specTableSpec)) specTableUptoCard

/-- THE SECOND FORM's CARD OF 'bursarlaw17.BitmapReads'. -/
def bitmapReadsUptoCard : Claim7 := { stood := { row := bitmapReadsUptoRow, standIns := [], harness := (true, "13b24e5dfa25163ab2f1a08fa0e087a30c90e3f1aeac505018b9aabea3771cef"), looks := true }, kinds := [], alts := [], laidByText := true, laidKinds := [.data, .data, .data, .data, .sentinel, .sentinel, .listed, .data, .pinned], laidTests := true, laidLooks := .later }
def BitmapReadsUptoCardSaid : Prop := Claim7.holds Tryd.pinned (.plain (OpenSpec.upto bitmapReadsSpec)) bitmapReadsUptoCard

/-- THE SECOND FORM's CARD OF 'bursarlaw17.BitmapOne'. -/
def bitmapOneUptoCard : Claim7 := { stood := { row := bitmapOneUptoRow, standIns := [], harness := (true, "13b24e5dfa25163ab2f1a08fa0e087a30c90e3f1aeac505018b9aabea3771cef"), looks := true }, kinds := [], alts := [], laidByText := true, laidKinds := [.data, .data, .data, .data, .sentinel, .sentinel, .listed, .data, .pinned], laidTests := true, laidLooks := .later }
def BitmapOneUptoCardSaid : Prop := Claim7.holds Tryd.pinned (.plain (OpenSpec.upto bitmapOneSpec)) bitmapOneUptoCard

/-- THE SECOND FORM's CARD OF 'bursarlaw19.IsoLong'. -/
def isoLongUptoCard : Claim7 := { stood := { row := isoLongUptoRow, standIns := [], harness := (true, "13b24e5dfa25163ab2f1a08fa0e087a30c90e3f1aeac505018b9aabea3771cef"), looks := true }, kinds := [], alts := [], laidByText := true, laidKinds := [.data, .data, .data, .data, .sentinel, .sentinel, .listed, .data, .pinned], laidTests := true, laidLooks := .later }
def IsoLongUptoCardSaid : Prop := Claim7.holds Tryd.pinned (.plain (OpenSpec.upto isoLongSpec)) isoLongUptoCard
end Rows
end Go.Proofs.YtiifdejnmaohlaaDoor
