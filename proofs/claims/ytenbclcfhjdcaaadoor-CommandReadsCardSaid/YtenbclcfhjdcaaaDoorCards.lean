/-
  DERIVED. GIVEN WITH THE SEED: THE CARDS: each row of YtenbclcfhjdcaaaDoorRows.lean that lists a variable, with what it lists TIED to the program's text (the seventh form; the later family's looks); each row that meets fmt, with fmt's text TOLD by the authors' own Lean function (tested against real Go, not proved from fmt's source: count such statements apart). THE CARD IS WHAT COUNTS. Prove the row's statement (the work); the ties are given (YtenbclcfhjdcaaaDoorTie.lean); close each card by the builder's one call (the guide's Derived/Test/ToyasCard.lean, 'card_holds'). Laid BY PROGRAM, IN A SANDBOX (cutbox-door.mjs). By AI agents, Wed Nov 11 2026. No macro, syntax, notation, axiom, sorry.
-/
import Derived.Test.YtenbclcfhjdcaaaDoorRows
import GoSem.ClaimSeven
namespace Go.Proofs.YtenbclcfhjdcaaaDoor
namespace Rows

/-- THE TIED CARD OF 'incipitlaw06.BitmapPlays'. -/
def bitmapPlaysCard : Claim7 := { stood := { row := bitmapPlaysRow, standIns := [], harness := (true, "178aec121b17cf7bb413eca47d8a3f825e1c7998125cd87932efd1ea8bad0e74"), looks := false }, kinds := [], alts := [], laidByText := true, laidKinds := [.data], laidTests := true, laidLooks := .later }
def BitmapPlaysCardSaid : Prop := Claim7.holds Tryd.pinned (.plain (OpenSpec.ofChange bitmapPlaysSpec)) bitmapPlaysCard

/-- THE TIED CARD OF 'incipitlaw06.BitmapParses'. -/
def bitmapParsesCard : Claim7 := { stood := { row := bitmapParsesRow, standIns := [], harness := (true, "178aec121b17cf7bb413eca47d8a3f825e1c7998125cd87932efd1ea8bad0e74"), looks := false }, kinds := [], alts := [], laidByText := true, laidKinds := [.data], laidTests := true, laidLooks := .later }
def BitmapParsesCardSaid : Prop := Claim7.holds Tryd.pinned (.plain (OpenSpec.ofChange bitmapParsesSpec)) bitmapParsesCard

/-- THE TIED CARD OF 'incipitlaw06.BitmapSets'. -/
def bitmapSetsCard : Claim7 := { stood := { row := bitmapSetsRow, standIns := [], harness := (true, "178aec121b17cf7bb413eca47d8a3f825e1c7998125cd87932efd1ea8bad0e74"), looks := false }, kinds := [], alts := [], laidByText := true, laidKinds := [.data], laidTests := true, laidLooks := .later }
def BitmapSetsCardSaid : Prop := Claim7.holds Tryd.pinned (.plain (OpenSpec.ofChange bitmapSetsSpec)) bitmapSetsCard

/-- THE TIED CARD OF 'incipitlaw06.BitmapNil'. -/
def bitmapNilCard : Claim7 := { stood := { row := bitmapNilRow, standIns := [], harness := (true, "178aec121b17cf7bb413eca47d8a3f825e1c7998125cd87932efd1ea8bad0e74"), looks := false }, kinds := [], alts := [], laidByText := true, laidKinds := [.data], laidTests := true, laidLooks := .later }
def BitmapNilCardSaid : Prop := Claim7.holds Tryd.pinned (.plain (OpenSpec.ofChange bitmapNilSpec)) bitmapNilCard

/-- THE TIED CARD OF 'incipitlaw30.CommandBytes'. -/
def commandBytesCard : Claim7 := { stood := { row := commandBytesRow, standIns := [], harness := (true, "178aec121b17cf7bb413eca47d8a3f825e1c7998125cd87932efd1ea8bad0e74"), looks := false }, kinds := [], alts := [], laidByText := true, laidKinds := [.listed, .data], laidTests := true, laidLooks := .later }
def CommandBytesCardSaid : Prop := Claim7.holds Tryd.pinned (.plain (OpenSpec.ofChange commandBytesSpec)) commandBytesCard

/-- THE TIED CARD OF 'incipitlaw30.CommandReads'. -/
def commandReadsCard : Claim7 := { stood := { row := commandReadsRow, standIns := [], harness := (true, "178aec121b17cf7bb413eca47d8a3f825e1c7998125cd87932efd1ea8bad0e74"), looks := false }, kinds := [], alts := [], laidByText := true, laidKinds := [.listed, .data], laidTests := true, laidLooks := .later }
def CommandReadsCardSaid : Prop := Claim7.holds Tryd.pinned (.plain (OpenSpec.ofChange commandReadsSpec)) commandReadsCard

/-- THE SECOND FORM's CARD OF 'incipitlaw06.BitmapPlays'. -/
def bitmapPlaysUptoCard : Claim7 := { stood := { row := bitmapPlaysUptoRow, standIns := [], harness := (true, "178aec121b17cf7bb413eca47d8a3f825e1c7998125cd87932efd1ea8bad0e74"), looks := false }, kinds := [], alts := [], laidByText := true, laidKinds := [.data], laidTests := true, laidLooks := .later }
def BitmapPlaysUptoCardSaid : Prop := Claim7.holds Tryd.pinned (.plain (OpenSpec.upto bitmapPlaysSpec)) bitmapPlaysUptoCard

/-- THE SECOND FORM's CARD OF 'incipitlaw06.BitmapParses'. -/
def bitmapParsesUptoCard : Claim7 := { stood := { row := bitmapParsesUptoRow, standIns := [], harness := (true, "178aec121b17cf7bb413eca47d8a3f825e1c7998125cd87932efd1ea8bad0e74"), looks := false }, kinds := [], alts := [], laidByText := true, laidKinds := [.data], laidTests := true, laidLooks := .later }
def BitmapParsesUptoCardSaid : Prop := Claim7.holds Tryd.pinned (.plain (OpenSpec.upto bitmapParsesSpec)) bitmapParsesUptoCard

/-- THE SECOND FORM's CARD OF 'incipitlaw06.BitmapSets'. -/
def bitmapSetsUptoCard : Claim7 := { stood := { row := bitmapSetsUptoRow, standIns := [], harness := (true, "178aec121b17cf7bb413eca47d8a3f825e1c7998125cd87932efd1ea8bad0e74"), looks := false }, kinds := [], alts := [], laidByText := true, laidKinds := [.data], laidTests := true, laidLooks := .later }
def BitmapSetsUptoCardSaid : Prop := Claim7.holds Tryd.pinned (.plain (OpenSpec.upto bitmapSetsSpec)) bitmapSetsUptoCard

/-- THE SECOND FORM's CARD OF 'incipitlaw06.BitmapNil'. -/
def bitmapNilUptoCard : Claim7 := { stood := { row := bitmapNilUptoRow, standIns := [], harness := (true, "178aec121b17cf7bb413eca47d8a3f825e1c7998125cd87932efd1ea8bad0e74"), looks := false }, kinds := [], alts := [], laidByText := true, laidKinds := [.data], laidTests := true, laidLooks := .later }
def BitmapNilUptoCardSaid : Prop := Claim7.holds Tryd.pinned (.plain (OpenSpec.upto bitmapNilSpec)) bitmapNilUptoCard

/-- THE SECOND FORM's CARD OF 'incipitlaw30.CommandBytes'. -/
def commandBytesUptoCard : Claim7 := { stood := { row := commandBytesUptoRow, standIns := [], harness := (true, "178aec121b17cf7bb413eca47d8a3f825e1c7998125cd87932efd1ea8bad0e74"), looks := false }, kinds := [], alts := [], laidByText := true, laidKinds := [.listed, .data], laidTests := true, laidLooks := .later }
def CommandBytesUptoCardSaid : Prop := Claim7.holds Tryd.pinned (.plain (OpenSpec.upto commandBytesSpec)) commandBytesUptoCard

/-- THE SECOND FORM's CARD OF 'incipitlaw30.CommandReads'. -/
def commandReadsUptoCard : Claim7 := { stood := { row := commandReadsUptoRow, standIns := [], harness := (true, "178aec121b17cf7bb413eca47d8a3f825e1c7998125cd87932efd1ea8bad0e74"), looks := false }, kinds := [], alts := [], laidByText := true, laidKinds := [.listed, .data], laidTests := true, laidLooks := .later }
def CommandReadsUptoCardSaid : Prop := Claim7.holds Tryd.pinned (.plain (OpenSpec.upto commandReadsSpec)) commandReadsUptoCard
end Rows
end Go.Proofs.YtenbclcfhjdcaaaDoor
