/-
  DERIVED. GIVEN WITH THE SEED: THE CARDS: each row of YtldhfdagmaklaaaDoorRows.lean that lists a variable, with what it lists TIED to the program's text (the seventh form; the later family's looks); each row that meets fmt, with fmt's text TOLD by the authors' own Lean function (tested against real Go, not proved from fmt's source: count such statements apart). THE CARD IS WHAT COUNTS. Prove the row's statement (the work); the ties are given (YtldhfdagmaklaaaDoorTie.lean); close each card by the builder's one call (the guide's Derived/Test/ToyasCard.lean, 'card_holds'). Laid BY PROGRAM, IN A SANDBOX (cutbox-door.mjs). By AI agents, Wed Nov 11 2026. No macro, syntax, notation, axiom, sorry.
-/
import Derived.Test.YtldhfdagmaklaaaDoorRows
import GoSem.ClaimSeven
namespace Go.Proofs.YtldhfdagmaklaaaDoor
namespace Rows

/-- THE TIED CARD OF 'incipitlaw07.AllocParts'. -/
def allocPartsCard : Claim7 := { stood := { row := allocPartsRow, standIns := [], harness := (true, "1329de1b8139300099cde22d63d7e0bc88370d2b790c66f1919718f99002b190"), looks := false }, kinds := [], alts := [], laidByText := true, laidKinds := [.data], laidTests := true, laidLooks := .later }
def AllocPartsCardSaid : Prop := Claim7.holds Tryd.pinned (.plain (OpenSpec.ofChange allocPartsSpec)) allocPartsCard

/-- THE TIED CARD OF 'incipitlaw07.AllocPlays'. -/
def allocPlaysCard : Claim7 := { stood := { row := allocPlaysRow, standIns := [], harness := (true, "1329de1b8139300099cde22d63d7e0bc88370d2b790c66f1919718f99002b190"), looks := false }, kinds := [], alts := [], laidByText := true, laidKinds := [.data], laidTests := true, laidLooks := .later }
def AllocPlaysCardSaid : Prop := Claim7.holds Tryd.pinned (.plain (OpenSpec.ofChange allocPlaysSpec)) allocPlaysCard

/-- THE TIED CARD OF 'incipitlaw07.AllocAborts'. -/
def allocAbortsCard : Claim7 := { stood := { row := allocAbortsRow, standIns := [], harness := (true, "1329de1b8139300099cde22d63d7e0bc88370d2b790c66f1919718f99002b190"), looks := false }, kinds := [], alts := [], laidByText := true, laidKinds := [.data], laidTests := true, laidLooks := .later }
def AllocAbortsCardSaid : Prop := Claim7.holds Tryd.pinned (.plain (OpenSpec.ofChange allocAbortsSpec)) allocAbortsCard

/-- THE TIED CARD OF 'incipitlaw07.AllocNil'. -/
def allocNilCard : Claim7 := { stood := { row := allocNilRow, standIns := [], harness := (true, "1329de1b8139300099cde22d63d7e0bc88370d2b790c66f1919718f99002b190"), looks := false }, kinds := [], alts := [], laidByText := true, laidKinds := [.data], laidTests := true, laidLooks := .later }
def AllocNilCardSaid : Prop := Claim7.holds Tryd.pinned (.plain (OpenSpec.ofChange allocNilSpec)) allocNilCard

/-- THE SECOND FORM's CARD OF 'incipitlaw07.AllocParts'. -/
def allocPartsUptoCard : Claim7 := { stood := { row := allocPartsUptoRow, standIns := [], harness := (true, "1329de1b8139300099cde22d63d7e0bc88370d2b790c66f1919718f99002b190"), looks := false }, kinds := [], alts := [], laidByText := true, laidKinds := [.data], laidTests := true, laidLooks := .later }
def AllocPartsUptoCardSaid : Prop := Claim7.holds Tryd.pinned (.plain (OpenSpec.upto allocPartsSpec)) allocPartsUptoCard

/-- THE SECOND FORM's CARD OF 'incipitlaw07.AllocPlays'. -/
def allocPlaysUptoCard : Claim7 := { stood := { row := allocPlaysUptoRow, standIns := [], harness := (true, "1329de1b8139300099cde22d63d7e0bc88370d2b790c66f1919718f99002b190"), looks := false }, kinds := [], alts := [], laidByText := true, laidKinds := [.data], laidTests := true, laidLooks := .later }
def AllocPlaysUptoCardSaid : Prop := Claim7.holds Tryd.pinned (.plain (OpenSpec.upto allocPlaysSpec)) allocPlaysUptoCard

/-- THE SECOND FORM's CARD OF 'incipitlaw07.AllocAborts'. -/
def allocAbortsUptoCard : Claim7 := { stood := { row := allocAbortsUptoRow, standIns := [], harness := (true, "1329de1b8139300099cde22d63d7e0bc88370d2b790c66f1919718f99002b190"), looks := false }, kinds := [], alts := [], laidByText := true, laidKinds := [.data], laidTests := true, laidLooks := .later }
def AllocAbortsUptoCardSaid : Prop := Claim7.holds Tryd.pinned (.plain (OpenSpec.upto allocAbortsSpec)) allocAbortsUptoCard

/-- THE SECOND FORM's CARD OF 'incipitlaw07.AllocNil'. -/
def allocNilUptoCard : Claim7 := { stood := { row := allocNilUptoRow, standIns := [], harness := (true, "1329de1b8139300099cde22d63d7e0bc88370d2b790c66f1919718f99002b190"), looks := false }, kinds := [], alts := [], laidByText := true, laidKinds := [.data], laidTests := true, laidLooks := .later }
def AllocNilUptoCardSaid : Prop := Claim7.holds Tryd.pinned (.plain (OpenSpec.upto allocNilSpec)) allocNilUptoCard
end Rows
end Go.Proofs.YtldhfdagmaklaaaDoor
