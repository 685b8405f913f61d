/-
  DERIVED. GIVEN WITH THE SEED: THE CARDS: each row of YtgepobccoffnaaaGreatDoorRows.lean that lists a variable, with what it lists TIED to the program's text (the seventh form; the later family's looks); each row that meets fmt, with fmt's text TOLD by the authors' own Lean function (tested against real Go, not proved from fmt's source: count such statements apart). THE CARD IS WHAT COUNTS. Prove the row's statement (the work); the ties are given (YtgepobccoffnaaaGreatDoorTie.lean); close each card by the builder's one call (the guide's Derived/Test/ToyasCard.lean, 'card_holds'). Laid BY PROGRAM, IN A SANDBOX (cutbox-door.mjs). By AI agents, Wed Nov 11 2026. No macro, syntax, notation, axiom, sorry.
-/
import Derived.Test.YtgepobccoffnaaaGreatDoorRows
import GoSem.ClaimSeven
namespace Go.Proofs.YtgepobccoffnaaaGreatDoor
namespace Rows

/-- THE TIED CARD OF 'colanderlaw17.BuildFrame'. -/
def buildFrameCard : Claim7 := { stood := { row := buildFrameRow, standIns := [], harness := (true, "cadbcc8c136f156b30299a8447786cda993fb743b699e126e5c3edc485abfbf9"), looks := false }, kinds := [], alts := [], laidByText := true, laidKinds := [.data, .pinned], laidTests := true, laidLooks := .later }
def BuildFrameCardSaid : Prop := Claim7.holds Tryz.pinned (.plain (OpenSpec.ofChange buildFrameSpec)) buildFrameCard

/-- THE TIED CARD OF 'colanderlaw17.BuildPlain'. -/
def buildPlainCard : Claim7 := { stood := { row := buildPlainRow, standIns := [], harness := (true, "cadbcc8c136f156b30299a8447786cda993fb743b699e126e5c3edc485abfbf9"), looks := false }, kinds := [], alts := [], laidByText := true, laidKinds := [.data, .pinned], laidTests := true, laidLooks := .later }
def BuildPlainCardSaid : Prop := Claim7.holds Tryz.pinned (.plain (OpenSpec.ofChange buildPlainSpec)) buildPlainCard

/-- THE TIED CARD OF 'colanderlaw17.BuildTexts'. -/
def buildTextsCard : Claim7 := { stood := { row := buildTextsRow, standIns := [], harness := (true, "cadbcc8c136f156b30299a8447786cda993fb743b699e126e5c3edc485abfbf9"), looks := false }, kinds := [], alts := [], laidByText := true, laidKinds := [.data, .pinned], laidTests := true, laidLooks := .later }
def BuildTextsCardSaid : Prop := Claim7.holds Tryz.pinned (.plain (OpenSpec.ofChange buildTextsSpec)) buildTextsCard

/-- THE SECOND FORM's CARD OF 'colanderlaw17.BuildFrame'. -/
def buildFrameUptoCard : Claim7 := { stood := { row := buildFrameUptoRow, standIns := [], harness := (true, "cadbcc8c136f156b30299a8447786cda993fb743b699e126e5c3edc485abfbf9"), looks := false }, kinds := [], alts := [], laidByText := true, laidKinds := [.data, .pinned], laidTests := true, laidLooks := .later }
def BuildFrameUptoCardSaid : Prop := Claim7.holds Tryz.pinned (.plain (OpenSpec.upto buildFrameSpec)) buildFrameUptoCard

/-- THE SECOND FORM's CARD OF 'colanderlaw17.BuildPlain'. -/
def buildPlainUptoCard : Claim7 := { stood := { row := buildPlainUptoRow, standIns := [], harness := (true, "cadbcc8c136f156b30299a8447786cda993fb743b699e126e5c3edc485abfbf9"), looks := false }, kinds := [], alts := [], laidByText := true, laidKinds := [.data, .pinned], laidTests := true, laidLooks := .later }
def BuildPlainUptoCardSaid : Prop := Claim7.holds Tryz.pinned (.plain (OpenSpec.upto buildPlainSpec)) buildPlainUptoCard

/-- THE SECOND FORM's CARD OF 'colanderlaw17.BuildTexts'. -/
def buildTextsUptoCard : Claim7 := { stood := { row := buildTextsUptoRow, standIns := [], harness := (true, "cadbcc8c136f156b30299a8447786cda993fb743b699e126e5c3edc485abfbf9"), looks := false }, kinds := [], alts := [], laidByText := true, laidKinds := [.data, .pinned], laidTests := true, laidLooks := .later }
def BuildTextsUptoCardSaid : Prop := Claim7.holds Tryz.pinned (.plain (OpenSpec.upto buildTextsSpec)) buildTextsUptoCard
end Rows
end Go.Proofs.YtgepobccoffnaaaGreatDoor
