/-
  DERIVED. GIVEN WITH THE SEED: THE CARDS: each row of YtnlbcifhedjbfaaGreatDoorRows.lean that lists a variable, with what it lists TIED to the program's text (the seventh form; the later family's looks); each row that meets fmt, with fmt's text TOLD by the authors' own Lean function (tested against real Go, not proved from fmt's source: count such statements apart). THE CARD IS WHAT COUNTS. Prove the row's statement (the work); the ties are given (YtnlbcifhedjbfaaGreatDoorTie.lean); close each card by the builder's one call (the guide's Derived/Test/ToyasCard.lean, 'card_holds'). Laid BY PROGRAM, IN A SANDBOX (cutbox-door.mjs). By AI agents, Wed Nov 11 2026. No macro, syntax, notation, axiom, sorry.
-/
import Derived.Test.YtnlbcifhedjbfaaGreatDoorRows
import GoSem.ClaimSeven
namespace Go.Proofs.YtnlbcifhedjbfaaGreatDoor
namespace Rows

/-- THE TIED CARD OF 'colanderlaw17.BuildFrame'. -/
def buildFrameCard : Claim7 := { stood := { row := buildFrameRow, standIns := [], harness := (true, "e4ae2854240f433c0ed7bc303a9721ac03197e3069e54ac92d1e718cebd83d11"), looks := false }, kinds := [], alts := [], laidByText := true, laidKinds := [.data, .pinned], laidTests := true, laidLooks := .later }
def BuildFrameCardSaid : Prop := Claim7.holds Tryz.pinned (.plain (OpenSpec.ofChange buildFrameSpec)) buildFrameCard

/-- THE SECOND FORM's CARD OF 'colanderlaw17.BuildFrame'. -/
def buildFrameUptoCard : Claim7 := { stood := { row := buildFrameUptoRow, standIns := [], harness := (true, "e4ae2854240f433c0ed7bc303a9721ac03197e3069e54ac92d1e718cebd83d11"), looks := false }, kinds := [], alts := [], laidByText := true, laidKinds := [.data, .pinned], laidTests := true, laidLooks := .later }
def BuildFrameUptoCardSaid : Prop := Claim7.holds Tryz.pinned (.plain (OpenSpec.upto buildFrameSpec)) buildFrameUptoCard
end Rows
end Go.Proofs.YtnlbcifhedjbfaaGreatDoor
