/-
  DERIVED. GIVEN WITH THE SEED: THE CARDS: each row of YteckmpcgdgknoaaGreatDoorRows.lean that lists a variable, with what it lists TIED to the program's text (the seventh form; the later family's looks); each row that meets fmt, with fmt's text TOLD by the authors' own Lean function (tested against real Go, not proved from fmt's source: count such statements apart). THE CARD IS WHAT COUNTS. Prove the row's statement (the work); the ties are given (YteckmpcgdgknoaaGreatDoorTie.lean); close each card by the builder's one call (the guide's Derived/Test/ToyasCard.lean, 'card_holds'). Laid BY PROGRAM, IN A SANDBOX (cutbox-door.mjs). By AI agents, Wed Nov 11 2026. No macro, syntax, notation, axiom, sorry.
-/
import Derived.Test.YteckmpcgdgknoaaGreatDoorRows
import GoSem.ClaimSeven
namespace Go.Proofs.YteckmpcgdgknoaaGreatDoor
namespace Rows

/-- THE TIED CARD OF 'colanderlaw17.BuildComments'. -/
def buildCommentsCard : Claim7 := { stood := { row := buildCommentsRow, standIns := [], harness := (true, "2c06a5b48c51544b5536ef55841f6f587ceb267d97a7f3c2f487f14001a91b5e"), looks := false }, kinds := [], alts := [], laidByText := true, laidKinds := [.data, .pinned], laidTests := true, laidLooks := .later }
def BuildCommentsCardSaid : Prop := Claim7.holds Tryz.pinned (.plain (OpenSpec.ofChange buildCommentsSpec)) buildCommentsCard

/-- THE TIED CARD OF 'colanderlaw17.BuildCuts'. -/
def buildCutsCard : Claim7 := { stood := { row := buildCutsRow, standIns := [], harness := (true, "2c06a5b48c51544b5536ef55841f6f587ceb267d97a7f3c2f487f14001a91b5e"), looks := false }, kinds := [], alts := [], laidByText := true, laidKinds := [.data, .pinned], laidTests := true, laidLooks := .later }
def BuildCutsCardSaid : Prop := Claim7.holds Tryz.pinned (.plain (OpenSpec.ofChange buildCutsSpec)) buildCutsCard

/-- THE SECOND FORM's CARD OF 'colanderlaw17.BuildComments'. -/
def buildCommentsUptoCard : Claim7 := { stood := { row := buildCommentsUptoRow, standIns := [], harness := (true, "2c06a5b48c51544b5536ef55841f6f587ceb267d97a7f3c2f487f14001a91b5e"), looks := false }, kinds := [], alts := [], laidByText := true, laidKinds := [.data, .pinned], laidTests := true, laidLooks := .later }
def BuildCommentsUptoCardSaid : Prop := Claim7.holds Tryz.pinned (.plain (OpenSpec.upto buildCommentsSpec)) buildCommentsUptoCard

/-- THE SECOND FORM's CARD OF 'colanderlaw17.BuildCuts'. -/
def buildCutsUptoCard : Claim7 := { stood := { row := buildCutsUptoRow, standIns := [], harness := (true, "2c06a5b48c51544b5536ef55841f6f587ceb267d97a7f3c2f487f14001a91b5e"), looks := false }, kinds := [], alts := [], laidByText := true, laidKinds := [.data, .pinned], laidTests := true, laidLooks := .later }
def BuildCutsUptoCardSaid : Prop := Claim7.holds Tryz.pinned (.plain (OpenSpec.upto buildCutsSpec)) buildCutsUptoCard
end Rows
end Go.Proofs.YteckmpcgdgknoaaGreatDoor
