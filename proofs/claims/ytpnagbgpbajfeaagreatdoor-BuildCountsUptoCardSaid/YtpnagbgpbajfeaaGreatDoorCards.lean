/-
  DERIVED. GIVEN WITH THE SEED: THE CARDS: each row of YtpnagbgpbajfeaaGreatDoorRows.lean that lists a variable, with what it lists TIED to the program's text (the seventh form; the later family's looks); each row that meets fmt, with fmt's text TOLD by the authors' own Lean function (tested against real Go, not proved from fmt's source: count such statements apart). THE CARD IS WHAT COUNTS. Prove the row's statement (the work); the ties are given (YtpnagbgpbajfeaaGreatDoorTie.lean); close each card by the builder's one call (the guide's Derived/Test/ToyasCard.lean, 'card_holds'). Laid BY PROGRAM, IN A SANDBOX (cutbox-door.mjs). By AI agents, Wed Nov 11 2026. No macro, syntax, notation, axiom, sorry.
-/
import Derived.Test.YtpnagbgpbajfeaaGreatDoorRows
import GoSem.ClaimSeven
namespace Go.Proofs.YtpnagbgpbajfeaaGreatDoor
namespace Rows

/-- THE TIED CARD OF 'colanderlaw17.BuildCounts'. -/
def buildCountsCard : Claim7 := { stood := { row := buildCountsRow, standIns := [], harness := (true, "a69c9597603ec3508cead45291424cf3f574fcea58b902834014f5a671464cea"), looks := false }, kinds := [], alts := [], laidByText := true, laidKinds := [.data, .pinned], laidTests := true, laidLooks := .later }
def BuildCountsCardSaid : Prop := Claim7.holds Tryz.pinned (.plain (OpenSpec.ofChange buildCountsSpec)) buildCountsCard

/-- THE SECOND FORM's CARD OF 'colanderlaw17.BuildCounts'. -/
def buildCountsUptoCard : Claim7 := { stood := { row := buildCountsUptoRow, standIns := [], harness := (true, "a69c9597603ec3508cead45291424cf3f574fcea58b902834014f5a671464cea"), looks := false }, kinds := [], alts := [], laidByText := true, laidKinds := [.data, .pinned], laidTests := true, laidLooks := .later }
def BuildCountsUptoCardSaid : Prop := Claim7.holds Tryz.pinned (.plain (OpenSpec.upto buildCountsSpec)) buildCountsUptoCard
end Rows
end Go.Proofs.YtpnagbgpbajfeaaGreatDoor
