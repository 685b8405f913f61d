/-
  DERIVED. GIVEN WITH THE SEED: THE CARDS: each row of YtcgkenmgglediaaDoorRows.lean that lists a variable, with what it lists TIED to the program's text (the seventh form; the later family's looks); each row that meets fmt, with fmt's text TOLD by the authors' own Lean function (tested against real Go, not proved from fmt's source: count such statements apart). THE CARD IS WHAT COUNTS. Prove the row's statement (the work); the ties are given (YtcgkenmgglediaaDoorTie.lean); close each card by the builder's one call (the guide's Derived/Test/ToyasCard.lean, 'card_holds'). Laid BY PROGRAM, IN A SANDBOX (cutbox-door.mjs). By AI agents, Wed Nov 11 2026. No macro, syntax, notation, axiom, sorry.
-/
import Derived.Test.YtcgkenmgglediaaDoorRows
import GoSem.ClaimSeven
namespace Go.Proofs.YtcgkenmgglediaaDoor
namespace Rows

/-- THE TIED CARD OF 'colanderlaw12.RefsFinds'. -/
def refsFindsCard : Claim7 := { stood := { row := refsFindsRow, standIns := [], harness := (true, "0670bbd5112f70b3ddd74f28068b1877fe5bcbf3d9d05d1fb8e76db39dfea4b3"), looks := false }, kinds := [], alts := [], laidByText := true, laidKinds := [.data, .pinned], laidTests := true, laidLooks := .later }
def RefsFindsCardSaid : Prop := Claim7.holds Tryd.pinned (.plain (OpenSpec.ofChange refsFindsSpec)) refsFindsCard

/-- THE TIED CARD OF 'colanderlaw12.RefsTakes'. -/
def refsTakesCard : Claim7 := { stood := { row := refsTakesRow, standIns := [], harness := (true, "0670bbd5112f70b3ddd74f28068b1877fe5bcbf3d9d05d1fb8e76db39dfea4b3"), looks := false }, kinds := [], alts := [], laidByText := true, laidKinds := [.data, .pinned], laidTests := true, laidLooks := .later }
def RefsTakesCardSaid : Prop := Claim7.holds Tryd.pinned (.plain (OpenSpec.ofChange refsTakesSpec)) refsTakesCard

/-- THE TIED CARD OF 'colanderlaw12.RefsAll'. -/
def refsAllCard : Claim7 := { stood := { row := refsAllRow, standIns := [], harness := (true, "0670bbd5112f70b3ddd74f28068b1877fe5bcbf3d9d05d1fb8e76db39dfea4b3"), looks := false }, kinds := [], alts := [], laidByText := true, laidKinds := [.data, .pinned], laidTests := true, laidLooks := .later }
def RefsAllCardSaid : Prop := Claim7.holds Tryd.pinned (.plain (OpenSpec.ofChange refsAllSpec)) refsAllCard

/-- THE TIED CARD OF 'colanderlaw12.RefsBack'. -/
def refsBackCard : Claim7 := { stood := { row := refsBackRow, standIns := [], harness := (true, "0670bbd5112f70b3ddd74f28068b1877fe5bcbf3d9d05d1fb8e76db39dfea4b3"), looks := false }, kinds := [], alts := [], laidByText := true, laidKinds := [.data, .pinned], laidTests := true, laidLooks := .later }
def RefsBackCardSaid : Prop := Claim7.holds Tryd.pinned (.plain (OpenSpec.ofChange refsBackSpec)) refsBackCard

/-- THE TIED CARD OF 'colanderlaw12.RefsWaits'. -/
def refsWaitsCard : Claim7 := { stood := { row := refsWaitsRow, standIns := [], harness := (true, "0670bbd5112f70b3ddd74f28068b1877fe5bcbf3d9d05d1fb8e76db39dfea4b3"), looks := false }, kinds := [], alts := [], laidByText := true, laidKinds := [.data, .pinned], laidTests := true, laidLooks := .later }
def RefsWaitsCardSaid : Prop := Claim7.holds Tryd.pinned (.plain (OpenSpec.ofChange refsWaitsSpec)) refsWaitsCard

/-- THE TIED CARD OF 'colanderlaw12.RefsPlain'. -/
def refsPlainCard : Claim7 := { stood := { row := refsPlainRow, standIns := [], harness := (true, "0670bbd5112f70b3ddd74f28068b1877fe5bcbf3d9d05d1fb8e76db39dfea4b3"), looks := false }, kinds := [], alts := [], laidByText := true, laidKinds := [.data, .pinned], laidTests := true, laidLooks := .later }
def RefsPlainCardSaid : Prop := Claim7.holds Tryd.pinned (.plain (OpenSpec.ofChange refsPlainSpec)) refsPlainCard

/-- THE TIED CARD OF 'colanderlaw12.RefsNumbers'. -/
def refsNumbersCard : Claim7 := { stood := { row := refsNumbersRow, standIns := [], harness := (true, "0670bbd5112f70b3ddd74f28068b1877fe5bcbf3d9d05d1fb8e76db39dfea4b3"), looks := false }, kinds := [], alts := [], laidByText := true, laidKinds := [.data, .pinned], laidTests := true, laidLooks := .later }
def RefsNumbersCardSaid : Prop := Claim7.holds Tryd.pinned (.plain (OpenSpec.ofChange refsNumbersSpec)) refsNumbersCard

/-- THE TIED CARD OF 'colanderlaw12.RefsLongest'. -/
def refsLongestCard : Claim7 := { stood := { row := refsLongestRow, standIns := [], harness := (true, "0670bbd5112f70b3ddd74f28068b1877fe5bcbf3d9d05d1fb8e76db39dfea4b3"), looks := false }, kinds := [], alts := [], laidByText := true, laidKinds := [.data, .pinned], laidTests := true, laidLooks := .later }
def RefsLongestCardSaid : Prop := Claim7.holds Tryd.pinned (.plain (OpenSpec.ofChange refsLongestSpec)) refsLongestCard

/-- THE TIED CARD OF 'colanderlaw12.RefsValid'. -/
def refsValidCard : Claim7 := { stood := { row := refsValidRow, standIns := [], harness := (true, "0670bbd5112f70b3ddd74f28068b1877fe5bcbf3d9d05d1fb8e76db39dfea4b3"), looks := false }, kinds := [], alts := [], laidByText := true, laidKinds := [.data, .pinned], laidTests := true, laidLooks := .later }
def RefsValidCardSaid : Prop := Claim7.holds Tryd.pinned (.plain (OpenSpec.ofChange refsValidSpec)) refsValidCard

/-- THE SECOND FORM's CARD OF 'colanderlaw12.RefsFinds'. -/
def refsFindsUptoCard : Claim7 := { stood := { row := refsFindsUptoRow, standIns := [], harness := (true, "0670bbd5112f70b3ddd74f28068b1877fe5bcbf3d9d05d1fb8e76db39dfea4b3"), looks := false }, kinds := [], alts := [], laidByText := true, laidKinds := [.data, .pinned], laidTests := true, laidLooks := .later }
def RefsFindsUptoCardSaid : Prop := Claim7.holds Tryd.pinned (.plain (OpenSpec.upto refsFindsSpec)) refsFindsUptoCard

/-- THE SECOND FORM's CARD OF 'colanderlaw12.RefsTakes'. -/
def refsTakesUptoCard : Claim7 := { stood := { row := refsTakesUptoRow, standIns := [], harness := (true, "0670bbd5112f70b3ddd74f28068b1877fe5bcbf3d9d05d1fb8e76db39dfea4b3"), looks := false }, kinds := [], alts := [], laidByText := true, laidKinds := [.data, .pinned], laidTests := true, laidLooks := .later }
def RefsTakesUptoCardSaid : Prop := Claim7.holds Tryd.pinned (.plain (OpenSpec.upto refsTakesSpec)) refsTakesUptoCard

/-- THE SECOND FORM's CARD OF 'colanderlaw12.RefsAll'. -/
def refsAllUptoCard : Claim7 := { stood := { row := refsAllUptoRow, standIns := [], harness := (true, "0670bbd5112f70b3ddd74f28068b1877fe5bcbf3d9d05d1fb8e76db39dfea4b3"), looks := false }, kinds := [], alts := [], laidByText := true, laidKinds := [.data, .pinned], laidTests := true, laidLooks := .later }
def RefsAllUptoCardSaid : Prop := Claim7.holds Tryd.pinned (.plain (OpenSpec.upto refsAllSpec)) refsAllUptoCard

/-- THE SECOND FORM's CARD OF 'colanderlaw12.RefsBack'. -/
def refsBackUptoCard : Claim7 := { stood := { row := refsBackUptoRow, standIns := [], harness := (true, "0670bbd5112f70b3ddd74f28068b1877fe5bcbf3d9d05d1fb8e76db39dfea4b3"), looks := false }, kinds := [], alts := [], laidByText := true, laidKinds := [.data, .pinned], laidTests := true, laidLooks := .later }
def RefsBackUptoCardSaid : Prop := Claim7.holds Tryd.pinned (.plain (OpenSpec.upto refsBackSpec)) refsBackUptoCard

/-- THE SECOND FORM's CARD OF 'colanderlaw12.RefsWaits'. -/
def refsWaitsUptoCard : Claim7 := { stood := { row := refsWaitsUptoRow, standIns := [], harness := (true, "0670bbd5112f70b3ddd74f28068b1877fe5bcbf3d9d05d1fb8e76db39dfea4b3"), looks := false }, kinds := [], alts := [], laidByText := true, laidKinds := [.data, .pinned], laidTests := true, laidLooks := .later }
def RefsWaitsUptoCardSaid : Prop := Claim7.holds Tryd.pinned (.plain (OpenSpec.upto refsWaitsSpec)) refsWaitsUptoCard

/-- THE SECOND FORM's CARD OF 'colanderlaw12.RefsPlain'. -/
def refsPlainUptoCard : Claim7 := { stood := { row := refsPlainUptoRow, standIns := [], harness := (true, "0670bbd5112f70b3ddd74f28068b1877fe5bcbf3d9d05d1fb8e76db39dfea4b3"), looks := false }, kinds := [], alts := [], laidByText := true, laidKinds := [.data, .pinned], laidTests := true, laidLooks := .later }
def RefsPlainUptoCardSaid : Prop := Claim7.holds Tryd.pinned (.plain (OpenSpec.upto refsPlainSpec)) refsPlainUptoCard

/-- THE SECOND FORM's CARD OF 'colanderlaw12.RefsNumbers'. -/
def refsNumbersUptoCard : Claim7 := { stood := { row := refsNumbersUptoRow, standIns := [], harness := (true, "0670bbd5112f70b3ddd74f28068b1877fe5bcbf3d9d05d1fb8e76db39dfea4b3"), looks := false }, kinds := [], alts := [], laidByText := true, laidKinds := [.data, .pinned], laidTests := true, laidLooks := .later }
def RefsNumbersUptoCardSaid : Prop := Claim7.holds Tryd.pinned (.plain (OpenSpec.upto refsNumbersSpec)) refsNumbersUptoCard

/-- THE SECOND FORM's CARD OF 'colanderlaw12.RefsLongest'. -/
def refsLongestUptoCard : Claim7 := { stood := { row := refsLongestUptoRow, standIns := [], harness := (true, "0670bbd5112f70b3ddd74f28068b1877fe5bcbf3d9d05d1fb8e76db39dfea4b3"), looks := false }, kinds := [], alts := [], laidByText := true, laidKinds := [.data, .pinned], laidTests := true, laidLooks := .later }
def RefsLongestUptoCardSaid : Prop := Claim7.holds Tryd.pinned (.plain (OpenSpec.upto refsLongestSpec)) refsLongestUptoCard

/-- THE SECOND FORM's CARD OF 'colanderlaw12.RefsValid'. -/
def refsValidUptoCard : Claim7 := { stood := { row := refsValidUptoRow, standIns := [], harness := (true, "0670bbd5112f70b3ddd74f28068b1877fe5bcbf3d9d05d1fb8e76db39dfea4b3"), looks := false }, kinds := [], alts := [], laidByText := true, laidKinds := [.data, .pinned], laidTests := true, laidLooks := .later }
def RefsValidUptoCardSaid : Prop := Claim7.holds Tryd.pinned (.plain (OpenSpec.upto refsValidSpec)) refsValidUptoCard
end Rows
end Go.Proofs.YtcgkenmgglediaaDoor
