/-
  NARROWER THAN 'FOR EVERY INPUT', by the rows' own cells (each row's printed sentence says how): RefsFinds: laid · RefsTakes: laid · RefsAll: laid · RefsBack: laid · RefsWaits: laid · RefsPlain: laid · RefsNumbers: laid · RefsLongest: laid · RefsValid: laid.
  DERIVED. THE GIVEN ROWS OF THIS SEAT. 9 by the template 'for every input the law returns true; each argument reads behind the call as it read before'; 0 by the template 'total and deterministic' (their statements: YtcgkenmgglediaaDoorTotals.lean).
  GIVEN WITH THE SEED: the statements are not yours to turn. If you find one false, say at which input.
  Laid BY PROGRAM, IN A SANDBOX (cutbox-rows.mjs): the forced cells as the released guide's own fill.sh prints them over the translation c3d7ec6773d7cccf… (all of the seat's roots in one cut). By AI agents, Wed Nov 11 2026. No macro, syntax, notation, axiom, sorry.
-/
import Derived.Test.YtcgkenmgglediaaDoorChecked
import GoSem.PinnedTables
import GoSem.Claim
import GoSem.ClaimJoined
import GoSem.ClaimMapViews
import Derived.JoinedTies
import Derived.KernelRfl
namespace Go.Proofs.YtcgkenmgglediaaDoor
/- THE CELL 'sum', in the pinned program and in every row, IS THE sha256 OF THE DUMP (.gsa) THAT YtcgkenmgglediaaDoorProg.lean LOADS. Nothing in Lean hashes anything: it is a label: what it is worth is what the hold of that sum in a sandbox is worth. -/
noncomputable def Tryd.pinned : Pinned := { name := "ytcgkenmgglediaadoor", sum := "c3d7ec6773d7cccf1ed620d46a81ca98cbb93810899a5537d34e0dd9c552f354", checked := Tryd.checked }
namespace Rows
def none {H : Type} : Left H := { results := [], args := [] }

/- WHAT THE LISTED PACKAGE-LEVEL VARIABLES READ AS WHEN THE CALL BEGINS. Each datum BY PROGRAM (the guide's laid-datum.mjs) off the statement by which the dump's own 'gosem.cut.vars' lays the variable. In a bare row this is a premise. The card (YtcgkenmgglediaaDoorCards.lean) ties it to the program's text. -/
def laid_unicode_utf8_acceptRanges {H : Type} : DataW H := .agg [.agg [.lit (.int .u8 128), .lit (.int .u8 191)], .agg [.lit (.int .u8 160), .lit (.int .u8 191)], .agg [.lit (.int .u8 128), .lit (.int .u8 159)], .agg [.lit (.int .u8 144), .lit (.int .u8 191)], .agg [.lit (.int .u8 128), .lit (.int .u8 143)], .agg [.lit (.int .u8 0), .lit (.int .u8 0)], .agg [.lit (.int .u8 0), .lit (.int .u8 0)], .agg [.lit (.int .u8 0), .lit (.int .u8 0)], .agg [.lit (.int .u8 0), .lit (.int .u8 0)], .agg [.lit (.int .u8 0), .lit (.int .u8 0)], .agg [.lit (.int .u8 0), .lit (.int .u8 0)], .agg [.lit (.int .u8 0), .lit (.int .u8 0)], .agg [.lit (.int .u8 0), .lit (.int .u8 0)], .agg [.lit (.int .u8 0), .lit (.int .u8 0)], .agg [.lit (.int .u8 0), .lit (.int .u8 0)], .agg [.lit (.int .u8 0), .lit (.int .u8 0)]]
/-- One of Go's own tables, pinned by name: the form's constant. -/
def laid_unicode_utf8_first : DataW Unit := Go.Pinned.utf8First

/-- 'colanderlaw12.RefsFinds': WHATEVER THE INPUT: true; the input reads as it did. -/
def refsFindsSpec : ChangeSpec := { name := "refsFinds", fn := fun _ => fun
  | [d1, d2] => { results := [.lit (.bool true)], args := [d1, d2] }
  | _ => none }
def refsFindsRow : OpenClaim := { program := "ytcgkenmgglediaadoor", sum := "c3d7ec6773d7cccf1ed620d46a81ca98cbb93810899a5537d34e0dd9c552f354", func := "colander/colanderlaw12.RefsFinds", spec := "refsFinds", inPlace := ["internal/abi.NoEscape", "internal/bytealg.IndexByteString", "internal/bytealg.CountString", "internal/bytealg.IndexString", "internal/bytealg.MakeNoZero"], named := ["internal/bytealg.MaxLen", "unicode/utf8.first", "unicode/utf8.acceptRanges"], apart := false, laid := [("unicode/utf8.acceptRanges", laid_unicode_utf8_acceptRanges), ("unicode/utf8.first", laid_unicode_utf8_first)] }
def RefsFindsSaid : Prop := refsFindsRow.holds Tryd.pinned (OpenSpec.ofChange refsFindsSpec)

/-- ITS FALSE NEIGHBOUR: 'it returns false'. Refute it at one input. -/
def refsFindsWrong : ChangeSpec := { name := "refsFinds", fn := fun _ => fun
  | [d1, d2] => { results := [.lit (.bool false)], args := [d1, d2] }
  | _ => none }
def RefsFindsWrongFalsely : Prop := refsFindsRow.holds Tryd.pinned (OpenSpec.ofChange refsFindsWrong)

/-- 'colanderlaw12.RefsTakes': WHATEVER THE INPUT: true; the input reads as it did. -/
def refsTakesSpec : ChangeSpec := { name := "refsTakes", fn := fun _ => fun
  | [d1, d2] => { results := [.lit (.bool true)], args := [d1, d2] }
  | _ => none }
def refsTakesRow : OpenClaim := { program := "ytcgkenmgglediaadoor", sum := "c3d7ec6773d7cccf1ed620d46a81ca98cbb93810899a5537d34e0dd9c552f354", func := "colander/colanderlaw12.RefsTakes", spec := "refsTakes", inPlace := ["internal/abi.NoEscape", "internal/bytealg.IndexByteString", "internal/bytealg.CountString", "internal/bytealg.IndexString", "internal/bytealg.MakeNoZero"], named := ["internal/bytealg.MaxLen", "unicode/utf8.first", "unicode/utf8.acceptRanges"], apart := false, laid := [("unicode/utf8.acceptRanges", laid_unicode_utf8_acceptRanges), ("unicode/utf8.first", laid_unicode_utf8_first)] }
def RefsTakesSaid : Prop := refsTakesRow.holds Tryd.pinned (OpenSpec.ofChange refsTakesSpec)

/-- ITS FALSE NEIGHBOUR: 'it returns false'. Refute it at one input. -/
def refsTakesWrong : ChangeSpec := { name := "refsTakes", fn := fun _ => fun
  | [d1, d2] => { results := [.lit (.bool false)], args := [d1, d2] }
  | _ => none }
def RefsTakesWrongFalsely : Prop := refsTakesRow.holds Tryd.pinned (OpenSpec.ofChange refsTakesWrong)

/-- 'colanderlaw12.RefsAll': WHATEVER THE INPUT: true; the input reads as it did. -/
def refsAllSpec : ChangeSpec := { name := "refsAll", fn := fun _ => fun
  | [d1, d2] => { results := [.lit (.bool true)], args := [d1, d2] }
  | _ => none }
def refsAllRow : OpenClaim := { program := "ytcgkenmgglediaadoor", sum := "c3d7ec6773d7cccf1ed620d46a81ca98cbb93810899a5537d34e0dd9c552f354", func := "colander/colanderlaw12.RefsAll", spec := "refsAll", inPlace := ["internal/abi.NoEscape", "internal/bytealg.IndexByteString", "internal/bytealg.CountString", "internal/bytealg.IndexString", "internal/bytealg.MakeNoZero"], named := ["internal/bytealg.MaxLen", "unicode/utf8.first", "unicode/utf8.acceptRanges"], apart := false, laid := [("unicode/utf8.acceptRanges", laid_unicode_utf8_acceptRanges), ("unicode/utf8.first", laid_unicode_utf8_first)] }
def RefsAllSaid : Prop := refsAllRow.holds Tryd.pinned (OpenSpec.ofChange refsAllSpec)

/-- ITS FALSE NEIGHBOUR: 'it returns false'. Refute it at one input. -/
def refsAllWrong : ChangeSpec := { name := "refsAll", fn := fun _ => fun
  | [d1, d2] => { results := [.lit (.bool false)], args := [d1, d2] }
  | _ => none }
def RefsAllWrongFalsely : Prop := refsAllRow.holds Tryd.pinned (OpenSpec.ofChange refsAllWrong)

/-- 'colanderlaw12.RefsBack': WHATEVER THE INPUT: true; the input reads as it did. -/
def refsBackSpec : ChangeSpec := { name := "refsBack", fn := fun _ => fun
  | [d1, d2, d3] => { results := [.lit (.bool true)], args := [d1, d2, d3] }
  | _ => none }
def refsBackRow : OpenClaim := { program := "ytcgkenmgglediaadoor", sum := "c3d7ec6773d7cccf1ed620d46a81ca98cbb93810899a5537d34e0dd9c552f354", func := "colander/colanderlaw12.RefsBack", spec := "refsBack", inPlace := ["internal/abi.NoEscape", "internal/bytealg.IndexByteString", "internal/bytealg.CountString", "internal/bytealg.IndexString", "internal/bytealg.MakeNoZero"], named := ["internal/bytealg.MaxLen", "unicode/utf8.first", "unicode/utf8.acceptRanges"], apart := false, laid := [("unicode/utf8.acceptRanges", laid_unicode_utf8_acceptRanges), ("unicode/utf8.first", laid_unicode_utf8_first)] }
def RefsBackSaid : Prop := refsBackRow.holds Tryd.pinned (OpenSpec.ofChange refsBackSpec)

/-- ITS FALSE NEIGHBOUR: 'it returns false'. Refute it at one input. -/
def refsBackWrong : ChangeSpec := { name := "refsBack", fn := fun _ => fun
  | [d1, d2, d3] => { results := [.lit (.bool false)], args := [d1, d2, d3] }
  | _ => none }
def RefsBackWrongFalsely : Prop := refsBackRow.holds Tryd.pinned (OpenSpec.ofChange refsBackWrong)

/-- 'colanderlaw12.RefsWaits': WHATEVER THE INPUT: true; the input reads as it did. -/
def refsWaitsSpec : ChangeSpec := { name := "refsWaits", fn := fun _ => fun
  | [d1, d2, d3] => { results := [.lit (.bool true)], args := [d1, d2, d3] }
  | _ => none }
def refsWaitsRow : OpenClaim := { program := "ytcgkenmgglediaadoor", sum := "c3d7ec6773d7cccf1ed620d46a81ca98cbb93810899a5537d34e0dd9c552f354", func := "colander/colanderlaw12.RefsWaits", spec := "refsWaits", inPlace := ["internal/abi.NoEscape", "internal/bytealg.IndexByteString", "internal/bytealg.CountString", "internal/bytealg.IndexString", "internal/bytealg.MakeNoZero"], named := ["internal/bytealg.MaxLen", "unicode/utf8.first", "unicode/utf8.acceptRanges"], apart := false, laid := [("unicode/utf8.acceptRanges", laid_unicode_utf8_acceptRanges), ("unicode/utf8.first", laid_unicode_utf8_first)] }
def RefsWaitsSaid : Prop := refsWaitsRow.holds Tryd.pinned (OpenSpec.ofChange refsWaitsSpec)

/-- ITS FALSE NEIGHBOUR: 'it returns false'. Refute it at one input. -/
def refsWaitsWrong : ChangeSpec := { name := "refsWaits", fn := fun _ => fun
  | [d1, d2, d3] => { results := [.lit (.bool false)], args := [d1, d2, d3] }
  | _ => none }
def RefsWaitsWrongFalsely : Prop := refsWaitsRow.holds Tryd.pinned (OpenSpec.ofChange refsWaitsWrong)

/-- 'colanderlaw12.RefsPlain': WHATEVER THE INPUT: true; the input reads as it did. -/
def refsPlainSpec : ChangeSpec := { name := "refsPlain", fn := fun _ => fun
  | [d1, d2, d3] => { results := [.lit (.bool true)], args := [d1, d2, d3] }
  | _ => none }
def refsPlainRow : OpenClaim := { program := "ytcgkenmgglediaadoor", sum := "c3d7ec6773d7cccf1ed620d46a81ca98cbb93810899a5537d34e0dd9c552f354", func := "colander/colanderlaw12.RefsPlain", spec := "refsPlain", inPlace := ["internal/abi.NoEscape", "internal/bytealg.IndexByteString", "internal/bytealg.CountString", "internal/bytealg.IndexString", "internal/bytealg.MakeNoZero"], named := ["internal/bytealg.MaxLen", "unicode/utf8.first", "unicode/utf8.acceptRanges"], apart := false, laid := [("unicode/utf8.acceptRanges", laid_unicode_utf8_acceptRanges), ("unicode/utf8.first", laid_unicode_utf8_first)] }
def RefsPlainSaid : Prop := refsPlainRow.holds Tryd.pinned (OpenSpec.ofChange refsPlainSpec)

/-- ITS FALSE NEIGHBOUR: 'it returns false'. Refute it at one input. -/
def refsPlainWrong : ChangeSpec := { name := "refsPlain", fn := fun _ => fun
  | [d1, d2, d3] => { results := [.lit (.bool false)], args := [d1, d2, d3] }
  | _ => none }
def RefsPlainWrongFalsely : Prop := refsPlainRow.holds Tryd.pinned (OpenSpec.ofChange refsPlainWrong)

/-- 'colanderlaw12.RefsNumbers': WHATEVER THE INPUT: true; the input reads as it did. -/
def refsNumbersSpec : ChangeSpec := { name := "refsNumbers", fn := fun _ => fun
  | [d1, d2, d3, d4] => { results := [.lit (.bool true)], args := [d1, d2, d3, d4] }
  | _ => none }
def refsNumbersRow : OpenClaim := { program := "ytcgkenmgglediaadoor", sum := "c3d7ec6773d7cccf1ed620d46a81ca98cbb93810899a5537d34e0dd9c552f354", func := "colander/colanderlaw12.RefsNumbers", spec := "refsNumbers", inPlace := ["internal/abi.NoEscape", "internal/bytealg.IndexByteString", "internal/bytealg.CountString", "internal/bytealg.IndexString", "internal/bytealg.MakeNoZero"], named := ["internal/bytealg.MaxLen", "unicode/utf8.first", "unicode/utf8.acceptRanges"], apart := false, laid := [("unicode/utf8.acceptRanges", laid_unicode_utf8_acceptRanges), ("unicode/utf8.first", laid_unicode_utf8_first)] }
def RefsNumbersSaid : Prop := refsNumbersRow.holds Tryd.pinned (OpenSpec.ofChange refsNumbersSpec)

/-- ITS FALSE NEIGHBOUR: 'it returns false'. Refute it at one input. -/
def refsNumbersWrong : ChangeSpec := { name := "refsNumbers", fn := fun _ => fun
  | [d1, d2, d3, d4] => { results := [.lit (.bool false)], args := [d1, d2, d3, d4] }
  | _ => none }
def RefsNumbersWrongFalsely : Prop := refsNumbersRow.holds Tryd.pinned (OpenSpec.ofChange refsNumbersWrong)

/-- 'colanderlaw12.RefsLongest': WHATEVER THE INPUT: true; the input reads as it did. -/
def refsLongestSpec : ChangeSpec := { name := "refsLongest", fn := fun _ => fun
  | [d] => { results := [.lit (.bool true)], args := [d] }
  | _ => none }
def refsLongestRow : OpenClaim := { program := "ytcgkenmgglediaadoor", sum := "c3d7ec6773d7cccf1ed620d46a81ca98cbb93810899a5537d34e0dd9c552f354", func := "colander/colanderlaw12.RefsLongest", spec := "refsLongest", inPlace := ["internal/abi.NoEscape", "internal/bytealg.IndexByteString", "internal/bytealg.CountString", "internal/bytealg.IndexString", "internal/bytealg.MakeNoZero"], named := ["internal/bytealg.MaxLen", "unicode/utf8.first", "unicode/utf8.acceptRanges"], apart := false, laid := [("unicode/utf8.acceptRanges", laid_unicode_utf8_acceptRanges), ("unicode/utf8.first", laid_unicode_utf8_first)] }
def RefsLongestSaid : Prop := refsLongestRow.holds Tryd.pinned (OpenSpec.ofChange refsLongestSpec)

/-- ITS FALSE NEIGHBOUR: 'it returns false'. Refute it at one input. -/
def refsLongestWrong : ChangeSpec := { name := "refsLongest", fn := fun _ => fun
  | [d] => { results := [.lit (.bool false)], args := [d] }
  | _ => none }
def RefsLongestWrongFalsely : Prop := refsLongestRow.holds Tryd.pinned (OpenSpec.ofChange refsLongestWrong)

/-- 'colanderlaw12.RefsValid': WHATEVER THE INPUT: true; the input reads as it did. -/
def refsValidSpec : ChangeSpec := { name := "refsValid", fn := fun _ => fun
  | [d1, d2] => { results := [.lit (.bool true)], args := [d1, d2] }
  | _ => none }
def refsValidRow : OpenClaim := { program := "ytcgkenmgglediaadoor", sum := "c3d7ec6773d7cccf1ed620d46a81ca98cbb93810899a5537d34e0dd9c552f354", func := "colander/colanderlaw12.RefsValid", spec := "refsValid", inPlace := ["internal/abi.NoEscape", "internal/bytealg.IndexByteString", "internal/bytealg.CountString", "internal/bytealg.IndexString", "internal/bytealg.MakeNoZero"], named := ["internal/bytealg.MaxLen", "unicode/utf8.first", "unicode/utf8.acceptRanges"], apart := false, laid := [("unicode/utf8.acceptRanges", laid_unicode_utf8_acceptRanges), ("unicode/utf8.first", laid_unicode_utf8_first)] }
def RefsValidSaid : Prop := refsValidRow.holds Tryd.pinned (OpenSpec.ofChange refsValidSpec)

/-- ITS FALSE NEIGHBOUR: 'it returns false'. Refute it at one input. -/
def refsValidWrong : ChangeSpec := { name := "refsValid", fn := fun _ => fun
  | [d1, d2] => { results := [.lit (.bool false)], args := [d1, d2] }
  | _ => none }
def RefsValidWrongFalsely : Prop := refsValidRow.holds Tryd.pinned (OpenSpec.ofChange refsValidWrong)

/- THE SECOND FORM. 'bulk': how many values and letters a reading holds, each counted each time it is reached (what is shared counts as often as it is met; a slice's spare places count too). A statement '..UptoSaid' is the law's where the arguments, and the package variables that the reading takes, are together of bulk at most 1048576: NARROWER than '..Said'. Prove '..Said' where nothing that the law and all that it calls make is longer than what came in: it says more and counts as full. Else prove '..UptoSaid'. A law counts once. -/
mutual
def uptoBulk {H : Type} : DataW H → Nat
  | .lit (.string bytes) => bytes.length + 1
  | .lit _ => 1
  | .nil => 1
  | .ptr d => uptoBulk d + 1
  | .slice elems spare => uptoBulkAll elems + uptoBulkAll spare + 1
  | .agg parts => uptoBulkAll parts + 1
  | .iface _ d => uptoBulk d + 1
  | .map entries => uptoBulkEntries entries + 1
  | .held _ => 1
def uptoBulkAll {H : Type} : List (DataW H) → Nat
  | [] => 0
  | d :: r => uptoBulk d + uptoBulkAll r
def uptoBulkEntries {H : Type} : List (Lit × DataW H) → Nat
  | [] => 0
  | x :: r => uptoBulkEntry x + uptoBulkEntries r
def uptoBulkEntry {H : Type} : Lit × DataW H → Nat
  | (.string bytes, d) => bytes.length + uptoBulk d + 1
  | (_, d) => uptoBulk d + 1
 end
def uptoSmall : (H : Type) → List (DataW H) → Bool := fun _ ds => decide (uptoBulkAll ds ≤ 1048576)
def OpenSpec.upto (s : _root_.Go.ChangeSpec) : _root_.Go.OpenSpec := { _root_.Go.OpenSpec.ofChange s with cond := some uptoSmall }

/-- 'colanderlaw12.RefsFinds', WHERE WHAT IT READS IS OF BULK AT MOST 1048576: true; the input reads as it did. -/
def refsFindsUptoRow : OpenClaim := { program := "ytcgkenmgglediaadoor", sum := "c3d7ec6773d7cccf1ed620d46a81ca98cbb93810899a5537d34e0dd9c552f354", func := "colander/colanderlaw12.RefsFinds", spec := "refsFinds", inPlace := ["internal/abi.NoEscape", "internal/bytealg.IndexByteString", "internal/bytealg.CountString", "internal/bytealg.IndexString", "internal/bytealg.MakeNoZero"], named := ["internal/bytealg.MaxLen", "unicode/utf8.first", "unicode/utf8.acceptRanges"], apart := false, laid := [("unicode/utf8.acceptRanges", laid_unicode_utf8_acceptRanges), ("unicode/utf8.first", laid_unicode_utf8_first)], narrowed := true }
def RefsFindsUptoSaid : Prop := refsFindsUptoRow.holds Tryd.pinned (OpenSpec.upto refsFindsSpec)

/-- 'colanderlaw12.RefsTakes', WHERE WHAT IT READS IS OF BULK AT MOST 1048576: true; the input reads as it did. -/
def refsTakesUptoRow : OpenClaim := { program := "ytcgkenmgglediaadoor", sum := "c3d7ec6773d7cccf1ed620d46a81ca98cbb93810899a5537d34e0dd9c552f354", func := "colander/colanderlaw12.RefsTakes", spec := "refsTakes", inPlace := ["internal/abi.NoEscape", "internal/bytealg.IndexByteString", "internal/bytealg.CountString", "internal/bytealg.IndexString", "internal/bytealg.MakeNoZero"], named := ["internal/bytealg.MaxLen", "unicode/utf8.first", "unicode/utf8.acceptRanges"], apart := false, laid := [("unicode/utf8.acceptRanges", laid_unicode_utf8_acceptRanges), ("unicode/utf8.first", laid_unicode_utf8_first)], narrowed := true }
def RefsTakesUptoSaid : Prop := refsTakesUptoRow.holds Tryd.pinned (OpenSpec.upto refsTakesSpec)

/-- 'colanderlaw12.RefsAll', WHERE WHAT IT READS IS OF BULK AT MOST 1048576: true; the input reads as it did. -/
def refsAllUptoRow : OpenClaim := { program := "ytcgkenmgglediaadoor", sum := "c3d7ec6773d7cccf1ed620d46a81ca98cbb93810899a5537d34e0dd9c552f354", func := "colander/colanderlaw12.RefsAll", spec := "refsAll", inPlace := ["internal/abi.NoEscape", "internal/bytealg.IndexByteString", "internal/bytealg.CountString", "internal/bytealg.IndexString", "internal/bytealg.MakeNoZero"], named := ["internal/bytealg.MaxLen", "unicode/utf8.first", "unicode/utf8.acceptRanges"], apart := false, laid := [("unicode/utf8.acceptRanges", laid_unicode_utf8_acceptRanges), ("unicode/utf8.first", laid_unicode_utf8_first)], narrowed := true }
def RefsAllUptoSaid : Prop := refsAllUptoRow.holds Tryd.pinned (OpenSpec.upto refsAllSpec)

/-- 'colanderlaw12.RefsBack', WHERE WHAT IT READS IS OF BULK AT MOST 1048576: true; the input reads as it did. -/
def refsBackUptoRow : OpenClaim := { program := "ytcgkenmgglediaadoor", sum := "c3d7ec6773d7cccf1ed620d46a81ca98cbb93810899a5537d34e0dd9c552f354", func := "colander/colanderlaw12.RefsBack", spec := "refsBack", inPlace := ["internal/abi.NoEscape", "internal/bytealg.IndexByteString", "internal/bytealg.CountString", "internal/bytealg.IndexString", "internal/bytealg.MakeNoZero"], named := ["internal/bytealg.MaxLen", "unicode/utf8.first", "unicode/utf8.acceptRanges"], apart := false, laid := [("unicode/utf8.acceptRanges", laid_unicode_utf8_acceptRanges), ("unicode/utf8.first", laid_unicode_utf8_first)], narrowed := true }
def RefsBackUptoSaid : Prop := refsBackUptoRow.holds Tryd.pinned (OpenSpec.upto refsBackSpec)

/-- 'colanderlaw12.RefsWaits', WHERE WHAT IT READS IS OF BULK AT MOST 1048576: true; the input reads as it did. -/
def refsWaitsUptoRow : OpenClaim := { program := "ytcgkenmgglediaadoor", sum := "c3d7ec6773d7cccf1ed620d46a81ca98cbb93810899a5537d34e0dd9c552f354", func := "colander/colanderlaw12.RefsWaits", spec := "refsWaits", inPlace := ["internal/abi.NoEscape", "internal/bytealg.IndexByteString", "internal/bytealg.CountString", "internal/bytealg.IndexString", "internal/bytealg.MakeNoZero"], named := ["internal/bytealg.MaxLen", "unicode/utf8.first", "unicode/utf8.acceptRanges"], apart := false, laid := [("unicode/utf8.acceptRanges", laid_unicode_utf8_acceptRanges), ("unicode/utf8.first", laid_unicode_utf8_first)], narrowed := true }
def RefsWaitsUptoSaid : Prop := refsWaitsUptoRow.holds Tryd.pinned (OpenSpec.upto refsWaitsSpec)

/-- 'colanderlaw12.RefsPlain', WHERE WHAT IT READS IS OF BULK AT MOST 1048576: true; the input reads as it did. -/
def refsPlainUptoRow : OpenClaim := { program := "ytcgkenmgglediaadoor", sum := "c3d7ec6773d7cccf1ed620d46a81ca98cbb93810899a5537d34e0dd9c552f354", func := "colander/colanderlaw12.RefsPlain", spec := "refsPlain", inPlace := ["internal/abi.NoEscape", "internal/bytealg.IndexByteString", "internal/bytealg.CountString", "internal/bytealg.IndexString", "internal/bytealg.MakeNoZero"], named := ["internal/bytealg.MaxLen", "unicode/utf8.first", "unicode/utf8.acceptRanges"], apart := false, laid := [("unicode/utf8.acceptRanges", laid_unicode_utf8_acceptRanges), ("unicode/utf8.first", laid_unicode_utf8_first)], narrowed := true }
def RefsPlainUptoSaid : Prop := refsPlainUptoRow.holds Tryd.pinned (OpenSpec.upto refsPlainSpec)

/-- 'colanderlaw12.RefsNumbers', WHERE WHAT IT READS IS OF BULK AT MOST 1048576: true; the input reads as it did. -/
def refsNumbersUptoRow : OpenClaim := { program := "ytcgkenmgglediaadoor", sum := "c3d7ec6773d7cccf1ed620d46a81ca98cbb93810899a5537d34e0dd9c552f354", func := "colander/colanderlaw12.RefsNumbers", spec := "refsNumbers", inPlace := ["internal/abi.NoEscape", "internal/bytealg.IndexByteString", "internal/bytealg.CountString", "internal/bytealg.IndexString", "internal/bytealg.MakeNoZero"], named := ["internal/bytealg.MaxLen", "unicode/utf8.first", "unicode/utf8.acceptRanges"], apart := false, laid := [("unicode/utf8.acceptRanges", laid_unicode_utf8_acceptRanges), ("unicode/utf8.first", laid_unicode_utf8_first)], narrowed := true }
def RefsNumbersUptoSaid : Prop := refsNumbersUptoRow.holds Tryd.pinned (OpenSpec.upto refsNumbersSpec)

/-- 'colanderlaw12.RefsLongest', WHERE WHAT IT READS IS OF BULK AT MOST 1048576: true; the input reads as it did. -/
def refsLongestUptoRow : OpenClaim := { program := "ytcgkenmgglediaadoor", sum := "c3d7ec6773d7cccf1ed620d46a81ca98cbb93810899a5537d34e0dd9c552f354", func := "colander/colanderlaw12.RefsLongest", spec := "refsLongest", inPlace := ["internal/abi.NoEscape", "internal/bytealg.IndexByteString", "internal/bytealg.CountString", "internal/bytealg.IndexString", "internal/bytealg.MakeNoZero"], named := ["internal/bytealg.MaxLen", "unicode/utf8.first", "unicode/utf8.acceptRanges"], apart := false, laid := [("unicode/utf8.acceptRanges", laid_unicode_utf8_acceptRanges), ("unicode/utf8.first", laid_unicode_utf8_first)], narrowed := true }
def RefsLongestUptoSaid : Prop := refsLongestUptoRow.holds Tryd.pinned (OpenSpec.upto refsLongestSpec)

/-- 'colanderlaw12.RefsValid', WHERE WHAT IT READS IS OF BULK AT MOST 1048576: true; the input reads as it did. -/
def refsValidUptoRow : OpenClaim := { program := "ytcgkenmgglediaadoor", sum := "c3d7ec6773d7cccf1ed620d46a81ca98cbb93810899a5537d34e0dd9c552f354", func := "colander/colanderlaw12.RefsValid", spec := "refsValid", inPlace := ["internal/abi.NoEscape", "internal/bytealg.IndexByteString", "internal/bytealg.CountString", "internal/bytealg.IndexString", "internal/bytealg.MakeNoZero"], named := ["internal/bytealg.MaxLen", "unicode/utf8.first", "unicode/utf8.acceptRanges"], apart := false, laid := [("unicode/utf8.acceptRanges", laid_unicode_utf8_acceptRanges), ("unicode/utf8.first", laid_unicode_utf8_first)], narrowed := true }
def RefsValidUptoSaid : Prop := refsValidUptoRow.holds Tryd.pinned (OpenSpec.upto refsValidSpec)

end Rows
end Go.Proofs.YtcgkenmgglediaaDoor
