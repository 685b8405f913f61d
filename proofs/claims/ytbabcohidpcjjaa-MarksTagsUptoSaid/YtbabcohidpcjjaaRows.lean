/-
  No cell of these rows narrows 'for every input' (looked for: loops, veiled, ifaces, maps, wideKeys, modest, calm, conditions, laid).
  DERIVED. THE GIVEN ROWS OF THIS SEAT. 7 by the template 'for every input the law returns true; each argument reads behind the call as it read before'; 0 by the template 'total and deterministic' (their statements: YtbabcohidpcjjaaTotals.lean).
  GIVEN WITH THE SEED: the statements are not yours to turn. If you find one false, say at which input.
  Laid BY PROGRAM, IN A SANDBOX (cutbox-rows.mjs): the forced cells as the released guide's own fill.sh prints them over the translation 47a50cc905766eae… (all of the seat's roots in one cut). By AI agents, Wed Nov 11 2026. No macro, syntax, notation, axiom, sorry.
-/
import Derived.Test.YtbabcohidpcjjaaChecked
import GoSem.Claim
import GoSem.ClaimJoined
import GoSem.ClaimMapViews
import Derived.JoinedTies
import Derived.KernelRfl
namespace Go.Proofs.Ytbabcohidpcjjaa
/- THE CELL 'sum', in the pinned program and in every row, IS THE sha256 OF THE DUMP (.gsa) THAT YtbabcohidpcjjaaProg.lean LOADS. Nothing in Lean hashes anything: it is a label: what it is worth is what the hold of that sum in a sandbox is worth. -/
noncomputable def Try.pinned : Pinned := { name := "ytbabcohidpcjjaa", sum := "47a50cc905766eae103ac3b3ba9092821599a49c9fa9a57693f5d72e5a78f799", checked := Try.checked }
namespace Rows
def none {H : Type} : Left H := { results := [], args := [] }

/-- 'colanderlaw13.MarksPieces': WHATEVER THE INPUT: true; the input reads as it did. -/
def marksPiecesSpec : ChangeSpec := { name := "marksPieces", fn := fun _ => fun
  | [d1, d2] => { results := [.lit (.bool true)], args := [d1, d2] }
  | _ => none }
def marksPiecesRow : OpenClaim := { program := "ytbabcohidpcjjaa", sum := "47a50cc905766eae103ac3b3ba9092821599a49c9fa9a57693f5d72e5a78f799", func := "colander/colanderlaw13.MarksPieces", spec := "marksPieces", inPlace := ["internal/abi.NoEscape", "internal/bytealg.IndexByteString", "internal/bytealg.IndexString"], named := ["internal/bytealg.MaxLen"], apart := false }
def MarksPiecesSaid : Prop := marksPiecesRow.holds Try.pinned (OpenSpec.ofChange marksPiecesSpec)

/-- ITS FALSE NEIGHBOUR: 'it returns false'. Refute it at one input. -/
def marksPiecesWrong : ChangeSpec := { name := "marksPieces", fn := fun _ => fun
  | [d1, d2] => { results := [.lit (.bool false)], args := [d1, d2] }
  | _ => none }
def MarksPiecesWrongFalsely : Prop := marksPiecesRow.holds Try.pinned (OpenSpec.ofChange marksPiecesWrong)

/-- 'colanderlaw13.MarksShape': WHATEVER THE INPUT: true; the input reads as it did. -/
def marksShapeSpec : ChangeSpec := { name := "marksShape", fn := fun _ => fun
  | [d] => { results := [.lit (.bool true)], args := [d] }
  | _ => none }
def marksShapeRow : OpenClaim := { program := "ytbabcohidpcjjaa", sum := "47a50cc905766eae103ac3b3ba9092821599a49c9fa9a57693f5d72e5a78f799", func := "colander/colanderlaw13.MarksShape", spec := "marksShape", inPlace := ["internal/abi.NoEscape", "internal/bytealg.IndexByteString", "internal/bytealg.IndexString"], named := ["internal/bytealg.MaxLen"], apart := false }
def MarksShapeSaid : Prop := marksShapeRow.holds Try.pinned (OpenSpec.ofChange marksShapeSpec)

/-- ITS FALSE NEIGHBOUR: 'it returns false'. Refute it at one input. -/
def marksShapeWrong : ChangeSpec := { name := "marksShape", fn := fun _ => fun
  | [d] => { results := [.lit (.bool false)], args := [d] }
  | _ => none }
def MarksShapeWrongFalsely : Prop := marksShapeRow.holds Try.pinned (OpenSpec.ofChange marksShapeWrong)

/-- 'colanderlaw13.MarksTags': WHATEVER THE INPUT: true; the input reads as it did. -/
def marksTagsSpec : ChangeSpec := { name := "marksTags", fn := fun _ => fun
  | [d1, d2, d3] => { results := [.lit (.bool true)], args := [d1, d2, d3] }
  | _ => none }
def marksTagsRow : OpenClaim := { program := "ytbabcohidpcjjaa", sum := "47a50cc905766eae103ac3b3ba9092821599a49c9fa9a57693f5d72e5a78f799", func := "colander/colanderlaw13.MarksTags", spec := "marksTags", inPlace := ["internal/abi.NoEscape", "internal/bytealg.IndexByteString", "internal/bytealg.IndexString"], named := ["internal/bytealg.MaxLen"], apart := false }
def MarksTagsSaid : Prop := marksTagsRow.holds Try.pinned (OpenSpec.ofChange marksTagsSpec)

/-- ITS FALSE NEIGHBOUR: 'it returns false'. Refute it at one input. -/
def marksTagsWrong : ChangeSpec := { name := "marksTags", fn := fun _ => fun
  | [d1, d2, d3] => { results := [.lit (.bool false)], args := [d1, d2, d3] }
  | _ => none }
def MarksTagsWrongFalsely : Prop := marksTagsRow.holds Try.pinned (OpenSpec.ofChange marksTagsWrong)

/-- 'colanderlaw13.MarksLines': WHATEVER THE INPUT: true; the input reads as it did. -/
def marksLinesSpec : ChangeSpec := { name := "marksLines", fn := fun _ => fun
  | [d1, d2] => { results := [.lit (.bool true)], args := [d1, d2] }
  | _ => none }
def marksLinesRow : OpenClaim := { program := "ytbabcohidpcjjaa", sum := "47a50cc905766eae103ac3b3ba9092821599a49c9fa9a57693f5d72e5a78f799", func := "colander/colanderlaw13.MarksLines", spec := "marksLines", inPlace := ["internal/abi.NoEscape", "internal/bytealg.IndexByteString", "internal/bytealg.IndexString"], named := ["internal/bytealg.MaxLen"], apart := false }
def MarksLinesSaid : Prop := marksLinesRow.holds Try.pinned (OpenSpec.ofChange marksLinesSpec)

/-- ITS FALSE NEIGHBOUR: 'it returns false'. Refute it at one input. -/
def marksLinesWrong : ChangeSpec := { name := "marksLines", fn := fun _ => fun
  | [d1, d2] => { results := [.lit (.bool false)], args := [d1, d2] }
  | _ => none }
def MarksLinesWrongFalsely : Prop := marksLinesRow.holds Try.pinned (OpenSpec.ofChange marksLinesWrong)

/-- 'colanderlaw13.MarksLimit': WHATEVER THE INPUT: true; the input reads as it did. -/
def marksLimitSpec : ChangeSpec := { name := "marksLimit", fn := fun _ => fun
  | [d1, d2, d3] => { results := [.lit (.bool true)], args := [d1, d2, d3] }
  | _ => none }
def marksLimitRow : OpenClaim := { program := "ytbabcohidpcjjaa", sum := "47a50cc905766eae103ac3b3ba9092821599a49c9fa9a57693f5d72e5a78f799", func := "colander/colanderlaw13.MarksLimit", spec := "marksLimit", inPlace := ["internal/abi.NoEscape", "internal/bytealg.IndexByteString", "internal/bytealg.IndexString"], named := ["internal/bytealg.MaxLen"], apart := false }
def MarksLimitSaid : Prop := marksLimitRow.holds Try.pinned (OpenSpec.ofChange marksLimitSpec)

/-- ITS FALSE NEIGHBOUR: 'it returns false'. Refute it at one input. -/
def marksLimitWrong : ChangeSpec := { name := "marksLimit", fn := fun _ => fun
  | [d1, d2, d3] => { results := [.lit (.bool false)], args := [d1, d2, d3] }
  | _ => none }
def MarksLimitWrongFalsely : Prop := marksLimitRow.holds Try.pinned (OpenSpec.ofChange marksLimitWrong)

/-- 'colanderlaw13.MarksRaw': WHATEVER THE INPUT: true; the input reads as it did. -/
def marksRawSpec : ChangeSpec := { name := "marksRaw", fn := fun _ => fun
  | [d1, d2] => { results := [.lit (.bool true)], args := [d1, d2] }
  | _ => none }
def marksRawRow : OpenClaim := { program := "ytbabcohidpcjjaa", sum := "47a50cc905766eae103ac3b3ba9092821599a49c9fa9a57693f5d72e5a78f799", func := "colander/colanderlaw13.MarksRaw", spec := "marksRaw", inPlace := ["internal/abi.NoEscape", "internal/bytealg.IndexByteString", "internal/bytealg.IndexString"], named := ["internal/bytealg.MaxLen"], apart := false }
def MarksRawSaid : Prop := marksRawRow.holds Try.pinned (OpenSpec.ofChange marksRawSpec)

/-- ITS FALSE NEIGHBOUR: 'it returns false'. Refute it at one input. -/
def marksRawWrong : ChangeSpec := { name := "marksRaw", fn := fun _ => fun
  | [d1, d2] => { results := [.lit (.bool false)], args := [d1, d2] }
  | _ => none }
def MarksRawWrongFalsely : Prop := marksRawRow.holds Try.pinned (OpenSpec.ofChange marksRawWrong)

/-- 'colanderlaw13.MarksTexts': WHATEVER THE INPUT: true; the input reads as it did. -/
def marksTextsSpec : ChangeSpec := { name := "marksTexts", fn := fun _ => fun
  | [d] => { results := [.lit (.bool true)], args := [d] }
  | _ => none }
def marksTextsRow : OpenClaim := { program := "ytbabcohidpcjjaa", sum := "47a50cc905766eae103ac3b3ba9092821599a49c9fa9a57693f5d72e5a78f799", func := "colander/colanderlaw13.MarksTexts", spec := "marksTexts", inPlace := ["internal/abi.NoEscape", "internal/bytealg.IndexByteString", "internal/bytealg.IndexString"], named := ["internal/bytealg.MaxLen"], apart := false }
def MarksTextsSaid : Prop := marksTextsRow.holds Try.pinned (OpenSpec.ofChange marksTextsSpec)

/-- ITS FALSE NEIGHBOUR: 'it returns false'. Refute it at one input. -/
def marksTextsWrong : ChangeSpec := { name := "marksTexts", fn := fun _ => fun
  | [d] => { results := [.lit (.bool false)], args := [d] }
  | _ => none }
def MarksTextsWrongFalsely : Prop := marksTextsRow.holds Try.pinned (OpenSpec.ofChange marksTextsWrong)

/- THE SECOND FORM. 'bulk': how many values and letters a reading holds, each counted each time it is reached (what is shared counts as often as it is met; a slice's spare places count too). A statement '..UptoSaid' is the law's where the arguments, and the package variables that the reading takes, are together of bulk at most 1048576: NARROWER than '..Said'. Prove '..Said' where nothing that the law and all that it calls make is longer than what came in: it says more and counts as full. Else prove '..UptoSaid'. A law counts once. -/
mutual
def uptoBulk {H : Type} : DataW H → Nat
  | .lit (.string bytes) => bytes.length + 1
  | .lit _ => 1
  | .nil => 1
  | .ptr d => uptoBulk d + 1
  | .slice elems spare => uptoBulkAll elems + uptoBulkAll spare + 1
  | .agg parts => uptoBulkAll parts + 1
  | .iface _ d => uptoBulk d + 1
  | .map entries => uptoBulkEntries entries + 1
  | .held _ => 1
def uptoBulkAll {H : Type} : List (DataW H) → Nat
  | [] => 0
  | d :: r => uptoBulk d + uptoBulkAll r
def uptoBulkEntries {H : Type} : List (Lit × DataW H) → Nat
  | [] => 0
  | x :: r => uptoBulkEntry x + uptoBulkEntries r
def uptoBulkEntry {H : Type} : Lit × DataW H → Nat
  | (.string bytes, d) => bytes.length + uptoBulk d + 1
  | (_, d) => uptoBulk d + 1
 end
def uptoSmall : (H : Type) → List (DataW H) → Bool := fun _ ds => decide (uptoBulkAll ds ≤ 1048576)
def OpenSpec.upto (s : _root_.Go.ChangeSpec) : _root_.Go.OpenSpec := { _root_.Go.OpenSpec.ofChange s with cond := some uptoSmall }

/-- 'colanderlaw13.MarksPieces', WHERE WHAT IT READS IS OF BULK AT MOST 1048576: true; the input reads as it did. -/
def marksPiecesUptoRow : OpenClaim := { program := "ytbabcohidpcjjaa", sum := "47a50cc905766eae103ac3b3ba9092821599a49c9fa9a57693f5d72e5a78f799", func := "colander/colanderlaw13.MarksPieces", spec := "marksPieces", inPlace := ["internal/abi.NoEscape", "internal/bytealg.IndexByteString", "internal/bytealg.IndexString"], named := ["internal/bytealg.MaxLen"], apart := false, narrowed := true }
def MarksPiecesUptoSaid : Prop := marksPiecesUptoRow.holds Try.pinned (OpenSpec.upto marksPiecesSpec)

/-- 'colanderlaw13.MarksShape', WHERE WHAT IT READS IS OF BULK AT MOST 1048576: true; the input reads as it did. -/
def marksShapeUptoRow : OpenClaim := { program := "ytbabcohidpcjjaa", sum := "47a50cc905766eae103ac3b3ba9092821599a49c9fa9a57693f5d72e5a78f799", func := "colander/colanderlaw13.MarksShape", spec := "marksShape", inPlace := ["internal/abi.NoEscape", "internal/bytealg.IndexByteString", "internal/bytealg.IndexString"], named := ["internal/bytealg.MaxLen"], apart := false, narrowed := true }
def MarksShapeUptoSaid : Prop := marksShapeUptoRow.holds Try.pinned (OpenSpec.upto marksShapeSpec)

/-- 'colanderlaw13.MarksTags', WHERE WHAT IT READS IS OF BULK AT MOST 1048576: true; the input reads as it did. -/
def marksTagsUptoRow : OpenClaim := { program := "ytbabcohidpcjjaa", sum := "47a50cc905766eae103ac3b3ba9092821599a49c9fa9a57693f5d72e5a78f799", func := "colander/colanderlaw13.MarksTags", spec := "marksTags", inPlace := ["internal/abi.NoEscape", "internal/bytealg.IndexByteString", "internal/bytealg.IndexString"], named := ["internal/bytealg.MaxLen"], apart := false, narrowed := true }
def MarksTagsUptoSaid : Prop := marksTagsUptoRow.holds Try.pinned (OpenSpec.upto marksTagsSpec)

/-- 'colanderlaw13.MarksLines', WHERE WHAT IT READS IS OF BULK AT MOST 1048576: true; the input reads as it did. -/
def marksLinesUptoRow : OpenClaim := { program := "ytbabcohidpcjjaa", sum := "47a50cc905766eae103ac3b3ba9092821599a49c9fa9a57693f5d72e5a78f799", func := "colander/colanderlaw13.MarksLines", spec := "marksLines", inPlace := ["internal/abi.NoEscape", "internal/bytealg.IndexByteString", "internal/bytealg.IndexString"], named := ["internal/bytealg.MaxLen"], apart := false, narrowed := true }
def MarksLinesUptoSaid : Prop := marksLinesUptoRow.holds Try.pinned (OpenSpec.upto marksLinesSpec)

/-- 'colanderlaw13.MarksLimit', WHERE WHAT IT READS IS OF BULK AT MOST 1048576: true; the input reads as it did. -/
def marksLimitUptoRow : OpenClaim := { program := "ytbabcohidpcjjaa", sum := "47a50cc905766eae103ac3b3ba9092821599a49c9fa9a57693f5d72e5a78f799", func := "colander/colanderlaw13.MarksLimit", spec := "marksLimit", inPlace := ["internal/abi.NoEscape", "internal/bytealg.IndexByteString", "internal/bytealg.IndexString"], named := ["internal/bytealg.MaxLen"], apart := false, narrowed := true }
def MarksLimitUptoSaid : Prop := marksLimitUptoRow.holds Try.pinned (OpenSpec.upto marksLimitSpec)

/-- 'colanderlaw13.MarksRaw', WHERE WHAT IT READS IS OF BULK AT MOST 1048576: true; the input reads as it did. -/
def marksRawUptoRow : OpenClaim := { program := "ytbabcohidpcjjaa", sum := "47a50cc905766eae103ac3b3ba9092821599a49c9fa9a57693f5d72e5a78f799", func := "colander/colanderlaw13.MarksRaw", spec := "marksRaw", inPlace := ["internal/abi.NoEscape", "internal/bytealg.IndexByteString", "internal/bytealg.IndexString"], named := ["internal/bytealg.MaxLen"], apart := false, narrowed := true }
def MarksRawUptoSaid : Prop := marksRawUptoRow.holds Try.pinned (OpenSpec.upto marksRawSpec)

/-- 'colanderlaw13.MarksTexts', WHERE WHAT IT READS IS OF BULK AT MOST 1048576: true; the input reads as it did. -/
def marksTextsUptoRow : OpenClaim := { program := "ytbabcohidpcjjaa", sum := "47a50cc905766eae103ac3b3ba9092821599a49c9fa9a57693f5d72e5a78f799", func := "colander/colanderlaw13.MarksTexts", spec := "marksTexts", inPlace := ["internal/abi.NoEscape", "internal/bytealg.IndexByteString", "internal/bytealg.IndexString"], named := ["internal/bytealg.MaxLen"], apart := false, narrowed := true }
def MarksTextsUptoSaid : Prop := marksTextsUptoRow.holds Try.pinned (OpenSpec.upto marksTextsSpec)

end Rows
end Go.Proofs.Ytbabcohidpcjjaa
