/-
  No cell of these rows narrows 'for every input' (looked for: loops, veiled, ifaces, maps, wideKeys, modest, calm, conditions, laid).
  DERIVED. THE GIVEN ROWS OF THIS SEAT. 11 by the template 'for every input the law returns true; each argument reads behind the call as it read before'; 0 by the template 'total and deterministic' (their statements: YtflphgmblipglaaTotals.lean).
  GIVEN WITH THE SEED: the statements are not yours to turn. If you find one false, say at which input.
  Laid BY PROGRAM, IN A SANDBOX (cutbox-rows.mjs): the forced cells as the released guide's own fill.sh prints them over the translation 7b7b6363a5e1d6ac… (all of the seat's roots in one cut). By AI agents, Wed Nov 11 2026. No macro, syntax, notation, axiom, sorry.
-/
import Derived.Test.YtflphgmblipglaaChecked
import GoSem.Claim
import GoSem.ClaimJoined
import GoSem.ClaimMapViews
import Derived.JoinedTies
import Derived.KernelRfl
namespace Go.Proofs.Ytflphgmblipglaa
/- THE CELL 'sum', in the pinned program and in every row, IS THE sha256 OF THE DUMP (.gsa) THAT YtflphgmblipglaaProg.lean LOADS. Nothing in Lean hashes anything: it is a label: what it is worth is what the hold of that sum in a sandbox is worth. -/
noncomputable def Try.pinned : Pinned := { name := "ytflphgmblipglaa", sum := "7b7b6363a5e1d6ac6ccb87949fe8a6e731a3329b14bda6698e22677ff6562609", checked := Try.checked }
namespace Rows
def none {H : Type} : Left H := { results := [], args := [] }

/-- 'colanderlaw16.ForeignPoints': WHATEVER THE INPUT: true; the input reads as it did. -/
def foreignPointsSpec : ChangeSpec := { name := "foreignPoints", fn := fun _ => fun
  | [d1, d2, d3] => { results := [.lit (.bool true)], args := [d1, d2, d3] }
  | _ => none }
def foreignPointsRow : OpenClaim := { program := "ytflphgmblipglaa", sum := "7b7b6363a5e1d6ac6ccb87949fe8a6e731a3329b14bda6698e22677ff6562609", func := "colander/colanderlaw16.ForeignPoints", spec := "foreignPoints", apart := false }
def ForeignPointsSaid : Prop := foreignPointsRow.holds Try.pinned (OpenSpec.ofChange foreignPointsSpec)

/-- ITS FALSE NEIGHBOUR: 'it returns false'. Refute it at one input. -/
def foreignPointsWrong : ChangeSpec := { name := "foreignPoints", fn := fun _ => fun
  | [d1, d2, d3] => { results := [.lit (.bool false)], args := [d1, d2, d3] }
  | _ => none }
def ForeignPointsWrongFalsely : Prop := foreignPointsRow.holds Try.pinned (OpenSpec.ofChange foreignPointsWrong)

/-- 'colanderlaw16.ForeignBreaks': WHATEVER THE INPUT: true; the input reads as it did. -/
def foreignBreaksSpec : ChangeSpec := { name := "foreignBreaks", fn := fun _ => fun
  | [d] => { results := [.lit (.bool true)], args := [d] }
  | _ => none }
def foreignBreaksRow : OpenClaim := { program := "ytflphgmblipglaa", sum := "7b7b6363a5e1d6ac6ccb87949fe8a6e731a3329b14bda6698e22677ff6562609", func := "colander/colanderlaw16.ForeignBreaks", spec := "foreignBreaks", apart := false }
def ForeignBreaksSaid : Prop := foreignBreaksRow.holds Try.pinned (OpenSpec.ofChange foreignBreaksSpec)

/-- ITS FALSE NEIGHBOUR: 'it returns false'. Refute it at one input. -/
def foreignBreaksWrong : ChangeSpec := { name := "foreignBreaks", fn := fun _ => fun
  | [d] => { results := [.lit (.bool false)], args := [d] }
  | _ => none }
def ForeignBreaksWrongFalsely : Prop := foreignBreaksRow.holds Try.pinned (OpenSpec.ofChange foreignBreaksWrong)

/-- 'colanderlaw16.ForeignPage': WHATEVER THE INPUT: true; the input reads as it did. -/
def foreignPageSpec : ChangeSpec := { name := "foreignPage", fn := fun _ => fun
  | [d1, d2, d3] => { results := [.lit (.bool true)], args := [d1, d2, d3] }
  | _ => none }
def foreignPageRow : OpenClaim := { program := "ytflphgmblipglaa", sum := "7b7b6363a5e1d6ac6ccb87949fe8a6e731a3329b14bda6698e22677ff6562609", func := "colander/colanderlaw16.ForeignPage", spec := "foreignPage", apart := false }
def ForeignPageSaid : Prop := foreignPageRow.holds Try.pinned (OpenSpec.ofChange foreignPageSpec)

/-- ITS FALSE NEIGHBOUR: 'it returns false'. Refute it at one input. -/
def foreignPageWrong : ChangeSpec := { name := "foreignPage", fn := fun _ => fun
  | [d1, d2, d3] => { results := [.lit (.bool false)], args := [d1, d2, d3] }
  | _ => none }
def ForeignPageWrongFalsely : Prop := foreignPageRow.holds Try.pinned (OpenSpec.ofChange foreignPageWrong)

/-- 'colanderlaw16.ForeignNames': WHATEVER THE INPUT: true; the input reads as it did. -/
def foreignNamesSpec : ChangeSpec := { name := "foreignNames", fn := fun _ => fun
  | [d1, d2, d3] => { results := [.lit (.bool true)], args := [d1, d2, d3] }
  | _ => none }
def foreignNamesRow : OpenClaim := { program := "ytflphgmblipglaa", sum := "7b7b6363a5e1d6ac6ccb87949fe8a6e731a3329b14bda6698e22677ff6562609", func := "colander/colanderlaw16.ForeignNames", spec := "foreignNames", apart := false }
def ForeignNamesSaid : Prop := foreignNamesRow.holds Try.pinned (OpenSpec.ofChange foreignNamesSpec)

/-- ITS FALSE NEIGHBOUR: 'it returns false'. Refute it at one input. -/
def foreignNamesWrong : ChangeSpec := { name := "foreignNames", fn := fun _ => fun
  | [d1, d2, d3] => { results := [.lit (.bool false)], args := [d1, d2, d3] }
  | _ => none }
def ForeignNamesWrongFalsely : Prop := foreignNamesRow.holds Try.pinned (OpenSpec.ofChange foreignNamesWrong)

/-- 'colanderlaw16.ForeignAdjusts': WHATEVER THE INPUT: true; the input reads as it did. -/
def foreignAdjustsSpec : ChangeSpec := { name := "foreignAdjusts", fn := fun _ => fun
  | [d1, d2, d3] => { results := [.lit (.bool true)], args := [d1, d2, d3] }
  | _ => none }
def foreignAdjustsRow : OpenClaim := { program := "ytflphgmblipglaa", sum := "7b7b6363a5e1d6ac6ccb87949fe8a6e731a3329b14bda6698e22677ff6562609", func := "colander/colanderlaw16.ForeignAdjusts", spec := "foreignAdjusts", apart := false }
def ForeignAdjustsSaid : Prop := foreignAdjustsRow.holds Try.pinned (OpenSpec.ofChange foreignAdjustsSpec)

/-- ITS FALSE NEIGHBOUR: 'it returns false'. Refute it at one input. -/
def foreignAdjustsWrong : ChangeSpec := { name := "foreignAdjusts", fn := fun _ => fun
  | [d1, d2, d3] => { results := [.lit (.bool false)], args := [d1, d2, d3] }
  | _ => none }
def ForeignAdjustsWrongFalsely : Prop := foreignAdjustsRow.holds Try.pinned (OpenSpec.ofChange foreignAdjustsWrong)

/-- 'colanderlaw14.OpenWhole': WHATEVER THE INPUT: true; the input reads as it did. -/
def openWholeSpec : ChangeSpec := { name := "openWhole", fn := fun _ => fun
  | [d] => { results := [.lit (.bool true)], args := [d] }
  | _ => none }
def openWholeRow : OpenClaim := { program := "ytflphgmblipglaa", sum := "7b7b6363a5e1d6ac6ccb87949fe8a6e731a3329b14bda6698e22677ff6562609", func := "colander/colanderlaw14.OpenWhole", spec := "openWhole", recurses := true, apart := false }
def OpenWholeSaid : Prop := openWholeRow.holds Try.pinned (OpenSpec.ofChange openWholeSpec)

/-- ITS FALSE NEIGHBOUR: 'it returns false'. Refute it at one input. -/
def openWholeWrong : ChangeSpec := { name := "openWhole", fn := fun _ => fun
  | [d] => { results := [.lit (.bool false)], args := [d] }
  | _ => none }
def OpenWholeWrongFalsely : Prop := openWholeRow.holds Try.pinned (OpenSpec.ofChange openWholeWrong)

/-- 'colanderlaw14.OpenMoves': WHATEVER THE INPUT: true; the input reads as it did. -/
def openMovesSpec : ChangeSpec := { name := "openMoves", fn := fun _ => fun
  | [d1, d2, d3] => { results := [.lit (.bool true)], args := [d1, d2, d3] }
  | _ => none }
def openMovesRow : OpenClaim := { program := "ytflphgmblipglaa", sum := "7b7b6363a5e1d6ac6ccb87949fe8a6e731a3329b14bda6698e22677ff6562609", func := "colander/colanderlaw14.OpenMoves", spec := "openMoves", recurses := true, apart := false }
def OpenMovesSaid : Prop := openMovesRow.holds Try.pinned (OpenSpec.ofChange openMovesSpec)

/-- ITS FALSE NEIGHBOUR: 'it returns false'. Refute it at one input. -/
def openMovesWrong : ChangeSpec := { name := "openMoves", fn := fun _ => fun
  | [d1, d2, d3] => { results := [.lit (.bool false)], args := [d1, d2, d3] }
  | _ => none }
def OpenMovesWrongFalsely : Prop := openMovesRow.holds Try.pinned (OpenSpec.ofChange openMovesWrong)

/-- 'colanderlaw14.OpenTrees': WHATEVER THE INPUT: true; the input reads as it did. -/
def openTreesSpec : ChangeSpec := { name := "openTrees", fn := fun _ => fun
  | [d1, d2] => { results := [.lit (.bool true)], args := [d1, d2] }
  | _ => none }
def openTreesRow : OpenClaim := { program := "ytflphgmblipglaa", sum := "7b7b6363a5e1d6ac6ccb87949fe8a6e731a3329b14bda6698e22677ff6562609", func := "colander/colanderlaw14.OpenTrees", spec := "openTrees", recurses := true, apart := false }
def OpenTreesSaid : Prop := openTreesRow.holds Try.pinned (OpenSpec.ofChange openTreesSpec)

/-- ITS FALSE NEIGHBOUR: 'it returns false'. Refute it at one input. -/
def openTreesWrong : ChangeSpec := { name := "openTrees", fn := fun _ => fun
  | [d1, d2] => { results := [.lit (.bool false)], args := [d1, d2] }
  | _ => none }
def OpenTreesWrongFalsely : Prop := openTreesRow.holds Try.pinned (OpenSpec.ofChange openTreesWrong)

/-- 'colanderlaw14.OpenKinds': WHATEVER THE INPUT: true; the input reads as it did. -/
def openKindsSpec : ChangeSpec := { name := "openKinds", fn := fun _ => fun
  | [d1, d2, d3] => { results := [.lit (.bool true)], args := [d1, d2, d3] }
  | _ => none }
def openKindsRow : OpenClaim := { program := "ytflphgmblipglaa", sum := "7b7b6363a5e1d6ac6ccb87949fe8a6e731a3329b14bda6698e22677ff6562609", func := "colander/colanderlaw14.OpenKinds", spec := "openKinds", apart := false }
def OpenKindsSaid : Prop := openKindsRow.holds Try.pinned (OpenSpec.ofChange openKindsSpec)

/-- ITS FALSE NEIGHBOUR: 'it returns false'. Refute it at one input. -/
def openKindsWrong : ChangeSpec := { name := "openKinds", fn := fun _ => fun
  | [d1, d2, d3] => { results := [.lit (.bool false)], args := [d1, d2, d3] }
  | _ => none }
def OpenKindsWrongFalsely : Prop := openKindsRow.holds Try.pinned (OpenSpec.ofChange openKindsWrong)

/-- 'colanderlaw14.OpenScopes': WHATEVER THE INPUT: true; the input reads as it did. -/
def openScopesSpec : ChangeSpec := { name := "openScopes", fn := fun _ => fun
  | [d1, d2] => { results := [.lit (.bool true)], args := [d1, d2] }
  | _ => none }
def openScopesRow : OpenClaim := { program := "ytflphgmblipglaa", sum := "7b7b6363a5e1d6ac6ccb87949fe8a6e731a3329b14bda6698e22677ff6562609", func := "colander/colanderlaw14.OpenScopes", spec := "openScopes", unfollowed := true, recurses := true, apart := false }
def OpenScopesSaid : Prop := openScopesRow.holds Try.pinned (OpenSpec.ofChange openScopesSpec)

/-- ITS FALSE NEIGHBOUR: 'it returns false'. Refute it at one input. -/
def openScopesWrong : ChangeSpec := { name := "openScopes", fn := fun _ => fun
  | [d1, d2] => { results := [.lit (.bool false)], args := [d1, d2] }
  | _ => none }
def OpenScopesWrongFalsely : Prop := openScopesRow.holds Try.pinned (OpenSpec.ofChange openScopesWrong)

/-- 'colanderlaw14.OpenStacks': WHATEVER THE INPUT: true; the input reads as it did. -/
def openStacksSpec : ChangeSpec := { name := "openStacks", fn := fun _ => fun
  | [d1, d2] => { results := [.lit (.bool true)], args := [d1, d2] }
  | _ => none }
def openStacksRow : OpenClaim := { program := "ytflphgmblipglaa", sum := "7b7b6363a5e1d6ac6ccb87949fe8a6e731a3329b14bda6698e22677ff6562609", func := "colander/colanderlaw14.OpenStacks", spec := "openStacks", inPlace := ["slices.overlaps[int]"], unfollowed := true, recurses := true, apart := false }
def OpenStacksSaid : Prop := openStacksRow.holds Try.pinned (OpenSpec.ofChange openStacksSpec)

/-- ITS FALSE NEIGHBOUR: 'it returns false'. Refute it at one input. -/
def openStacksWrong : ChangeSpec := { name := "openStacks", fn := fun _ => fun
  | [d1, d2] => { results := [.lit (.bool false)], args := [d1, d2] }
  | _ => none }
def OpenStacksWrongFalsely : Prop := openStacksRow.holds Try.pinned (OpenSpec.ofChange openStacksWrong)

/- THE SECOND FORM. 'bulk': how many values and letters a reading holds, each counted each time it is reached (what is shared counts as often as it is met; a slice's spare places count too). A statement '..UptoSaid' is the law's where the arguments, and the package variables that the reading takes, are together of bulk at most 1048576: NARROWER than '..Said'. Prove '..Said' where nothing that the law and all that it calls make is longer than what came in: it says more and counts as full. Else prove '..UptoSaid'. A law counts once. -/
mutual
def uptoBulk {H : Type} : DataW H → Nat
  | .lit (.string bytes) => bytes.length + 1
  | .lit _ => 1
  | .nil => 1
  | .ptr d => uptoBulk d + 1
  | .slice elems spare => uptoBulkAll elems + uptoBulkAll spare + 1
  | .agg parts => uptoBulkAll parts + 1
  | .iface _ d => uptoBulk d + 1
  | .map entries => uptoBulkEntries entries + 1
  | .held _ => 1
def uptoBulkAll {H : Type} : List (DataW H) → Nat
  | [] => 0
  | d :: r => uptoBulk d + uptoBulkAll r
def uptoBulkEntries {H : Type} : List (Lit × DataW H) → Nat
  | [] => 0
  | x :: r => uptoBulkEntry x + uptoBulkEntries r
def uptoBulkEntry {H : Type} : Lit × DataW H → Nat
  | (.string bytes, d) => bytes.length + uptoBulk d + 1
  | (_, d) => uptoBulk d + 1
 end
def uptoSmall : (H : Type) → List (DataW H) → Bool := fun _ ds => decide (uptoBulkAll ds ≤ 1048576)
def OpenSpec.upto (s : _root_.Go.ChangeSpec) : _root_.Go.OpenSpec := { _root_.Go.OpenSpec.ofChange s with cond := some uptoSmall }

/-- 'colanderlaw16.ForeignPoints', WHERE WHAT IT READS IS OF BULK AT MOST 1048576: true; the input reads as it did. -/
def foreignPointsUptoRow : OpenClaim := { program := "ytflphgmblipglaa", sum := "7b7b6363a5e1d6ac6ccb87949fe8a6e731a3329b14bda6698e22677ff6562609", func := "colander/colanderlaw16.ForeignPoints", spec := "foreignPoints", apart := false, narrowed := true }
def ForeignPointsUptoSaid : Prop := foreignPointsUptoRow.holds Try.pinned (OpenSpec.upto foreignPointsSpec)

/-- 'colanderlaw16.ForeignBreaks', WHERE WHAT IT READS IS OF BULK AT MOST 1048576: true; the input reads as it did. -/
def foreignBreaksUptoRow : OpenClaim := { program := "ytflphgmblipglaa", sum := "7b7b6363a5e1d6ac6ccb87949fe8a6e731a3329b14bda6698e22677ff6562609", func := "colander/colanderlaw16.ForeignBreaks", spec := "foreignBreaks", apart := false, narrowed := true }
def ForeignBreaksUptoSaid : Prop := foreignBreaksUptoRow.holds Try.pinned (OpenSpec.upto foreignBreaksSpec)

/-- 'colanderlaw16.ForeignPage', WHERE WHAT IT READS IS OF BULK AT MOST 1048576: true; the input reads as it did. -/
def foreignPageUptoRow : OpenClaim := { program := "ytflphgmblipglaa", sum := "7b7b6363a5e1d6ac6ccb87949fe8a6e731a3329b14bda6698e22677ff6562609", func := "colander/colanderlaw16.ForeignPage", spec := "foreignPage", apart := false, narrowed := true }
def ForeignPageUptoSaid : Prop := foreignPageUptoRow.holds Try.pinned (OpenSpec.upto foreignPageSpec)

/-- 'colanderlaw16.ForeignNames', WHERE WHAT IT READS IS OF BULK AT MOST 1048576: true; the input reads as it did. -/
def foreignNamesUptoRow : OpenClaim := { program := "ytflphgmblipglaa", sum := "7b7b6363a5e1d6ac6ccb87949fe8a6e731a3329b14bda6698e22677ff6562609", func := "colander/colanderlaw16.ForeignNames", spec := "foreignNames", apart := false, narrowed := true }
def ForeignNamesUptoSaid : Prop := foreignNamesUptoRow.holds Try.pinned (OpenSpec.upto foreignNamesSpec)

/-- 'colanderlaw16.ForeignAdjusts', WHERE WHAT IT READS IS OF BULK AT MOST 1048576: true; the input reads as it did. -/
def foreignAdjustsUptoRow : OpenClaim := { program := "ytflphgmblipglaa", sum := "7b7b6363a5e1d6ac6ccb87949fe8a6e731a3329b14bda6698e22677ff6562609", func := "colander/colanderlaw16.ForeignAdjusts", spec := "foreignAdjusts", apart := false, narrowed := true }
def ForeignAdjustsUptoSaid : Prop := foreignAdjustsUptoRow.holds Try.pinned (OpenSpec.upto foreignAdjustsSpec)

/-- 'colanderlaw14.OpenWhole', WHERE WHAT IT READS IS OF BULK AT MOST 1048576: true; the input reads as it did. -/
def openWholeUptoRow : OpenClaim := { program := "ytflphgmblipglaa", sum := "7b7b6363a5e1d6ac6ccb87949fe8a6e731a3329b14bda6698e22677ff6562609", func := "colander/colanderlaw14.OpenWhole", spec := "openWhole", recurses := true, apart := false, narrowed := true }
def OpenWholeUptoSaid : Prop := openWholeUptoRow.holds Try.pinned (OpenSpec.upto openWholeSpec)

/-- 'colanderlaw14.OpenMoves', WHERE WHAT IT READS IS OF BULK AT MOST 1048576: true; the input reads as it did. -/
def openMovesUptoRow : OpenClaim := { program := "ytflphgmblipglaa", sum := "7b7b6363a5e1d6ac6ccb87949fe8a6e731a3329b14bda6698e22677ff6562609", func := "colander/colanderlaw14.OpenMoves", spec := "openMoves", recurses := true, apart := false, narrowed := true }
def OpenMovesUptoSaid : Prop := openMovesUptoRow.holds Try.pinned (OpenSpec.upto openMovesSpec)

/-- 'colanderlaw14.OpenTrees', WHERE WHAT IT READS IS OF BULK AT MOST 1048576: true; the input reads as it did. -/
def openTreesUptoRow : OpenClaim := { program := "ytflphgmblipglaa", sum := "7b7b6363a5e1d6ac6ccb87949fe8a6e731a3329b14bda6698e22677ff6562609", func := "colander/colanderlaw14.OpenTrees", spec := "openTrees", recurses := true, apart := false, narrowed := true }
def OpenTreesUptoSaid : Prop := openTreesUptoRow.holds Try.pinned (OpenSpec.upto openTreesSpec)

/-- 'colanderlaw14.OpenKinds', WHERE WHAT IT READS IS OF BULK AT MOST 1048576: true; the input reads as it did. -/
def openKindsUptoRow : OpenClaim := { program := "ytflphgmblipglaa", sum := "7b7b6363a5e1d6ac6ccb87949fe8a6e731a3329b14bda6698e22677ff6562609", func := "colander/colanderlaw14.OpenKinds", spec := "openKinds", apart := false, narrowed := true }
def OpenKindsUptoSaid : Prop := openKindsUptoRow.holds Try.pinned (OpenSpec.upto openKindsSpec)

/-- 'colanderlaw14.OpenScopes', WHERE WHAT IT READS IS OF BULK AT MOST 1048576: true; the input reads as it did. -/
def openScopesUptoRow : OpenClaim := { program := "ytflphgmblipglaa", sum := "7b7b6363a5e1d6ac6ccb87949fe8a6e731a3329b14bda6698e22677ff6562609", func := "colander/colanderlaw14.OpenScopes", spec := "openScopes", unfollowed := true, recurses := true, apart := false, narrowed := true }
def OpenScopesUptoSaid : Prop := openScopesUptoRow.holds Try.pinned (OpenSpec.upto openScopesSpec)

/-- 'colanderlaw14.OpenStacks', WHERE WHAT IT READS IS OF BULK AT MOST 1048576: true; the input reads as it did. -/
def openStacksUptoRow : OpenClaim := { program := "ytflphgmblipglaa", sum := "7b7b6363a5e1d6ac6ccb87949fe8a6e731a3329b14bda6698e22677ff6562609", func := "colander/colanderlaw14.OpenStacks", spec := "openStacks", inPlace := ["slices.overlaps[int]"], unfollowed := true, recurses := true, apart := false, narrowed := true }
def OpenStacksUptoSaid : Prop := openStacksUptoRow.holds Try.pinned (OpenSpec.upto openStacksSpec)

end Rows
end Go.Proofs.Ytflphgmblipglaa
