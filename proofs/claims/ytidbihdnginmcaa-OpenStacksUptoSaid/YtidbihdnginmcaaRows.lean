/-
  No cell of these rows narrows 'for every input' (looked for: loops, veiled, ifaces, maps, wideKeys, modest, calm, conditions, laid).
  DERIVED. THE GIVEN ROWS OF THIS SEAT. 6 by the template 'for every input the law returns true; each argument reads behind the call as it read before'; 0 by the template 'total and deterministic' (their statements: YtidbihdnginmcaaTotals.lean).
  GIVEN WITH THE SEED: the statements are not yours to turn. If you find one false, say at which input.
  Laid BY PROGRAM, IN A SANDBOX (cutbox-rows.mjs): the forced cells as the released guide's own fill.sh prints them over the translation 5067c334688dbc4c… (all of the seat's roots in one cut). By AI agents, Wed Nov 11 2026. No macro, syntax, notation, axiom, sorry.
-/
import Derived.Test.YtidbihdnginmcaaChecked
import GoSem.Claim
import GoSem.ClaimJoined
import GoSem.ClaimMapViews
import Derived.JoinedTies
import Derived.KernelRfl
namespace Go.Proofs.Ytidbihdnginmcaa
/- THE CELL 'sum', in the pinned program and in every row, IS THE sha256 OF THE DUMP (.gsa) THAT YtidbihdnginmcaaProg.lean LOADS. Nothing in Lean hashes anything: it is a label: what it is worth is what the hold of that sum in a sandbox is worth. -/
noncomputable def Try.pinned : Pinned := { name := "ytidbihdnginmcaa", sum := "5067c334688dbc4ca8b439ff5c0f82749a7a118eafc87ea1adbe2669d0b3e355", checked := Try.checked }
namespace Rows
def none {H : Type} : Left H := { results := [], args := [] }

/-- 'colanderlaw14.OpenMoves': WHATEVER THE INPUT: true; the input reads as it did. -/
def openMovesSpec : ChangeSpec := { name := "openMoves", fn := fun _ => fun
  | [d1, d2, d3] => { results := [.lit (.bool true)], args := [d1, d2, d3] }
  | _ => none }
def openMovesRow : OpenClaim := { program := "ytidbihdnginmcaa", sum := "5067c334688dbc4ca8b439ff5c0f82749a7a118eafc87ea1adbe2669d0b3e355", func := "colander/colanderlaw14.OpenMoves", spec := "openMoves", recurses := true, apart := false }
def OpenMovesSaid : Prop := openMovesRow.holds Try.pinned (OpenSpec.ofChange openMovesSpec)

/-- ITS FALSE NEIGHBOUR: 'it returns false'. Refute it at one input. -/
def openMovesWrong : ChangeSpec := { name := "openMoves", fn := fun _ => fun
  | [d1, d2, d3] => { results := [.lit (.bool false)], args := [d1, d2, d3] }
  | _ => none }
def OpenMovesWrongFalsely : Prop := openMovesRow.holds Try.pinned (OpenSpec.ofChange openMovesWrong)

/-- 'colanderlaw14.OpenTrees': WHATEVER THE INPUT: true; the input reads as it did. -/
def openTreesSpec : ChangeSpec := { name := "openTrees", fn := fun _ => fun
  | [d1, d2] => { results := [.lit (.bool true)], args := [d1, d2] }
  | _ => none }
def openTreesRow : OpenClaim := { program := "ytidbihdnginmcaa", sum := "5067c334688dbc4ca8b439ff5c0f82749a7a118eafc87ea1adbe2669d0b3e355", func := "colander/colanderlaw14.OpenTrees", spec := "openTrees", recurses := true, apart := false }
def OpenTreesSaid : Prop := openTreesRow.holds Try.pinned (OpenSpec.ofChange openTreesSpec)

/-- ITS FALSE NEIGHBOUR: 'it returns false'. Refute it at one input. -/
def openTreesWrong : ChangeSpec := { name := "openTrees", fn := fun _ => fun
  | [d1, d2] => { results := [.lit (.bool false)], args := [d1, d2] }
  | _ => none }
def OpenTreesWrongFalsely : Prop := openTreesRow.holds Try.pinned (OpenSpec.ofChange openTreesWrong)

/-- 'colanderlaw14.OpenScopes': WHATEVER THE INPUT: true; the input reads as it did. -/
def openScopesSpec : ChangeSpec := { name := "openScopes", fn := fun _ => fun
  | [d1, d2] => { results := [.lit (.bool true)], args := [d1, d2] }
  | _ => none }
def openScopesRow : OpenClaim := { program := "ytidbihdnginmcaa", sum := "5067c334688dbc4ca8b439ff5c0f82749a7a118eafc87ea1adbe2669d0b3e355", func := "colander/colanderlaw14.OpenScopes", spec := "openScopes", unfollowed := true, recurses := true, apart := false }
def OpenScopesSaid : Prop := openScopesRow.holds Try.pinned (OpenSpec.ofChange openScopesSpec)

/-- ITS FALSE NEIGHBOUR: 'it returns false'. Refute it at one input. -/
def openScopesWrong : ChangeSpec := { name := "openScopes", fn := fun _ => fun
  | [d1, d2] => { results := [.lit (.bool false)], args := [d1, d2] }
  | _ => none }
def OpenScopesWrongFalsely : Prop := openScopesRow.holds Try.pinned (OpenSpec.ofChange openScopesWrong)

/-- 'colanderlaw14.OpenStacks': WHATEVER THE INPUT: true; the input reads as it did. -/
def openStacksSpec : ChangeSpec := { name := "openStacks", fn := fun _ => fun
  | [d1, d2] => { results := [.lit (.bool true)], args := [d1, d2] }
  | _ => none }
def openStacksRow : OpenClaim := { program := "ytidbihdnginmcaa", sum := "5067c334688dbc4ca8b439ff5c0f82749a7a118eafc87ea1adbe2669d0b3e355", func := "colander/colanderlaw14.OpenStacks", spec := "openStacks", inPlace := ["slices.overlaps[int]"], unfollowed := true, recurses := true, apart := false }
def OpenStacksSaid : Prop := openStacksRow.holds Try.pinned (OpenSpec.ofChange openStacksSpec)

/-- ITS FALSE NEIGHBOUR: 'it returns false'. Refute it at one input. -/
def openStacksWrong : ChangeSpec := { name := "openStacks", fn := fun _ => fun
  | [d1, d2] => { results := [.lit (.bool false)], args := [d1, d2] }
  | _ => none }
def OpenStacksWrongFalsely : Prop := openStacksRow.holds Try.pinned (OpenSpec.ofChange openStacksWrong)

/-- 'colanderlaw15.FormatFosters': WHATEVER THE INPUT: true; the input reads as it did. -/
def formatFostersSpec : ChangeSpec := { name := "formatFosters", fn := fun _ => fun
  | [d1, d2, d3, d4] => { results := [.lit (.bool true)], args := [d1, d2, d3, d4] }
  | _ => none }
def formatFostersRow : OpenClaim := { program := "ytidbihdnginmcaa", sum := "5067c334688dbc4ca8b439ff5c0f82749a7a118eafc87ea1adbe2669d0b3e355", func := "colander/colanderlaw15.FormatFosters", spec := "formatFosters", inPlace := ["slices.overlaps[int]"], unfollowed := true, recurses := true, apart := false }
def FormatFostersSaid : Prop := formatFostersRow.holds Try.pinned (OpenSpec.ofChange formatFostersSpec)

/-- ITS FALSE NEIGHBOUR: 'it returns false'. Refute it at one input. -/
def formatFostersWrong : ChangeSpec := { name := "formatFosters", fn := fun _ => fun
  | [d1, d2, d3, d4] => { results := [.lit (.bool false)], args := [d1, d2, d3, d4] }
  | _ => none }
def FormatFostersWrongFalsely : Prop := formatFostersRow.holds Try.pinned (OpenSpec.ofChange formatFostersWrong)

/-- 'colanderlaw15.FormatThree': WHATEVER THE INPUT: true; the input reads as it did. -/
def formatThreeSpec : ChangeSpec := { name := "formatThree", fn := fun _ => fun
  | [d1, d2] => { results := [.lit (.bool true)], args := [d1, d2] }
  | _ => none }
def formatThreeRow : OpenClaim := { program := "ytidbihdnginmcaa", sum := "5067c334688dbc4ca8b439ff5c0f82749a7a118eafc87ea1adbe2669d0b3e355", func := "colander/colanderlaw15.FormatThree", spec := "formatThree", inPlace := ["slices.overlaps[int]"], unfollowed := true, recurses := true, apart := false }
def FormatThreeSaid : Prop := formatThreeRow.holds Try.pinned (OpenSpec.ofChange formatThreeSpec)

/-- ITS FALSE NEIGHBOUR: 'it returns false'. Refute it at one input. -/
def formatThreeWrong : ChangeSpec := { name := "formatThree", fn := fun _ => fun
  | [d1, d2] => { results := [.lit (.bool false)], args := [d1, d2] }
  | _ => none }
def FormatThreeWrongFalsely : Prop := formatThreeRow.holds Try.pinned (OpenSpec.ofChange formatThreeWrong)

/- THE SECOND FORM. 'bulk': how many values and letters a reading holds, each counted each time it is reached (what is shared counts as often as it is met; a slice's spare places count too). A statement '..UptoSaid' is the law's where the arguments, and the package variables that the reading takes, are together of bulk at most 1048576: NARROWER than '..Said'. Prove '..Said' where nothing that the law and all that it calls make is longer than what came in: it says more and counts as full. Else prove '..UptoSaid'. A law counts once. -/
mutual
def uptoBulk {H : Type} : DataW H → Nat
  | .lit (.string bytes) => bytes.length + 1
  | .lit _ => 1
  | .nil => 1
  | .ptr d => uptoBulk d + 1
  | .slice elems spare => uptoBulkAll elems + uptoBulkAll spare + 1
  | .agg parts => uptoBulkAll parts + 1
  | .iface _ d => uptoBulk d + 1
  | .map entries => uptoBulkEntries entries + 1
  | .held _ => 1
def uptoBulkAll {H : Type} : List (DataW H) → Nat
  | [] => 0
  | d :: r => uptoBulk d + uptoBulkAll r
def uptoBulkEntries {H : Type} : List (Lit × DataW H) → Nat
  | [] => 0
  | x :: r => uptoBulkEntry x + uptoBulkEntries r
def uptoBulkEntry {H : Type} : Lit × DataW H → Nat
  | (.string bytes, d) => bytes.length + uptoBulk d + 1
  | (_, d) => uptoBulk d + 1
 end
def uptoSmall : (H : Type) → List (DataW H) → Bool := fun _ ds => decide (uptoBulkAll ds ≤ 1048576)
def OpenSpec.upto (s : _root_.Go.ChangeSpec) : _root_.Go.OpenSpec := { _root_.Go.OpenSpec.ofChange s with cond := some uptoSmall }

/-- 'colanderlaw14.OpenMoves', WHERE WHAT IT READS IS OF BULK AT MOST 1048576: true; the input reads as it did. -/
def openMovesUptoRow : OpenClaim := { program := "ytidbihdnginmcaa", sum := "5067c334688dbc4ca8b439ff5c0f82749a7a118eafc87ea1adbe2669d0b3e355", func := "colander/colanderlaw14.OpenMoves", spec := "openMoves", recurses := true, apart := false, narrowed := true }
def OpenMovesUptoSaid : Prop := openMovesUptoRow.holds Try.pinned (OpenSpec.upto openMovesSpec)

/-- 'colanderlaw14.OpenTrees', WHERE WHAT IT READS IS OF BULK AT MOST 1048576: true; the input reads as it did. -/
def openTreesUptoRow : OpenClaim := { program := "ytidbihdnginmcaa", sum := "5067c334688dbc4ca8b439ff5c0f82749a7a118eafc87ea1adbe2669d0b3e355", func := "colander/colanderlaw14.OpenTrees", spec := "openTrees", recurses := true, apart := false, narrowed := true }
def OpenTreesUptoSaid : Prop := openTreesUptoRow.holds Try.pinned (OpenSpec.upto openTreesSpec)

/-- 'colanderlaw14.OpenScopes', WHERE WHAT IT READS IS OF BULK AT MOST 1048576: true; the input reads as it did. -/
def openScopesUptoRow : OpenClaim := { program := "ytidbihdnginmcaa", sum := "5067c334688dbc4ca8b439ff5c0f82749a7a118eafc87ea1adbe2669d0b3e355", func := "colander/colanderlaw14.OpenScopes", spec := "openScopes", unfollowed := true, recurses := true, apart := false, narrowed := true }
def OpenScopesUptoSaid : Prop := openScopesUptoRow.holds Try.pinned (OpenSpec.upto openScopesSpec)

/-- 'colanderlaw14.OpenStacks', WHERE WHAT IT READS IS OF BULK AT MOST 1048576: true; the input reads as it did. -/
def openStacksUptoRow : OpenClaim := { program := "ytidbihdnginmcaa", sum := "5067c334688dbc4ca8b439ff5c0f82749a7a118eafc87ea1adbe2669d0b3e355", func := "colander/colanderlaw14.OpenStacks", spec := "openStacks", inPlace := ["slices.overlaps[int]"], unfollowed := true, recurses := true, apart := false, narrowed := true }
def OpenStacksUptoSaid : Prop := openStacksUptoRow.holds Try.pinned (OpenSpec.upto openStacksSpec)

/-- 'colanderlaw15.FormatFosters', WHERE WHAT IT READS IS OF BULK AT MOST 1048576: true; the input reads as it did. -/
def formatFostersUptoRow : OpenClaim := { program := "ytidbihdnginmcaa", sum := "5067c334688dbc4ca8b439ff5c0f82749a7a118eafc87ea1adbe2669d0b3e355", func := "colander/colanderlaw15.FormatFosters", spec := "formatFosters", inPlace := ["slices.overlaps[int]"], unfollowed := true, recurses := true, apart := false, narrowed := true }
def FormatFostersUptoSaid : Prop := formatFostersUptoRow.holds Try.pinned (OpenSpec.upto formatFostersSpec)

/-- 'colanderlaw15.FormatThree', WHERE WHAT IT READS IS OF BULK AT MOST 1048576: true; the input reads as it did. -/
def formatThreeUptoRow : OpenClaim := { program := "ytidbihdnginmcaa", sum := "5067c334688dbc4ca8b439ff5c0f82749a7a118eafc87ea1adbe2669d0b3e355", func := "colander/colanderlaw15.FormatThree", spec := "formatThree", inPlace := ["slices.overlaps[int]"], unfollowed := true, recurses := true, apart := false, narrowed := true }
def FormatThreeUptoSaid : Prop := formatThreeUptoRow.holds Try.pinned (OpenSpec.upto formatThreeSpec)

end Rows
end Go.Proofs.Ytidbihdnginmcaa
