/-
  The library's contracts on slices of ints (slices.Delete, Insert), laid by the kit's shelf: each one application. The table of numbers and the fields are printed by a program (wip/shelf2.py).
-/
import Derived.Shelf.Slices.Cells
import Derived.Shelf.Spec.SlicesInsert
import Derived.Shelf.Spec.SlicesInsertGrow
import Derived.Test.YtclflmjpdglgiaaGreatRows
namespace Go.Proofs.YtclflmjpdglgiaaGreat
open Go Go.Proofs Go.Shelf Go.RowKit Go.Lib

def shelfRen2 : Go.Shelf.Ren := ⟨fun | 21 => 116 | 23 => 83 | 27 => 120 | 28 => 121 | 35 => 122 | 39 => 123 | n => n, fun | 0 => 0 | 3 => 3 | 4 => 4 | 22 => 30 | n => n, fun n => n⟩
theorem lays2_23 : Lays2.n23 Tryz.prog shelfRen2 := {
  mixed := by kernel_rfl
  f23 := Tryz.func83.trans (congrArg some (by kernel_rfl))
  t0 := Tryz.underlying0
  a0 := Tryz.isAgg0
  z0 := Tryz.sizeOf0
  v0 := Tryz.zeroValue0
  t3 := Tryz.underlying3
  a3 := Tryz.isAgg3
  z3 := Tryz.sizeOf3
  v3 := Tryz.zeroValue3
  t4 := Tryz.underlying4
  a4 := Tryz.isAgg4
  z4 := Tryz.sizeOf4
  v4 := Tryz.zeroValue4
  t22 := Tryz.underlying30
  a22 := Tryz.isAgg30
  z22 := Tryz.sizeOf30
  v22 := Tryz.zeroValue30
  i3 := by kernel_rfl }
theorem lays2_23i : Lays2.n21 Tryz.prog shelfRen2 := {
  mixed := by kernel_rfl
  f21 := Tryz.func116.trans (congrArg some (by kernel_rfl))
  f27 := Tryz.func120.trans (congrArg some (by kernel_rfl))
  f28 := Tryz.func121.trans (congrArg some (by kernel_rfl))
  f35 := Tryz.func122.trans (congrArg some (by kernel_rfl))
  f39 := Tryz.func123.trans (congrArg some (by kernel_rfl))
  t0 := Tryz.underlying0
  a0 := Tryz.isAgg0
  z0 := Tryz.sizeOf0
  v0 := Tryz.zeroValue0
  t3 := Tryz.underlying3
  a3 := Tryz.isAgg3
  z3 := Tryz.sizeOf3
  v3 := Tryz.zeroValue3
  t4 := Tryz.underlying4
  a4 := Tryz.isAgg4
  z4 := Tryz.sizeOf4
  v4 := Tryz.zeroValue4
  t22 := Tryz.underlying30
  a22 := Tryz.isAgg30
  z22 := Tryz.sizeOf30
  v22 := Tryz.zeroValue30
  i3 := by kernel_rfl }
end Go.Proofs.YtclflmjpdglgiaaGreat
