/-
  The library's contracts on slices of ints (slices.Delete, Insert), laid by the kit's shelf: each one application. The table of numbers and the fields are printed by a program (wip/shelf2.py).
-/
import Derived.Shelf.Slices.Cells
import Derived.Shelf.Spec.SlicesInsert
import Derived.Shelf.Spec.SlicesInsertGrow
import Derived.Test.YtidbihdnginmcaaRows
namespace Go.Proofs.Ytidbihdnginmcaa
open Go Go.Proofs Go.Shelf Go.RowKit Go.Lib

def shelfRen2 : Go.Shelf.Ren := ⟨fun | 21 => 100 | 23 => 99 | 27 => 112 | 28 => 113 | 35 => 120 | 39 => 121 | n => n, fun | 0 => 0 | 3 => 3 | 4 => 4 | 22 => 32 | n => n, fun n => n⟩
theorem lays2_23 : Lays2.n23 Try.prog shelfRen2 := {
  mixed := by kernel_rfl
  f23 := Try.func99.trans (congrArg some (by kernel_rfl))
  t0 := Try.underlying0
  a0 := Try.isAgg0
  z0 := Try.sizeOf0
  v0 := Try.zeroValue0
  t3 := Try.underlying3
  a3 := Try.isAgg3
  z3 := Try.sizeOf3
  v3 := Try.zeroValue3
  t4 := Try.underlying4
  a4 := Try.isAgg4
  z4 := Try.sizeOf4
  v4 := Try.zeroValue4
  t22 := Try.underlying32
  a22 := Try.isAgg32
  z22 := Try.sizeOf32
  v22 := Try.zeroValue32
  i3 := by kernel_rfl }
theorem lays2_23i : Lays2.n21 Try.prog shelfRen2 := {
  mixed := by kernel_rfl
  f21 := Try.func100.trans (congrArg some (by kernel_rfl))
  f27 := Try.func112.trans (congrArg some (by kernel_rfl))
  f28 := Try.func113.trans (congrArg some (by kernel_rfl))
  f35 := Try.func120.trans (congrArg some (by kernel_rfl))
  f39 := Try.func121.trans (congrArg some (by kernel_rfl))
  t0 := Try.underlying0
  a0 := Try.isAgg0
  z0 := Try.sizeOf0
  v0 := Try.zeroValue0
  t3 := Try.underlying3
  a3 := Try.isAgg3
  z3 := Try.sizeOf3
  v3 := Try.zeroValue3
  t4 := Try.underlying4
  a4 := Try.isAgg4
  z4 := Try.sizeOf4
  v4 := Try.zeroValue4
  t22 := Try.underlying32
  a22 := Try.isAgg32
  z22 := Try.sizeOf32
  v22 := Try.zeroValue32
  i3 := by kernel_rfl }
end Go.Proofs.Ytidbihdnginmcaa
