/-
  Arguments of the laws of layer 14, laid open; the program is laid out. No conditions beyond those typed.
-/
import Derived.Test.YtflphgmblipglaaRows
import Derived.Test.YtflphgmblipglaaLaw
namespace Go.Proofs.Ytflphgmblipglaa
open Go.RowKit Mem
theorem laid_out : laidOutB Try.prog = true := by kernel_rfl
end Go.Proofs.Ytflphgmblipglaa
