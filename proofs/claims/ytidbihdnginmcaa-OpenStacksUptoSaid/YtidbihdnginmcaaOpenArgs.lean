/-
  Arguments of the laws of layer 14, laid open; the program is laid out. No conditions beyond those typed.
-/
import Derived.Test.YtidbihdnginmcaaRows
import Derived.Test.YtidbihdnginmcaaLaw
namespace Go.Proofs.Ytidbihdnginmcaa
open Go.RowKit Mem
theorem laid_out : laidOutB Try.prog = true := by kernel_rfl
end Go.Proofs.Ytidbihdnginmcaa
