/-
  Arguments of the laws of layer 14, laid open; the program is laid out. No conditions beyond those typed.
-/
import Derived.Test.YtclflmjpdglgiaaGreatRows
import Derived.Test.YtclflmjpdglgiaaGreatLaw
namespace Go.Proofs.YtclflmjpdglgiaaGreat
open Go.RowKit Mem
theorem laid_out : laidOutB Tryz.prog = true := by kernel_rfl
end Go.Proofs.YtclflmjpdglgiaaGreat
