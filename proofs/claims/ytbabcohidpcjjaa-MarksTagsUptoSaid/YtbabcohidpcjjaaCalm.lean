/-
  A region that draws its order, whose operations read, and whose callees touch no block that stood at the region's beginning (they may lay new ones): walked once, in the order of the text. By the kit's wp_region_quiet, at the class 'Below'. No conditions beyond those typed.
-/
import Derived.Test.YtbabcohidpcjjaaMem
import Derived.Deep.QuietTactic
import Derived.KernelRfl
namespace Go.Proofs.Ytbabcohidpcjjaa
open Go Go.RowKit Mem

theorem wp_region_calm {P : Program} {id : Nat} {Q : Exit → Act → World → Prop} {a : Act} {w : World} {l : List Oper} (hm : P.follows .mixedOrders = true) (hB : Region.lexB .any l.toArray = true)
    (h : wpQuiet P l.toArray (fun w' => Hid (Below w.heap.size w w')) (fun a' => ∀ w', Hid (Below w.heap.size w w') → Q .normal a' w') l a) : (Code.region id l.toArray true).wp P Q a w :=
  wp_region_quiet (C := fun w' => Hid (Below w.heap.size w w')) hm hB (Lib.hid (Below.refl _ w).drew) (by simpa using h)

theorem calm_skip {P : Program} {ops : Array Oper} {o : Oper} {a : Act} {C : World → Prop} {K : Act → Prop} (hw : Region.wanted o (yielded ops a.tmps) = false) (h : K (a.put o.dst undef)) :
    if Region.wanted o (yielded ops a.tmps) then o.quiet P a C K else K (a.put o.dst undef) := by
  rw [if_neg (by rw [hw]; decide)]; exact h

theorem calm_run {P : Program} {ops : Array Oper} {o : Oper} {a : Act} {C : World → Prop} {K : Act → Prop} {v : Value} (hw : Region.wanted o (yielded ops a.tmps) = true) (h : ∀ w, C w → o.quietAt P a C w v) (hk : K (a.put o.dst v)) :
    if Region.wanted o (yielded ops a.tmps) then o.quiet P a C K else K (a.put o.dst undef) := by
  rw [if_pos hw]; exact ⟨v, h, hk⟩

end Go.Proofs.Ytbabcohidpcjjaa
