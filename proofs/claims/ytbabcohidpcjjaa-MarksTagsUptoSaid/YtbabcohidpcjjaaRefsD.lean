/-
  Contract: colanderref12.Names: the names in new memory.
-/
import Derived.Test.YtbabcohidpcjjaaRefsC
namespace Go.Proofs.Ytbabcohidpcjjaa
open Go.RowKit Mem

theorem wpList_val {P : Program} {ops : Array Oper} {rest : List Oper} {o : Oper} {a : Act} {w : World} {Q : Exit → Act → World → Prop} {v : Value} (hgd : o.guard = none) (h : (execOp a.eval o).run P w = .ok (.value v) w)
    (hk : wpList P ops Q rest (a.put o.dst v) w) : wpList P ops Q (o :: rest) a w :=
  wpList_plain hgd fun K hK => by unfold Oper.wp; rw [h]; exact hK _ _ hk
theorem wpList_new {P : Program} {ops : Array Oper} {rest : List Oper} {o : Oper} {a : Act} {w : World} {Q : Exit → Act → World → Prop} {v : Value} {c : Obj} (hgd : o.guard = none) (h : (execOp a.eval o).run P w = .ok (.value v) (w.alloc c))
    (hk : wpList P ops Q rest (a.put o.dst v) (w.alloc c)) : wpList P ops Q (o :: rest) a w :=
  wpList_plain hgd fun K hK => by unfold Oper.wp; rw [h]; exact hK _ _ hk
/-- the document's names as cells -/
def rowsV : List (Str × Nat × Nat × Bool) → List Value
  | [] => []
  | x :: r => .string (strB x.1) :: .int .i64 x.2.1 :: .int .i64 x.2.2.1 :: .bool x.2.2.2 :: rowsV r
end Go.Proofs.Ytbabcohidpcjjaa
