/-
  Contracts: leaf.odd, leaf.Char, colanderref09.Char: a byte's character.
-/
import Derived.Test.YtbabcohidpcjjaaRefsF
import Derived.Test.YtbabcohidpcjjaaRefsD
import Derived.Deep.WholeRow
namespace Go.Proofs.Ytbabcohidpcjjaa
open Go.RowKit Mem

def odd32 : Array Value := #[.int .i32 8364, .int .i32 129, .int .i32 8218, .int .i32 402, .int .i32 8222, .int .i32 8230, .int .i32 8224, .int .i32 8225, .int .i32 710, .int .i32 8240, .int .i32 352, .int .i32 8249, .int .i32 338, .int .i32 141, .int .i32 381, .int .i32 143, .int .i32 144, .int .i32 8216, .int .i32 8217, .int .i32 8220, .int .i32 8221, .int .i32 8226, .int .i32 8211, .int .i32 8212, .int .i32 732, .int .i32 8482, .int .i32 353, .int .i32 8250, .int .i32 339, .int .i32 157, .int .i32 382, .int .i32 376]
def odd64 : Array Value := #[.int .i64 8364, .int .i64 129, .int .i64 8218, .int .i64 402, .int .i64 8222, .int .i64 8230, .int .i64 8224, .int .i64 8225, .int .i64 710, .int .i64 8240, .int .i64 352, .int .i64 8249, .int .i64 338, .int .i64 141, .int .i64 381, .int .i64 143, .int .i64 144, .int .i64 8216, .int .i64 8217, .int .i64 8220, .int .i64 8221, .int .i64 8226, .int .i64 8211, .int .i64 8212, .int .i64 732, .int .i64 8482, .int .i64 353, .int .i64 8250, .int .i64 339, .int .i64 157, .int .i64 382, .int .i64 376]
theorem odd64_get (j : Nat) (h : j < 32) : odd64.toList[j]? = some (.int .i64 (oddT.getD j 0)) := by
  have h1 : odd64.toList = oddT.map fun n => Value.int .i64 (n : Nat) := by kernel_rfl
  have h2 : j < oddT.length := h
  rw [h1]
  simp [h2]
theorem wpList_val_at {P : Program} {ops : Array Oper} {rest : List Oper} {o : Oper} {a : Act} {w : World} {Q : Exit → Act → World → Prop} (d : Nat) (v : Value) (hd : o.dst = some d) (hgd : o.guard = none) (h : (execOp a.eval o).run P w = .ok (.value v) w)
    (hk : wpList P ops Q rest (a.put (some d) v) w) : wpList P ops Q (o :: rest) a w := wpList_val (v := v) hgd h (by rw [hd]; exact hk)
theorem wpList_new_at {P : Program} {ops : Array Oper} {rest : List Oper} {o : Oper} {a : Act} {w : World} {Q : Exit → Act → World → Prop} (d : Nat) (v : Value) (c : Obj) (hd : o.dst = some d) (hgd : o.guard = none) (h : (execOp a.eval o).run P w = .ok (.value v) (w.alloc c))
    (hk : wpList P ops Q rest (a.put (some d) v) (w.alloc c)) : wpList P ops Q (o :: rest) a w := wpList_new (v := v) (c := c) hgd h (by rw [hd]; exact hk)
/-- a byte's character -/
def char9 (n : Nat) : Nat := if 128 ≤ n ∧ n < 160 then oddT.getD (n - 128) 0 else n
theorem odd_index : ∀ j : Nat, j < 32 → ∀ w, (Instr.index 126 (.agg odd32) (.int .u8 (j : Nat))).run Try.prog w = .ok (.int .i32 (oddT.getD j 0 : Nat)) w
  | 0, _ => fun _ => by kernel_rfl
  | 1, _ => fun _ => by kernel_rfl
  | 2, _ => fun _ => by kernel_rfl
  | 3, _ => fun _ => by kernel_rfl
  | 4, _ => fun _ => by kernel_rfl
  | 5, _ => fun _ => by kernel_rfl
  | 6, _ => fun _ => by kernel_rfl
  | 7, _ => fun _ => by kernel_rfl
  | 8, _ => fun _ => by kernel_rfl
  | 9, _ => fun _ => by kernel_rfl
  | 10, _ => fun _ => by kernel_rfl
  | 11, _ => fun _ => by kernel_rfl
  | 12, _ => fun _ => by kernel_rfl
  | 13, _ => fun _ => by kernel_rfl
  | 14, _ => fun _ => by kernel_rfl
  | 15, _ => fun _ => by kernel_rfl
  | 16, _ => fun _ => by kernel_rfl
  | 17, _ => fun _ => by kernel_rfl
  | 18, _ => fun _ => by kernel_rfl
  | 19, _ => fun _ => by kernel_rfl
  | 20, _ => fun _ => by kernel_rfl
  | 21, _ => fun _ => by kernel_rfl
  | 22, _ => fun _ => by kernel_rfl
  | 23, _ => fun _ => by kernel_rfl
  | 24, _ => fun _ => by kernel_rfl
  | 25, _ => fun _ => by kernel_rfl
  | 26, _ => fun _ => by kernel_rfl
  | 27, _ => fun _ => by kernel_rfl
  | 28, _ => fun _ => by kernel_rfl
  | 29, _ => fun _ => by kernel_rfl
  | 30, _ => fun _ => by kernel_rfl
  | 31, _ => fun _ => by kernel_rfl
  | n + 32, h => absurd h (by omega)
theorem odd_info : (Try.prog.info? 126).map (·.size) = some odd32.size := by kernel_rfl
set_option maxRecDepth 100000 in
theorem odd_any (w : World) : Calls Try.prog 91 #[] w fun e w' => e = .returned (.agg odd32) ∧ Below w.heap.size w w' := by
  go_enter Try.func91, Try.ntmps91
  go_wp2_with ((with_reducible refine wpList_val_at 1 (.agg odd32) rfl rfl (by kernel_rfl) ?_); go_must (refine wpList_store_row rfl 126 _ _ rfl w.heap.size odd32 (by rfl) (by rfl) 126 _ (heap_alloc_last w _) odd_info rfl (by kernel_rfl) ?_); rw [World.setRow_alloc_new]; simp only [Act.put, List.setIfInBounds_toArray, List.set_cons_zero, List.set_cons_succ])
  exact bodyPost_ret (v := .agg odd32) (results_cell_row rfl _ _ w.heap.size 126 odd32 (0, 0) _ rfl (heap_alloc_last w _) Try.underlying126 rfl odd_info) rfl ⟨rfl, (Below.refl _ _).alloc (Nat.le_refl _) _⟩

set_option maxRecDepth 100000 in
theorem LChar_any (n : Nat) (hn : n < 256) (w : World) : Calls Try.prog 81 #[.int .u8 n] w fun e w' => e = .returned (.int .i32 (char9 n)) ∧ Below w.heap.size w w' := by
  by_cases h1 : 128 ≤ n
  · by_cases h2 : n < 160
    · have h1' : (n : Int) ≥ 128 := by omega
      have h2' : (n : Int) < 160 := by omega
      obtain ⟨j, rfl⟩ : ∃ j, n = 128 + j := ⟨n - 128, by omega⟩
      have hj : j < 32 := by omega
      have hsub : IntKind.u8.wrap (((128 + j : Nat) : Int) - 128) = (j : Int) := by rw [IntWalk.u8_in _ (by omega)]; omega
      have hix : ∀ w, (Instr.index 126 (.agg odd32) (.int .u8 (128 + (j : Int) - 128))).run Try.prog w = .ok (.int .i32 (oddT.getD j 0 : Nat)) w := by
        rw [show (128 + (j : Int) - 128) = j from by omega]
        exact odd_index j hj
      go_enter Try.func81, Try.ntmps81
      go_wp2_with (go_at_call 91; go_must (refine (odd_any _).mono ?_; rintro e w1 ⟨rfl, hb⟩; have HB := Lib.hid hb; clear hb; generalize odd32 = oc at *))
      go_ret
      exact ⟨ret_int (by rw [char9, if_pos (by omega), Nat.add_sub_cancel_left]; rfl), HB.out⟩
    · have h1' : (n : Int) ≥ 128 := by omega
      have h2' : ¬ (n : Int) < 160 := by omega
      go_enter Try.func81, Try.ntmps81
      go_wp2_with fail
      go_ret
      exact ⟨ret_int (by rw [char9, if_neg (by omega)]), Below.refl _ _⟩
  · have h1' : ¬ (n : Int) ≥ 128 := by omega
    go_enter Try.func81, Try.ntmps81
    go_wp2_with fail
    go_ret
    exact ⟨ret_int (by rw [char9, if_neg (by omega)]), Below.refl _ _⟩
end Go.Proofs.Ytbabcohidpcjjaa
