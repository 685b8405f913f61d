/-
  Contract: colanderref12.Names: the names in new memory.
-/
import Derived.Test.YtcgkenmgglediaaDoorRefsC
namespace Go.Proofs.YtcgkenmgglediaaDoor
open Go.RowKit Mem

theorem wpList_val {P : Program} {ops : Array Oper} {rest : List Oper} {o : Oper} {a : Act} {w : World} {Q : Exit → Act → World → Prop} {v : Value} (hgd : o.guard = none) (h : (execOp a.eval o).run P w = .ok (.value v) w)
    (hk : wpList P ops Q rest (a.put o.dst v) w) : wpList P ops Q (o :: rest) a w :=
  wpList_plain hgd fun K hK => by unfold Oper.wp; rw [h]; exact hK _ _ hk
theorem wpList_new {P : Program} {ops : Array Oper} {rest : List Oper} {o : Oper} {a : Act} {w : World} {Q : Exit → Act → World → Prop} {v : Value} {c : Obj} (hgd : o.guard = none) (h : (execOp a.eval o).run P w = .ok (.value v) (w.alloc c))
    (hk : wpList P ops Q rest (a.put o.dst v) (w.alloc c)) : wpList P ops Q (o :: rest) a w :=
  wpList_plain hgd fun K hK => by unfold Oper.wp; rw [h]; exact hK _ _ hk
/-- the document's names as cells -/
def rowsV : List (Str × Nat × Nat × Bool) → List Value
  | [] => []
  | x :: r => .string (strB x.1) :: .int .i64 x.2.1 :: .int .i64 x.2.2.1 :: .bool x.2.2.2 :: rowsV r
set_option maxRecDepth 100000 in
set_option maxHeartbeats 4000000 in
theorem Names_any (w : World) : Calls Tryd.prog 32 #[] w fun e w' =>
    e = .returned (.slice (some ⟨w.heap.size, 0, none⟩) 44 44) ∧ At w' (some ⟨w.heap.size, 0, none⟩) (rowsV namesT) ∧ Below w.heap.size w w' ∧ w'.heap.size = w.heap.size + 1 := by
  go_enter Tryd.func32, Tryd.ntmps32
  go_step
  go_step
  go_step
  go_step
  go_step
  go_step
  go_step
  go_step
  go_step
  go_step
  refine wp_region_lit ?_
  with_reducible refine wpList_val (v := .agg #[.string ⟨#[97, 109, 112]⟩, .int .i64 38, .int .i64 0, .bool true]) rfl (by kernel_rfl) ?_
  with_reducible refine wpList_val (v := .agg #[.string ⟨#[65, 77, 80]⟩, .int .i64 38, .int .i64 0, .bool true]) rfl (by kernel_rfl) ?_
  with_reducible refine wpList_val (v := .agg #[.string ⟨#[108, 116]⟩, .int .i64 60, .int .i64 0, .bool true]) rfl (by kernel_rfl) ?_
  with_reducible refine wpList_val (v := .agg #[.string ⟨#[76, 84]⟩, .int .i64 60, .int .i64 0, .bool true]) rfl (by kernel_rfl) ?_
  with_reducible refine wpList_val (v := .agg #[.string ⟨#[103, 116]⟩, .int .i64 62, .int .i64 0, .bool true]) rfl (by kernel_rfl) ?_
  with_reducible refine wpList_val (v := .agg #[.string ⟨#[113, 117, 111, 116]⟩, .int .i64 34, .int .i64 0, .bool true]) rfl (by kernel_rfl) ?_
  with_reducible refine wpList_val (v := .agg #[.string ⟨#[110, 98, 115, 112]⟩, .int .i64 160, .int .i64 0, .bool true]) rfl (by kernel_rfl) ?_
  with_reducible refine wpList_val (v := .agg #[.string ⟨#[99, 111, 112, 121]⟩, .int .i64 169, .int .i64 0, .bool true]) rfl (by kernel_rfl) ?_
  with_reducible refine wpList_val (v := .agg #[.string ⟨#[114, 101, 103]⟩, .int .i64 174, .int .i64 0, .bool true]) rfl (by kernel_rfl) ?_
  with_reducible refine wpList_val (v := .agg #[.string ⟨#[110, 111, 116]⟩, .int .i64 172, .int .i64 0, .bool true]) rfl (by kernel_rfl) ?_
  with_reducible refine wpList_val (v := .agg #[.string ⟨#[112, 97, 114, 97]⟩, .int .i64 182, .int .i64 0, .bool true]) rfl (by kernel_rfl) ?_
  with_reducible refine wpList_val (v := .agg #[.string ⟨#[116, 105, 109, 101, 115]⟩, .int .i64 215, .int .i64 0, .bool true]) rfl (by kernel_rfl) ?_
  with_reducible refine wpList_val (v := .agg #[.string ⟨#[100, 105, 118, 105, 100, 101]⟩, .int .i64 247, .int .i64 0, .bool true]) rfl (by kernel_rfl) ?_
  with_reducible refine wpList_val (v := .agg #[.string ⟨#[101, 97, 99, 117, 116, 101]⟩, .int .i64 233, .int .i64 0, .bool true]) rfl (by kernel_rfl) ?_
  with_reducible refine wpList_val (v := .agg #[.string ⟨#[69, 84, 72]⟩, .int .i64 208, .int .i64 0, .bool true]) rfl (by kernel_rfl) ?_
  with_reducible refine wpList_val (v := .agg #[.string ⟨#[115, 122, 108, 105, 103]⟩, .int .i64 223, .int .i64 0, .bool true]) rfl (by kernel_rfl) ?_
  with_reducible refine wpList_val (v := .agg #[.string ⟨#[97, 112, 111, 115]⟩, .int .i64 39, .int .i64 0, .bool false]) rfl (by kernel_rfl) ?_
  with_reducible refine wpList_val (v := .agg #[.string ⟨#[110, 111, 116, 105, 110]⟩, .int .i64 8713, .int .i64 0, .bool false]) rfl (by kernel_rfl) ?_
  with_reducible refine wpList_val (v := .agg #[.string ⟨#[99, 111, 112, 121, 115, 114]⟩, .int .i64 8471, .int .i64 0, .bool false]) rfl (by kernel_rfl) ?_
  with_reducible refine wpList_val (v := .agg #[.string ⟨#[112, 97, 114, 97, 108, 108, 101, 108]⟩, .int .i64 8741, .int .i64 0, .bool false]) rfl (by kernel_rfl) ?_
  with_reducible refine wpList_val (v := .agg #[.string ⟨#[116, 105, 109, 101, 115, 98]⟩, .int .i64 8864, .int .i64 0, .bool false]) rfl (by kernel_rfl) ?_
  with_reducible refine wpList_val (v := .agg #[.string ⟨#[108, 116, 105, 109, 101, 115]⟩, .int .i64 8905, .int .i64 0, .bool false]) rfl (by kernel_rfl) ?_
  with_reducible refine wpList_val (v := .agg #[.string ⟨#[103, 116, 100, 111, 116]⟩, .int .i64 8919, .int .i64 0, .bool false]) rfl (by kernel_rfl) ?_
  with_reducible refine wpList_val (v := .agg #[.string ⟨#[104, 101, 108, 108, 105, 112]⟩, .int .i64 8230, .int .i64 0, .bool false]) rfl (by kernel_rfl) ?_
  with_reducible refine wpList_val (v := .agg #[.string ⟨#[110, 100, 97, 115, 104]⟩, .int .i64 8211, .int .i64 0, .bool false]) rfl (by kernel_rfl) ?_
  with_reducible refine wpList_val (v := .agg #[.string ⟨#[109, 100, 97, 115, 104]⟩, .int .i64 8212, .int .i64 0, .bool false]) rfl (by kernel_rfl) ?_
  with_reducible refine wpList_val (v := .agg #[.string ⟨#[108, 115, 113, 117, 111]⟩, .int .i64 8216, .int .i64 0, .bool false]) rfl (by kernel_rfl) ?_
  with_reducible refine wpList_val (v := .agg #[.string ⟨#[114, 115, 113, 117, 111]⟩, .int .i64 8217, .int .i64 0, .bool false]) rfl (by kernel_rfl) ?_
  with_reducible refine wpList_val (v := .agg #[.string ⟨#[108, 100, 113, 117, 111]⟩, .int .i64 8220, .int .i64 0, .bool false]) rfl (by kernel_rfl) ?_
  with_reducible refine wpList_val (v := .agg #[.string ⟨#[114, 100, 113, 117, 111]⟩, .int .i64 8221, .int .i64 0, .bool false]) rfl (by kernel_rfl) ?_
  with_reducible refine wpList_val (v := .agg #[.string ⟨#[101, 117, 114, 111]⟩, .int .i64 8364, .int .i64 0, .bool false]) rfl (by kernel_rfl) ?_
  with_reducible refine wpList_val (v := .agg #[.string ⟨#[116, 114, 97, 100, 101]⟩, .int .i64 8482, .int .i64 0, .bool false]) rfl (by kernel_rfl) ?_
  with_reducible refine wpList_val (v := .agg #[.string ⟨#[108, 97, 114, 114]⟩, .int .i64 8592, .int .i64 0, .bool false]) rfl (by kernel_rfl) ?_
  with_reducible refine wpList_val (v := .agg #[.string ⟨#[114, 97, 114, 114]⟩, .int .i64 8594, .int .i64 0, .bool false]) rfl (by kernel_rfl) ?_
  with_reducible refine wpList_val (v := .agg #[.string ⟨#[84, 97, 98]⟩, .int .i64 9, .int .i64 0, .bool false]) rfl (by kernel_rfl) ?_
  with_reducible refine wpList_val (v := .agg #[.string ⟨#[78, 101, 119, 76, 105, 110, 101]⟩, .int .i64 10, .int .i64 0, .bool false]) rfl (by kernel_rfl) ?_
  with_reducible refine wpList_val (v := .agg #[.string ⟨#[99, 111, 108, 111, 110]⟩, .int .i64 58, .int .i64 0, .bool false]) rfl (by kernel_rfl) ?_
  with_reducible refine wpList_val (v := .agg #[.string ⟨#[115, 111, 108]⟩, .int .i64 47, .int .i64 0, .bool false]) rfl (by kernel_rfl) ?_
  with_reducible refine wpList_val (v := .agg #[.string ⟨#[113, 117, 101, 115, 116]⟩, .int .i64 63, .int .i64 0, .bool false]) rfl (by kernel_rfl) ?_
  with_reducible refine wpList_val (v := .agg #[.string ⟨#[108, 112, 97, 114]⟩, .int .i64 40, .int .i64 0, .bool false]) rfl (by kernel_rfl) ?_
  with_reducible refine wpList_val (v := .agg #[.string ⟨#[122, 119, 106]⟩, .int .i64 8205, .int .i64 0, .bool false]) rfl (by kernel_rfl) ?_
  with_reducible refine wpList_val (v := .agg #[.string ⟨#[78, 111, 116, 69, 113, 117, 97, 108, 84, 105, 108, 100, 101]⟩, .int .i64 8770, .int .i64 824, .bool false]) rfl (by kernel_rfl) ?_
  with_reducible refine wpList_val (v := .agg #[.string ⟨#[84, 104, 105, 99, 107, 83, 112, 97, 99, 101]⟩, .int .i64 8287, .int .i64 8202, .bool false]) rfl (by kernel_rfl) ?_
  with_reducible refine wpList_val (v := .agg #[.string ⟨#[110, 118, 108, 116]⟩, .int .i64 60, .int .i64 8402, .bool false]) rfl (by kernel_rfl) ?_
  with_reducible refine wpList_new (v := .slice (some ⟨w.heap.size, 0, none⟩) 44 44) (c := .cells #[.string ⟨#[97, 109, 112]⟩, .int .i64 38, .int .i64 0, .bool true, .string ⟨#[65, 77, 80]⟩, .int .i64 38, .int .i64 0, .bool true, .string ⟨#[108, 116]⟩, .int .i64 60, .int .i64 0, .bool true, .string ⟨#[76, 84]⟩, .int .i64 60, .int .i64 0, .bool true, .string ⟨#[103, 116]⟩, .int .i64 62, .int .i64 0, .bool true, .string ⟨#[113, 117, 111, 116]⟩, .int .i64 34, .int .i64 0, .bool true, .string ⟨#[110, 98, 115, 112]⟩, .int .i64 160, .int .i64 0, .bool true, .string ⟨#[99, 111, 112, 121]⟩, .int .i64 169, .int .i64 0, .bool true, .string ⟨#[114, 101, 103]⟩, .int .i64 174, .int .i64 0, .bool true, .string ⟨#[110, 111, 116]⟩, .int .i64 172, .int .i64 0, .bool true, .string ⟨#[112, 97, 114, 97]⟩, .int .i64 182, .int .i64 0, .bool true, .string ⟨#[116, 105, 109, 101, 115]⟩, .int .i64 215, .int .i64 0, .bool true, .string ⟨#[100, 105, 118, 105, 100, 101]⟩, .int .i64 247, .int .i64 0, .bool true, .string ⟨#[101, 97, 99, 117, 116, 101]⟩, .int .i64 233, .int .i64 0, .bool true, .string ⟨#[69, 84, 72]⟩, .int .i64 208, .int .i64 0, .bool true, .string ⟨#[115, 122, 108, 105, 103]⟩, .int .i64 223, .int .i64 0, .bool true, .string ⟨#[97, 112, 111, 115]⟩, .int .i64 39, .int .i64 0, .bool false, .string ⟨#[110, 111, 116, 105, 110]⟩, .int .i64 8713, .int .i64 0, .bool false, .string ⟨#[99, 111, 112, 121, 115, 114]⟩, .int .i64 8471, .int .i64 0, .bool false, .string ⟨#[112, 97, 114, 97, 108, 108, 101, 108]⟩, .int .i64 8741, .int .i64 0, .bool false, .string ⟨#[116, 105, 109, 101, 115, 98]⟩, .int .i64 8864, .int .i64 0, .bool false, .string ⟨#[108, 116, 105, 109, 101, 115]⟩, .int .i64 8905, .int .i64 0, .bool false, .string ⟨#[103, 116, 100, 111, 116]⟩, .int .i64 8919, .int .i64 0, .bool false, .string ⟨#[104, 101, 108, 108, 105, 112]⟩, .int .i64 8230, .int .i64 0, .bool false, .string ⟨#[110, 100, 97, 115, 104]⟩, .int .i64 8211, .int .i64 0, .bool false, .string ⟨#[109, 100, 97, 115, 104]⟩, .int .i64 8212, .int .i64 0, .bool false, .string ⟨#[108, 115, 113, 117, 111]⟩, .int .i64 8216, .int .i64 0, .bool false, .string ⟨#[114, 115, 113, 117, 111]⟩, .int .i64 8217, .int .i64 0, .bool false, .string ⟨#[108, 100, 113, 117, 111]⟩, .int .i64 8220, .int .i64 0, .bool false, .string ⟨#[114, 100, 113, 117, 111]⟩, .int .i64 8221, .int .i64 0, .bool false, .string ⟨#[101, 117, 114, 111]⟩, .int .i64 8364, .int .i64 0, .bool false, .string ⟨#[116, 114, 97, 100, 101]⟩, .int .i64 8482, .int .i64 0, .bool false, .string ⟨#[108, 97, 114, 114]⟩, .int .i64 8592, .int .i64 0, .bool false, .string ⟨#[114, 97, 114, 114]⟩, .int .i64 8594, .int .i64 0, .bool false, .string ⟨#[84, 97, 98]⟩, .int .i64 9, .int .i64 0, .bool false, .string ⟨#[78, 101, 119, 76, 105, 110, 101]⟩, .int .i64 10, .int .i64 0, .bool false, .string ⟨#[99, 111, 108, 111, 110]⟩, .int .i64 58, .int .i64 0, .bool false, .string ⟨#[115, 111, 108]⟩, .int .i64 47, .int .i64 0, .bool false, .string ⟨#[113, 117, 101, 115, 116]⟩, .int .i64 63, .int .i64 0, .bool false, .string ⟨#[108, 112, 97, 114]⟩, .int .i64 40, .int .i64 0, .bool false, .string ⟨#[122, 119, 106]⟩, .int .i64 8205, .int .i64 0, .bool false, .string ⟨#[78, 111, 116, 69, 113, 117, 97, 108, 84, 105, 108, 100, 101]⟩, .int .i64 8770, .int .i64 824, .bool false, .string ⟨#[84, 104, 105, 99, 107, 83, 112, 97, 99, 101]⟩, .int .i64 8287, .int .i64 8202, .bool false, .string ⟨#[110, 118, 108, 116]⟩, .int .i64 60, .int .i64 8402, .bool false] 46) rfl (by kernel_rfl) ?_
  simp only [Act.put, List.setIfInBounds_toArray, List.set_cons_zero, List.set_cons_succ]
  go_wp2_with fail
  go_ret
  refine ⟨rfl, at_alloc rfl ?_, (Below.refl _ _).alloc (Nat.le_refl _) _, by simp⟩
  kernel_rfl
end Go.Proofs.YtcgkenmgglediaaDoor
