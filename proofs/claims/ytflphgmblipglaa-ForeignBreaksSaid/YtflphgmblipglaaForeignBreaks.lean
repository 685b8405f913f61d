/-
  The law ForeignBreaks returns true for every mark, and leaves the mark as it was. Conditions: none beyond the statement's own.
-/
import Derived.Test.YtflphgmblipglaaForJ
import Derived.Test.YtflphgmblipglaaForArgs
namespace Go.Proofs.Ytflphgmblipglaa
open Go.ChangeShapes Go.WideShapes Go.ChangeAt Go.RowKit
open Go.ChangeMaps (open_string)
open Mem Law

theorem foreignBreaks_own : ownKnob Try.prog.godebug = none := by kernel_rfl
theorem foreignBreaks_types : ∀ t ∈ Try.f4.params.toList, Try.prog.readableRec t = true ∧ t < Try.prog.types.size := by
  have h : (Try.f4.params.toList.all fun t => Try.prog.readableRec t && decide (t < Try.prog.types.size)) = true := by kernel_rfl
  intro t ht
  have := List.all_eq_true.1 h t ht
  simpa using this
set_option maxRecDepth 100000 in
theorem foreignBreaks_lifted (os : Os) (started : os.Started) (H : Type) (enc : TypeId × Value → H) :
    ReturnsInHanded {} Try.checked os 4 .any (Rows.foreignBreaksSpec.pre6 enc Try.prog Try.f4 Rows.foreignBreaksRow.domain false) (Rows.foreignBreaksSpec.post enc Try.prog Try.f4 false true false false) := by
  refine returnsInHanded_of_change (C := Try.checked) foreignBreaks_own started (by kernel_rfl) Try.func4
    (ChangeSpec.witness6 (enc := enc) (C := Try.checked) false ⟨#[], #[.agg #[.int .i64 0, .string .empty, .slice none 0 0, .bool false, .string .empty]], []⟩ 8 (by kernel_rfl) (by kernel_rfl) (by kernel_rfl) (by kernel_rfl)) ?_
  intro W base args ds gs before hval0 hW _ _
  have hval : ∀ (j : Nat) t v, Try.f4.params[j]? = some t → args[j]? = some v → Value.okWide Try.prog W .any base t v := hval0
  have hW' := hW
  obtain ⟨p, q, hA0, hV, rfl, _, _⟩ := hW
  have hA : DataW.TrodAll enc Try.prog W 0 (fun _ => true) true Try.f4.params.toList args.toList ds p := hA0
  rw [Try.params4] at hA hval
  obtain ⟨v0, vs0, d0, ds0, p0, q0, hargs, rfl, rfl, h0, r0⟩ := trodAll_cons hA
  obtain ⟨rfl, rfl, rfl⟩ := trodAll_nil r0
  obtain rfl : args = #[v0] := by cases args; simp_all
  obtain ⟨kind, name, a, c, self, text, l, rfl, hl, ha, _⟩ := open_mark (hval 0 24 v0 rfl rfl) h0
  clear hA0 hval0
  refine (lawBreaks kind name l a c self text W hl ha).mono fun e W' ⟨he, hb⟩ => ?_
  subst he
  exact ⟨_, rfl, law_post hW' rfl (by kernel_rfl) Try.underlying4 rfl laid_out foreignBreaks_types hb⟩

/-- THE STATEMENT -/
theorem foreignBreaks_holds : Rows.ForeignBreaksSaid :=
  OpenClaim.holds_of_wide 4 Try.f4 rfl rfl rfl rfl rfl rfl rfl ⟨rfl, rfl, rfl, rfl, rfl⟩ rfl rfl rfl rfl rfl (by kernel_rfl) Try.func4 (by kernel_rfl)
    (of_decide_eq_true (by kernel_rfl)) (by unfold Func.isWrapper; first | (rw [if_pos (by decide +kernel)]; kernel_rfl) | (rw [if_neg (by decide +kernel)]; exact ⟨rfl, rfl⟩))
    (fun os started H enc _ => foreignBreaks_lifted os started H enc)
#print axioms foreignBreaks_holds
end Go.Proofs.Ytflphgmblipglaa
