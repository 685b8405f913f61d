/-
  The law FormatThree returns true for every input. Conditions: none beyond the statement's own.
-/
import Derived.Test.YtidbihdnginmcaaThrC
import Derived.Test.YtidbihdnginmcaaOpenArgs
import Derived.Test.YtidbihdnginmcaaLawB
namespace Go.Proofs.Ytidbihdnginmcaa
open Go.ChangeShapes Go.WideShapes Go.ChangeAt Go.RowKit
open Go.ChangeMaps (open_string)
open Mem Law

theorem formatThree_own : ownKnob Try.prog.godebug = none := by kernel_rfl
theorem formatThree_types : ∀ t ∈ Try.f8.params.toList, Try.prog.readableRec t = true ∧ t < Try.prog.types.size := by
  have h : (Try.f8.params.toList.all fun t => Try.prog.readableRec t && decide (t < Try.prog.types.size)) = true := by kernel_rfl
  intro t ht
  have := List.all_eq_true.1 h t ht
  simpa using this

set_option maxRecDepth 100000 in
theorem formatThree_lifted (os : Os) (started : os.Started) (H : Type) (enc : TypeId × Value → H) :
    ReturnsInHanded {} Try.checked os 8 .any (Rows.formatThreeSpec.pre6 enc Try.prog Try.f8 Rows.formatThreeRow.domain false) (Rows.formatThreeSpec.post enc Try.prog Try.f8 false true false false) := by
  refine returnsInHanded_of_change (C := Try.checked) formatThree_own started (by kernel_rfl) Try.func8
    (ChangeSpec.witness6 (enc := enc) (C := Try.checked) false ⟨#[], #[.slice none 0 0, .slice none 0 0], []⟩ 8 (by kernel_rfl) (by kernel_rfl) (by kernel_rfl) (by kernel_rfl)) ?_
  intro W base args ds gs before hval0 hW _ _
  have hval : ∀ (j : Nat) t v, Try.f8.params[j]? = some t → args[j]? = some v → Value.okWide Try.prog W .any base t v := hval0
  have hW' := hW
  obtain ⟨p, q, hA0, hV, rfl, _, _⟩ := hW
  have hA : DataW.TrodAll enc Try.prog W 0 (fun _ => true) true Try.f8.params.toList args.toList ds p := hA0
  rw [Try.params8] at hA hval
  obtain ⟨v0, vs0, d0, ds0, p0, q0, hargs, rfl, rfl, h0, r0⟩ := trodAll_cons hA
  obtain ⟨v1, vs1, d1, ds1, p1, q1, rfl, rfl, rfl, h1, r1⟩ := trodAll_cons r0
  obtain ⟨rfl, rfl, rfl⟩ := trodAll_nil r1
  obtain rfl : args = #[v0, v1] := by cases args; simp_all
  obtain ⟨a0', n0', c0', rfl⟩ := okWide_slice Try.underlying51 (hval 0 51 v0 rfl rfl)
  obtain ⟨f0, hf0⟩ := h0
  obtain ⟨a0, c0, l0, hv0, hl0, hc0, hz0, ha0, _⟩ := open_strs Try.underlying51 Try.underlying9 (by kernel_rfl) (by simpa [Value.cells] using hf0)
  simp only [Value.slice.injEq] at hv0
  obtain ⟨rfl, rfl, rfl⟩ := hv0
  obtain ⟨a1', n1', c1', rfl⟩ := okWide_slice Try.underlying79 (hval 1 79 v1 rfl rfl)
  obtain ⟨f1, hf1⟩ := h1
  obtain ⟨a1, c1, l1, hv1, hl1, hc1, hz1, ha1⟩ := open_bools Try.underlying79 Try.underlying4 (by kernel_rfl) (by simpa [Value.cells] using hf1)
  simp only [Value.slice.injEq] at hv1
  obtain ⟨rfl, rfl, rfl⟩ := hv1
  clear hA0 hval0
  refine (law_FormatThree l0 a0' c0' hl0 hc0 ha0 l1 a1' c1' hl1 hc1 ha1).mono fun e W' ⟨he, hb⟩ => ?_
  subst he
  exact ⟨_, rfl, law_post hW' rfl (by kernel_rfl) Try.underlying4 rfl laid_out formatThree_types hb⟩

/-- THE STATEMENT -/
theorem formatThree_holds : Rows.FormatThreeSaid :=
  OpenClaim.holds_of_wide 8 Try.f8 rfl rfl rfl rfl rfl rfl rfl ⟨rfl, rfl, rfl, rfl, rfl⟩ rfl rfl rfl rfl rfl (by kernel_rfl) Try.func8 (by kernel_rfl)
    (of_decide_eq_true (by kernel_rfl)) (by unfold Func.isWrapper; first | (rw [if_pos (by decide +kernel)]; kernel_rfl) | (rw [if_neg (by decide +kernel)]; exact ⟨rfl, rfl⟩))
    (fun os started H enc _ => formatThree_lifted os started H enc)
#print axioms formatThree_holds
end Go.Proofs.Ytidbihdnginmcaa
