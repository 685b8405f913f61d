/-
  The law OpenStacks returns true for every input within the bound. Conditions: none beyond the statement's own.
-/
import Derived.Test.YtidbihdnginmcaaRstU
import Derived.Test.YtidbihdnginmcaaOpenArgs
import Derived.Test.YtidbihdnginmcaaLawB
import Derived.Test.YtidbihdnginmcaaBulk
import Derived.Test.YtidbihdnginmcaaOpenArgsB
import Derived.Test.YtidbihdnginmcaaOpenArgsC
namespace Go.Proofs.Ytidbihdnginmcaa
open Go.ChangeShapes Go.WideShapes Go.ChangeAt Go.RowKit
open Go.ChangeMaps (open_string)
open Mem Law

theorem openStacks_own : ownKnob Try.prog.godebug = none := by kernel_rfl
theorem openStacks_types : ∀ t ∈ Try.f6.params.toList, Try.prog.readableRec t = true ∧ t < Try.prog.types.size := by
  have h : (Try.f6.params.toList.all fun t => Try.prog.readableRec t && decide (t < Try.prog.types.size)) = true := by kernel_rfl
  intro t ht
  have := List.all_eq_true.1 h t ht
  simpa using this

set_option maxRecDepth 100000 in
theorem openStacks_contract (H : Type) (enc : TypeId × Value → H) (W : World) (base : Nat) (args : Array Value) (ds gs : List (DataW H)) (before : List MemPlace)
    (hval0 : ∀ (j : Nat) t v, Try.f6.params[j]? = some t → args[j]? = some v → Value.okWide Try.prog W .any base t v)
    (hW : DataW.Whole enc Try.prog Try.f6.params.toList Rows.openStacksSpec.vars false W args.toList ds gs before) (hk : Rows.uptoSmall H (ds ++ gs) = true) :
    Calls Try.prog 6 args W fun e W' => ∃ v, e = .returned v ∧ Rows.openStacksSpec.post enc Try.prog Try.f6 false true false false W args v W' := by
  have hval : ∀ (j : Nat) t v, Try.f6.params[j]? = some t → args[j]? = some v → Value.okWide Try.prog W .any base t v := hval0
  have hW' := hW
  obtain ⟨p, q, hA0, hV, rfl, _, _⟩ := hW
  have hA : DataW.TrodAll enc Try.prog W 0 (fun _ => true) true Try.f6.params.toList args.toList ds p := hA0
  rw [Try.params6] at hA hval
  obtain ⟨v0, vs0, d0, ds0, p0, q0, hargs, rfl, rfl, h0, r0⟩ := trodAll_cons hA
  obtain ⟨v1, vs1, d1, ds1, p1, q1, rfl, rfl, rfl, h1, r1⟩ := trodAll_cons r0
  obtain ⟨rfl, rfl, rfl⟩ := trodAll_nil r1
  obtain rfl : args = #[v0, v1] := by cases args; simp_all
  obtain ⟨a0, c0, l0, hv0, hl0, hc0, hm0, hs0, ha0⟩ := open_ops (hval 0 22 v0 rfl rfl) h0 (by simp) hk
  subst hv0
  obtain ⟨a1, c1, l1, hv1, hl1, hc1, hm1, hs1, ha1⟩ := open_dos (hval 1 62 v1 rfl rfl) h1 (by simp) hk
  subst hv1
  clear hA0 hval0
  refine (law_OpenStacks l0 a0 c0 hl0 hs0 hc0 hm0 ha0 l1 a1 c1 hl1 hs1 hc1 hm1 ha1).mono fun e W' ⟨he, hb⟩ => ?_
  subst he
  exact ⟨_, rfl, law_post hW' rfl (by kernel_rfl) Try.underlying4 rfl laid_out openStacks_types hb⟩

set_option maxRecDepth 100000 in
theorem openStacks_lifted (os : Os) (started : os.Started) (H : Type) (enc : TypeId × Value → H) (F : Stop.Interp) :
    ReturnsInHanded {} Try.checked os 6 .any ((Rows.OpenSpec.upto Rows.openStacksSpec).pre6 enc Try.prog Try.f6 Rows.openStacksUptoRow.domain false) (((Rows.OpenSpec.upto Rows.openStacksSpec).at F).post enc Try.prog Try.f6 false true false false) := by
  refine returnsInHanded_of_cond (C := Try.checked) (s := Rows.OpenSpec.upto Rows.openStacksSpec) (k := Rows.uptoSmall) rfl openStacks_own started (by kernel_rfl) Try.func6
    (OpenSpec.witness (enc := enc) (C := Try.checked) (s := Rows.OpenSpec.upto Rows.openStacksSpec) (k := Rows.uptoSmall) rfl false ⟨#[], #[.slice none 0 0, .slice none 0 0], []⟩ 8 (by kernel_rfl) (by kernel_rfl) (by kernel_rfl)
      (x := ([.nil, .nil], [], [])) (by kernel_rfl) rfl (by kernel_rfl)) ?_
  intro W base args ds gs before hval hW _ hk _
  exact openStacks_contract H enc W base args ds gs before hval hW hk

/-- THE STATEMENT -/
theorem openStacks_holds : Rows.OpenStacksUptoSaid :=
  OpenClaim.holds_of_cond 6 Try.f6 rfl rfl rfl rfl rfl rfl rfl ⟨rfl, rfl, rfl, rfl, rfl⟩ rfl rfl rfl rfl rfl (by kernel_rfl) Try.func6 (by kernel_rfl)
    (of_decide_eq_true (by kernel_rfl)) (by unfold Func.isWrapper; first | (rw [if_pos (by decide +kernel)]; kernel_rfl) | (rw [if_neg (by decide +kernel)]; exact ⟨rfl, rfl⟩))
    (fun os started H enc _ F => openStacks_lifted os started H enc F)
#print axioms openStacks_holds
end Go.Proofs.Ytidbihdnginmcaa
