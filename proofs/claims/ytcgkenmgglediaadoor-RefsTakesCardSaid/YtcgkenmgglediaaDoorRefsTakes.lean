/-
  The law RefsTakes returns true for every input, its card. Conditions: none beyond the statement's own.
-/
import Derived.Test.YtcgkenmgglediaaDoorRefsV
import Derived.Test.YtcgkenmgglediaaDoorLaw
import Derived.Test.YtcgkenmgglediaaDoorCards
import Derived.Test.YtcgkenmgglediaaDoorTie
import Derived.ProofKit
import Derived.OpenShut
import Derived.Deep.DeepHandedRow
import Derived.LaidMore
import Derived.Lay
import Derived.SevenTiedAt
import Derived.Stop.Joined
import Derived.Shelf.Vars
namespace Go.Proofs.YtcgkenmgglediaaDoor
open Go.ChangeShapes Go.WideShapes Go.ChangeAt Go.RowKit
open Go.ChangeMaps (open_string)
open Mem Law

theorem refsTakes_own : ownKnob Tryd.prog.godebug = none := by kernel_rfl
theorem refsTakes_laid_out : laidOutB Tryd.prog = true := by kernel_rfl
theorem refsTakes_types : ∀ t ∈ Tryd.f4.params.toList, Tryd.prog.readableRec t = true ∧ t < Tryd.prog.types.size := by
  have h : (Tryd.f4.params.toList.all fun t => Tryd.prog.readableRec t && decide (t < Tryd.prog.types.size)) = true := by kernel_rfl
  intro t ht
  have := List.all_eq_true.1 h t ht
  simpa using this
theorem refsTakes_reads (os : Os) {H : Type} (enc : TypeId × Value → H) : ∃ places, DataW.whole enc Tryd.prog ((World.laidAll Tryd.prog os Rows.refsTakesRow.laid).forCall (fun _ _ => 0) ⟨#[], #[.string .empty, .bool false], []⟩).memory Tryd.f4.params.toList Rows.refsTakesSpec.vars false (#[.string .empty, .bool false] : Array Value).toList 8 = some ([.lit (.string []), .lit (.bool false)], [], places) :=
  ⟨[], by kernel_rfl⟩
theorem refsTakes_met (os : Os) : laidMetH Tryd.prog Rows.refsTakesRow.laid (((World.laidAll Tryd.prog os Rows.refsTakesRow.laid).forCall (fun _ _ => 0) ⟨#[], #[.string .empty, .bool false], []⟩).memory) := by
  rw [MakeChecks.laidMetH_plain _ _ _ (by kernel_rfl)]
  exact laidMet_laidAll _ (by kernel_rfl) (by kernel_rfl)
set_option maxRecDepth 100000 in
theorem refsTakes_lifted (os : Os) (started : os.Started) (H : Type) (enc : TypeId × Value → H) (F : Stop.Interp) :
    ReturnsInHanded {} Tryd.checked os 4 .any ((OpenSpec.ofChange Rows.refsTakesSpec).preRow enc Tryd.prog Tryd.f4 Rows.refsTakesRow.domain false Rows.refsTakesRow.laid) (((OpenSpec.ofChange Rows.refsTakesSpec).at F).post enc Tryd.prog Tryd.f4 false true false false) := by
  obtain ⟨places, hx⟩ := refsTakes_reads os enc
  refine returnsInHanded_of_row (C := Tryd.checked) (s := OpenSpec.ofChange Rows.refsTakesSpec) refsTakes_own started (by kernel_rfl) Tryd.func4
    (witness_row_at (enc := enc) (C := Tryd.checked) false (World.laidAll Tryd.prog os Rows.refsTakesRow.laid) #[.string .empty, .bool false] (World.laidAll_os _ _ _) (by kernel_rfl) (by kernel_rfl) (by kernel_rfl)
      (OpenSpec.preRow_of_cond 8 hx (by kernel_rfl) (fun k hk => by cases hk) (by kernel_rfl) (refsTakes_met os))) ?_
  intro W base args ds gs before hval0 hW _ hcond _ _ hshape _
  have hval : ∀ (j : Nat) t v, Tryd.f4.params[j]? = some t → args[j]? = some v → Value.okWide Tryd.prog W .any base t v := hval0
  have hW' := hW
  obtain ⟨p, q, hA0, hV, rfl, _, _⟩ := hW
  obtain ⟨mx, hmx⟩ : ∃ m, W.cell? ⟨0, 0, none⟩ = some (.int .i64 m) := Go.Proofs.cell_of_shapedOpen_int (zero := #[.int .i64 0]) (t := 3) hshape (of_decide_eq_true (by kernel_rfl)) (by kernel_rfl) rfl (by kernel_rfl) (by kernel_rfl) Tryd.underlying3
  have hA : DataW.TrodAll enc Tryd.prog W 0 (fun _ => true) true Tryd.f4.params.toList args.toList ds p := hA0
  rw [Tryd.params4] at hA hval
  obtain ⟨v0, vs0, d0, ds0, p0, q0, hargs, rfl, rfl, h0, r0⟩ := trodAll_cons hA
  obtain ⟨v1, vs1, d1, ds1, p1, q1, rfl, rfl, rfl, h1, r1⟩ := trodAll_cons r0
  obtain ⟨rfl, rfl, rfl⟩ := trodAll_nil r1
  obtain rfl : args = #[v0, v1] := by cases args; simp_all
  obtain ⟨x0, rfl, rfl, rfl, w0⟩ := open_string Tryd.underlying9 (hval 0 9 v0 rfl rfl) h0
  obtain ⟨x1, rfl, rfl, rfl⟩ := open_bool Tryd.underlying4 (hval 1 4 v1 rfl rfl) h1
  clear hA0 hval0
  refine (lawRefsTakes x0 x1 mx W w0 hmx).mono fun e W' ⟨he, hb⟩ => ?_
  subst he
  exact ⟨_, rfl, law_post hW' rfl (by kernel_rfl) Tryd.underlying4 rfl refsTakes_laid_out refsTakes_types hb⟩
theorem refsTakes_said : Rows.RefsTakesSaid :=
  OpenClaim.holds_of_cond 4 Tryd.f4 rfl rfl rfl rfl rfl rfl rfl ⟨rfl, rfl, rfl, rfl, rfl⟩ rfl rfl rfl rfl rfl (by kernel_rfl) Tryd.func4 (by kernel_rfl)
    (of_decide_eq_true (by kernel_rfl)) (by unfold Func.isWrapper; first | (rw [if_pos (by decide +kernel)]; kernel_rfl) | (rw [if_neg (by decide +kernel)]; exact ⟨rfl, rfl⟩))
    (fun os started H enc _ F => by rw [OpenClaim.pre_eq_preRow]; exact refsTakes_lifted os started H enc F)
theorem refsTakes_plain (f : FuncId) (fn : Func) (hf : Tryd.pinned.checked.prog.funcNamed "colander/colanderlaw12.RefsTakes" = some f) (hfn : Tryd.pinned.checked.prog.funcs[f]? = some fn) :
    false = Tryd.pinned.checked.prog.looks [] ∧ ∀ (j : Nat) t, fn.params[j]? = some t → Tryd.pinned.checked.prog.wantsStandIn t = false := by
  obtain rfl : f = 4 := Option.some.inj ((show Tryd.prog.funcNamed "colander/colanderlaw12.RefsTakes" = some 4 by kernel_rfl).symm.trans hf) |>.symm
  obtain rfl : fn = Tryd.f4 := (Option.some.inj (Tryd.func4.symm.trans hfn)).symm
  refine ⟨by kernel_rfl, fun j t ht => ?_⟩
  rw [Tryd.params4] at ht
  have hm : t ∈ [9, 4] := by simpa using Array.mem_of_getElem? ht
  have hall : ([9, 4].all fun u => !Tryd.prog.wantsStandIn u) = true := by kernel_rfl
  exact (show Tryd.prog.wantsStandIn t = false by simpa using List.all_eq_true.1 hall t hm)

/-- THE STATEMENT -/
theorem refsTakes_holds : Rows.RefsTakesCardSaid :=
  Claim7.holds_tied_plain_at .later [] _ _ _ _ refsTakes_said (fun _ h => by cases h) (by kernel_rfl) (fun _ h => by cases h) refsTakes_row_tie rfl ⟨rfl, rfl⟩ (by kernel_rfl) rfl refsTakes_plain (by kernel_rfl)
#print axioms refsTakes_holds
end Go.Proofs.YtcgkenmgglediaaDoor
