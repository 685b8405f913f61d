/-
  The law RefsBack returns true for every input within the bound, its card. Conditions: none beyond the statement's own.
-/
import Derived.Test.YtcgkenmgglediaaDoorRefsX
import Derived.Test.YtcgkenmgglediaaDoorLaw
import Derived.Test.YtcgkenmgglediaaDoorBulk
import Derived.Test.YtcgkenmgglediaaDoorCards
import Derived.Test.YtcgkenmgglediaaDoorTie
import Derived.ProofKit
import Derived.OpenShut
import Derived.Deep.DeepHandedRow
import Derived.LaidMore
import Derived.Lay
import Derived.SevenTiedAt
import Derived.Stop.Joined
import Derived.Shelf.Vars
namespace Go.Proofs.YtcgkenmgglediaaDoor
open Go.ChangeShapes Go.WideShapes Go.ChangeAt Go.RowKit
open Go.ChangeMaps (open_string)
open Mem Law

theorem refsBack_own : ownKnob Tryd.prog.godebug = none := by kernel_rfl
theorem refsBack_laid_out : laidOutB Tryd.prog = true := by kernel_rfl
theorem refsBack_types : ∀ t ∈ Tryd.f6.params.toList, Tryd.prog.readableRec t = true ∧ t < Tryd.prog.types.size := by
  have h : (Tryd.f6.params.toList.all fun t => Tryd.prog.readableRec t && decide (t < Tryd.prog.types.size)) = true := by kernel_rfl
  intro t ht
  have := List.all_eq_true.1 h t ht
  simpa using this
theorem refsBack_reads (os : Os) {H : Type} (enc : TypeId × Value → H) : ∃ places, DataW.whole enc Tryd.prog ((World.laidAll Tryd.prog os Rows.refsBackRow.laid).forCall (fun _ _ => 0) ⟨#[], #[.string .empty, .bool false, .bool false], []⟩).memory Tryd.f6.params.toList Rows.refsBackSpec.vars false (#[.string .empty, .bool false, .bool false] : Array Value).toList 8 = some ([.lit (.string []), .lit (.bool false), .lit (.bool false)], [], places) :=
  ⟨[], by kernel_rfl⟩
theorem refsBack_met (os : Os) : laidMetH Tryd.prog Rows.refsBackRow.laid (((World.laidAll Tryd.prog os Rows.refsBackRow.laid).forCall (fun _ _ => 0) ⟨#[], #[.string .empty, .bool false, .bool false], []⟩).memory) := by
  rw [MakeChecks.laidMetH_plain _ _ _ (by kernel_rfl)]
  exact laidMet_laidAll _ (by kernel_rfl) (by kernel_rfl)
set_option maxRecDepth 100000 in
theorem refsBack_lifted (os : Os) (started : os.Started) (H : Type) (enc : TypeId × Value → H) (F : Stop.Interp) :
    ReturnsInHanded {} Tryd.checked os 6 .any ((Rows.OpenSpec.upto Rows.refsBackSpec).preRow enc Tryd.prog Tryd.f6 Rows.refsBackUptoRow.domain false Rows.refsBackUptoRow.laid) (((Rows.OpenSpec.upto Rows.refsBackSpec).at F).post enc Tryd.prog Tryd.f6 false true false false) := by
  obtain ⟨places, hx⟩ := refsBack_reads os enc
  refine returnsInHanded_of_row (C := Tryd.checked) (s := Rows.OpenSpec.upto Rows.refsBackSpec) refsBack_own started (by kernel_rfl) Tryd.func6
    (witness_row_at (enc := enc) (C := Tryd.checked) false (World.laidAll Tryd.prog os Rows.refsBackRow.laid) #[.string .empty, .bool false, .bool false] (World.laidAll_os _ _ _) (by kernel_rfl) (by kernel_rfl) (by kernel_rfl)
      (OpenSpec.preRow_of_cond 8 hx (by kernel_rfl) (fun k hk => by cases hk; kernel_rfl) (by kernel_rfl) (refsBack_met os))) ?_
  intro W base args ds gs before hval0 hW _ hcond _ _ hshape _
  have hval : ∀ (j : Nat) t v, Tryd.f6.params[j]? = some t → args[j]? = some v → Value.okWide Tryd.prog W .any base t v := hval0
  have hW' := hW
  obtain ⟨p, q, hA0, hV, rfl, _, _⟩ := hW
  obtain ⟨mx, hmx⟩ : ∃ m, W.cell? ⟨0, 0, none⟩ = some (.int .i64 m) := Go.Proofs.cell_of_shapedOpen_int (zero := #[.int .i64 0]) (t := 3) hshape (of_decide_eq_true (by kernel_rfl)) (by kernel_rfl) rfl (by kernel_rfl) (by kernel_rfl) Tryd.underlying3
  have hA : DataW.TrodAll enc Tryd.prog W 0 (fun _ => true) true Tryd.f6.params.toList args.toList ds p := hA0
  rw [Tryd.params6] at hA hval
  obtain ⟨v0, vs0, d0, ds0, p0, q0, hargs, rfl, rfl, h0, r0⟩ := trodAll_cons hA
  obtain ⟨v1, vs1, d1, ds1, p1, q1, rfl, rfl, rfl, h1, r1⟩ := trodAll_cons r0
  obtain ⟨v2, vs2, d2, ds2, p2, q2, rfl, rfl, rfl, h2, r2⟩ := trodAll_cons r1
  obtain ⟨rfl, rfl, rfl⟩ := trodAll_nil r2
  obtain rfl : args = #[v0, v1, v2] := by cases args; simp_all
  obtain ⟨x0, rfl, rfl, rfl, w0⟩ := open_string Tryd.underlying9 (hval 0 9 v0 rfl rfl) h0
  obtain ⟨x1, rfl, rfl, rfl⟩ := open_bool Tryd.underlying4 (hval 1 4 v1 rfl rfl) h1
  obtain ⟨x2, rfl, rfl, rfl⟩ := open_bool Tryd.underlying4 (hval 2 4 v2 rfl rfl) h2
  have hsm := Bulk.small_le (hcond _ rfl)
  simp only [List.nil_append, List.cons_append, Rows.uptoBulkAll, Rows.uptoBulk, ← Lib.size_eq] at hsm
  clear hA0 hval0
  refine (lawRefsBack x0 x1 x2 mx W w0 (by omega) hmx).mono fun e W' ⟨he, hb⟩ => ?_
  subst he
  exact ⟨_, rfl, law_post hW' rfl (by kernel_rfl) Tryd.underlying4 rfl refsBack_laid_out refsBack_types hb⟩
theorem refsBack_said : Rows.RefsBackUptoSaid :=
  OpenClaim.holds_of_cond 6 Tryd.f6 rfl rfl rfl rfl rfl rfl rfl ⟨rfl, rfl, rfl, rfl, rfl⟩ rfl rfl rfl rfl rfl (by kernel_rfl) Tryd.func6 (by kernel_rfl)
    (of_decide_eq_true (by kernel_rfl)) (by unfold Func.isWrapper; first | (rw [if_pos (by decide +kernel)]; kernel_rfl) | (rw [if_neg (by decide +kernel)]; exact ⟨rfl, rfl⟩))
    (fun os started H enc _ F => by rw [OpenClaim.pre_eq_preRow]; exact refsBack_lifted os started H enc F)
theorem refsBack_plain (f : FuncId) (fn : Func) (hf : Tryd.pinned.checked.prog.funcNamed "colander/colanderlaw12.RefsBack" = some f) (hfn : Tryd.pinned.checked.prog.funcs[f]? = some fn) :
    false = Tryd.pinned.checked.prog.looks [] ∧ ∀ (j : Nat) t, fn.params[j]? = some t → Tryd.pinned.checked.prog.wantsStandIn t = false := by
  obtain rfl : f = 6 := Option.some.inj ((show Tryd.prog.funcNamed "colander/colanderlaw12.RefsBack" = some 6 by kernel_rfl).symm.trans hf) |>.symm
  obtain rfl : fn = Tryd.f6 := (Option.some.inj (Tryd.func6.symm.trans hfn)).symm
  refine ⟨by kernel_rfl, fun j t ht => ?_⟩
  rw [Tryd.params6] at ht
  have hm : t ∈ [9, 4, 4] := by simpa using Array.mem_of_getElem? ht
  have hall : ([9, 4, 4].all fun u => !Tryd.prog.wantsStandIn u) = true := by kernel_rfl
  exact (show Tryd.prog.wantsStandIn t = false by simpa using List.all_eq_true.1 hall t hm)

/-- THE STATEMENT -/
theorem refsBack_holds : Rows.RefsBackUptoCardSaid :=
  Claim7.holds_tied_plain_at .later [] _ _ _ _ refsBack_said (fun _ h => by cases h) (by kernel_rfl) (fun _ h => by cases h) refsBackUpto_row_tie rfl ⟨rfl, rfl⟩ (by kernel_rfl) rfl refsBack_plain (by kernel_rfl)
#print axioms refsBack_holds
end Go.Proofs.YtcgkenmgglediaaDoor
