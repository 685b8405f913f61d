/-
  The law MarksReads returns true for every input within the bound. Conditions: none beyond the statement's own.
-/
import Derived.Test.YtbabcohidpcjjaaGreatZDzR
import Derived.Test.YtbabcohidpcjjaaGreatZLaw
import Derived.Test.YtbabcohidpcjjaaGreatZBulk
import Derived.Test.YtbabcohidpcjjaaGreatRows
import Derived.ProofKit
import Derived.OpenShut
import Derived.Deep.DeepHandedRow
import Derived.LaidMore
import Derived.Lay
import Derived.SevenTiedAt
import Derived.Stop.Joined
import Derived.Shelf.Vars
namespace Go.Proofs.YtbabcohidpcjjaaGreat
open Go.ChangeShapes Go.WideShapes Go.ChangeAt Go.RowKit
open Go.ChangeMaps (open_string)
open Mem Law

theorem marksReads_own : ownKnob Tryz.prog.godebug = none := by kernel_rfl
theorem marksReads_laid_out : laidOutB Tryz.prog = true := by kernel_rfl
theorem marksReads_types : ∀ t ∈ Tryz.f5.params.toList, Tryz.prog.readableRec t = true ∧ t < Tryz.prog.types.size := by
  have h : (Tryz.f5.params.toList.all fun t => Tryz.prog.readableRec t && decide (t < Tryz.prog.types.size)) = true := by kernel_rfl
  intro t ht
  have := List.all_eq_true.1 h t ht
  simpa using this
theorem marksReads_reads (os : Os) {H : Type} (enc : TypeId × Value → H) : ∃ places, DataW.whole enc Tryz.prog ((World.laidAll Tryz.prog os Rows.marksReadsUptoRow.laid).forCall (fun _ _ => 0) ⟨#[], #[.string .empty, .slice none 0 0], []⟩).memory Tryz.f5.params.toList Rows.marksReadsSpec.vars false (#[.string .empty, .slice none 0 0] : Array Value).toList 8 = some ([.lit (.string []), .nil], [], places) :=
  ⟨[], by kernel_rfl⟩
theorem marksReads_met (os : Os) : laidMetH Tryz.prog Rows.marksReadsUptoRow.laid (((World.laidAll Tryz.prog os Rows.marksReadsUptoRow.laid).forCall (fun _ _ => 0) ⟨#[], #[.string .empty, .slice none 0 0], []⟩).memory) := by
  rw [MakeChecks.laidMetH_plain _ _ _ (by kernel_rfl)]
  exact laidMet_laidAll _ (by kernel_rfl) (by kernel_rfl)
set_option maxRecDepth 100000 in
theorem marksReads_lifted (os : Os) (started : os.Started) (H : Type) (enc : TypeId × Value → H) (F : Stop.Interp) :
    ReturnsInHanded {} Tryz.checked os 5 .any ((Rows.OpenSpec.upto Rows.marksReadsSpec).preRow enc Tryz.prog Tryz.f5 Rows.marksReadsUptoRow.domain false Rows.marksReadsUptoRow.laid) (((Rows.OpenSpec.upto Rows.marksReadsSpec).at F).post enc Tryz.prog Tryz.f5 false true false false) := by
  obtain ⟨places, hx⟩ := marksReads_reads os enc
  refine returnsInHanded_of_row (C := Tryz.checked) (s := Rows.OpenSpec.upto Rows.marksReadsSpec) marksReads_own started (by kernel_rfl) Tryz.func5
    (witness_row_at (enc := enc) (C := Tryz.checked) false (World.laidAll Tryz.prog os Rows.marksReadsUptoRow.laid) #[.string .empty, .slice none 0 0] (World.laidAll_os _ _ _) (by kernel_rfl) (by kernel_rfl) (by kernel_rfl)
      (OpenSpec.preRow_of_cond 8 hx (by kernel_rfl) (fun k hk => by cases hk; kernel_rfl) (by kernel_rfl) (marksReads_met os))) ?_
  intro W base args ds gs before hval0 hW _ hcond _ _ hshape _
  have hk := hcond _ rfl
  have hval : ∀ (j : Nat) t v, Tryz.f5.params[j]? = some t → args[j]? = some v → Value.okWide Tryz.prog W .any base t v := hval0
  have hW' := hW
  obtain ⟨p, q, hA0, hV, rfl, _, _⟩ := hW
  obtain ⟨mx, hmx⟩ : ∃ m, W.cell? ⟨0, 0, none⟩ = some (.int .i64 m) := Go.Proofs.cell_of_shapedOpen_int (zero := #[.int .i64 0]) (t := 3) hshape (of_decide_eq_true (by kernel_rfl)) (by kernel_rfl) rfl (by kernel_rfl) (by kernel_rfl) Tryz.underlying3
  have hA : DataW.TrodAll enc Tryz.prog W 0 (fun _ => true) true Tryz.f5.params.toList args.toList ds p := hA0
  rw [Tryz.params5] at hA hval
  obtain ⟨v0, vs0, d0, ds0, p0, q0, hargs, rfl, rfl, h0, r0⟩ := trodAll_cons hA
  obtain ⟨v1, vs1, d1, ds1, p1, q1, rfl, rfl, rfl, h1, r1⟩ := trodAll_cons r0
  obtain ⟨rfl, rfl, rfl⟩ := trodAll_nil r1
  obtain rfl : args = #[v0, v1] := by cases args; simp_all
  obtain ⟨x0, rfl, rfl, rfl, w0⟩ := open_string Tryz.underlying9 (hval 0 9 v0 rfl rfl) h0
  obtain ⟨a1, c1, l1, hv1, hl1, hn1, ha1⟩ := open_calls (hval 1 37 v1 rfl rfl) h1 (by simp) hk
  subst hv1
  clear hA0 hval0
  refine (law_MarksReads (w := W) x0 (Bulk.string_short (by simp) hk) l1 a1 c1 hl1 hn1 ha1 mx hmx).mono fun e W' ⟨he, hb⟩ => ?_
  subst he
  exact ⟨_, rfl, law_post hW' rfl (by kernel_rfl) Tryz.underlying4 rfl marksReads_laid_out marksReads_types hb⟩

/-- THE STATEMENT -/
theorem marksReads_holds : Rows.MarksReadsUptoSaid :=
  OpenClaim.holds_of_cond 5 Tryz.f5 rfl rfl rfl rfl rfl rfl rfl ⟨rfl, rfl, rfl, rfl, rfl⟩ rfl rfl rfl rfl rfl (by kernel_rfl) Tryz.func5 (by kernel_rfl)
    (of_decide_eq_true (by kernel_rfl)) (by unfold Func.isWrapper; first | (rw [if_pos (by decide +kernel)]; kernel_rfl) | (rw [if_neg (by decide +kernel)]; exact ⟨rfl, rfl⟩))
    (fun os started H enc _ F => by rw [OpenClaim.pre_eq_preRow]; exact marksReads_lifted os started H enc F)
#print axioms marksReads_holds
end Go.Proofs.YtbabcohidpcjjaaGreat
