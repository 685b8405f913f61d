/-
  The law MarksTags returns true for every input within the bound. Conditions: none beyond the statement's own.
-/
import Derived.Test.YtbabcohidpcjjaaMkTg
import Derived.Test.YtbabcohidpcjjaaLaw
import Derived.Test.YtbabcohidpcjjaaBulk
import Derived.Test.YtbabcohidpcjjaaLawA
import Derived.Test.YtbabcohidpcjjaaRows
import Derived.ProofKit
import Derived.OpenShut
import Derived.Deep.DeepHandedRow
import Derived.LaidMore
import Derived.Lay
import Derived.SevenTiedAt
import Derived.Stop.Joined
import Derived.Shelf.Vars
namespace Go.Proofs.Ytbabcohidpcjjaa
open Go.ChangeShapes Go.WideShapes Go.ChangeAt Go.RowKit
open Go.ChangeMaps (open_string)
open Mem Law

theorem marksTags_own : ownKnob Try.prog.godebug = none := by kernel_rfl
theorem marksTags_laid_out : laidOutB Try.prog = true := by kernel_rfl
theorem marksTags_types : ∀ t ∈ Try.f5.params.toList, Try.prog.readableRec t = true ∧ t < Try.prog.types.size := by
  have h : (Try.f5.params.toList.all fun t => Try.prog.readableRec t && decide (t < Try.prog.types.size)) = true := by kernel_rfl
  intro t ht
  have := List.all_eq_true.1 h t ht
  simpa using this
theorem marksTags_reads (os : Os) {H : Type} (enc : TypeId × Value → H) : ∃ places, DataW.whole enc Try.prog ((World.laidAll Try.prog os Rows.marksTagsUptoRow.laid).forCall (fun _ _ => 0) ⟨#[], #[.string .empty, .slice none 0 0, .bool false], []⟩).memory Try.f5.params.toList Rows.marksTagsSpec.vars false (#[.string .empty, .slice none 0 0, .bool false] : Array Value).toList 8 = some ([.lit (.string []), .nil, .lit (.bool false)], [], places) :=
  ⟨[], by kernel_rfl⟩
theorem marksTags_met (os : Os) : laidMetH Try.prog Rows.marksTagsUptoRow.laid (((World.laidAll Try.prog os Rows.marksTagsUptoRow.laid).forCall (fun _ _ => 0) ⟨#[], #[.string .empty, .slice none 0 0, .bool false], []⟩).memory) := by
  rw [MakeChecks.laidMetH_plain _ _ _ (by kernel_rfl)]
  exact laidMet_laidAll _ (by kernel_rfl) (by kernel_rfl)
set_option maxRecDepth 100000 in
theorem marksTags_lifted (os : Os) (started : os.Started) (H : Type) (enc : TypeId × Value → H) (F : Stop.Interp) :
    ReturnsInHanded {} Try.checked os 5 .any ((Rows.OpenSpec.upto Rows.marksTagsSpec).preRow enc Try.prog Try.f5 Rows.marksTagsUptoRow.domain false Rows.marksTagsUptoRow.laid) (((Rows.OpenSpec.upto Rows.marksTagsSpec).at F).post enc Try.prog Try.f5 false true false false) := by
  obtain ⟨places, hx⟩ := marksTags_reads os enc
  refine returnsInHanded_of_row (C := Try.checked) (s := Rows.OpenSpec.upto Rows.marksTagsSpec) marksTags_own started (by kernel_rfl) Try.func5
    (witness_row_at (enc := enc) (C := Try.checked) false (World.laidAll Try.prog os Rows.marksTagsUptoRow.laid) #[.string .empty, .slice none 0 0, .bool false] (World.laidAll_os _ _ _) (by kernel_rfl) (by kernel_rfl) (by kernel_rfl)
      (OpenSpec.preRow_of_cond 8 hx (by kernel_rfl) (fun k hk => by cases hk; kernel_rfl) (by kernel_rfl) (marksTags_met os))) ?_
  intro W base args ds gs before hval0 hW _ hcond _ _ hshape _
  have hk := hcond _ rfl
  have hval : ∀ (j : Nat) t v, Try.f5.params[j]? = some t → args[j]? = some v → Value.okWide Try.prog W .any base t v := hval0
  have hW' := hW
  obtain ⟨p, q, hA0, hV, rfl, _, _⟩ := hW
  obtain ⟨mx, hmx⟩ : ∃ m, W.cell? ⟨0, 0, none⟩ = some (.int .i64 m) := Go.Proofs.cell_of_shapedOpen_int (zero := #[.int .i64 0]) (t := 3) hshape (of_decide_eq_true (by kernel_rfl)) (by kernel_rfl) rfl (by kernel_rfl) (by kernel_rfl) Try.underlying3
  have hA : DataW.TrodAll enc Try.prog W 0 (fun _ => true) true Try.f5.params.toList args.toList ds p := hA0
  rw [Try.params5] at hA hval
  obtain ⟨v0, vs0, d0, ds0, p0, q0, hargs, rfl, rfl, h0, r0⟩ := trodAll_cons hA
  obtain ⟨v1, vs1, d1, ds1, p1, q1, rfl, rfl, rfl, h1, r1⟩ := trodAll_cons r0
  obtain ⟨v2, vs2, d2, ds2, p2, q2, rfl, rfl, rfl, h2, r2⟩ := trodAll_cons r1
  obtain ⟨rfl, rfl, rfl⟩ := trodAll_nil r2
  obtain rfl : args = #[v0, v1, v2] := by cases args; simp_all
  obtain ⟨x0, rfl, rfl, rfl, w0⟩ := open_string Try.underlying9 (hval 0 9 v0 rfl rfl) h0
  obtain ⟨a1', n1', c1', rfl⟩ := okWide_slice Try.underlying34 (hval 1 34 v1 rfl rfl)
  have hs1 := fun (l : List Pair) e f => attrs_short (l := l) h1 (by simp) hk e f
  obtain ⟨f1, hf1⟩ := h1
  obtain ⟨a1, c1, l1, hv1, hl1, hc1, hz1, ha1, -⟩ := open_pairs (P := Try.prog) (T := 9) Try.underlying34 Try.underlying9 attr_under attr_cells attr_fields (by simpa [Value.cells] using hf1)
  simp only [Value.slice.injEq] at hv1
  obtain ⟨rfl, rfl, rfl⟩ := hv1
  obtain ⟨x2, rfl, rfl, rfl⟩ := open_bool Try.underlying4 (hval 2 4 v2 rfl rfl) h2
  clear hA0 hval0
  refine (law_MarksTags (w := W) x0 (Bulk.string_short (by simp) hk) l1 a1' c1' ha1 (hs1 l1 rfl ha1) x2 mx hmx).mono fun e W' ⟨he, hb⟩ => ?_
  subst he
  exact ⟨_, rfl, law_post hW' rfl (by kernel_rfl) Try.underlying4 rfl marksTags_laid_out marksTags_types hb⟩

/-- THE STATEMENT -/
theorem marksTags_holds : Rows.MarksTagsUptoSaid :=
  OpenClaim.holds_of_cond 5 Try.f5 rfl rfl rfl rfl rfl rfl rfl ⟨rfl, rfl, rfl, rfl, rfl⟩ rfl rfl rfl rfl rfl (by kernel_rfl) Try.func5 (by kernel_rfl)
    (of_decide_eq_true (by kernel_rfl)) (by unfold Func.isWrapper; first | (rw [if_pos (by decide +kernel)]; kernel_rfl) | (rw [if_neg (by decide +kernel)]; exact ⟨rfl, rfl⟩))
    (fun os started H enc _ F => by rw [OpenClaim.pre_eq_preRow]; exact marksTags_lifted os started H enc F)
#print axioms marksTags_holds
end Go.Proofs.Ytbabcohidpcjjaa
