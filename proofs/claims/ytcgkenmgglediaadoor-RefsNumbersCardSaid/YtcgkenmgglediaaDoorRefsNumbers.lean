/-
  The law RefsNumbers returns true for every input, its card. Conditions: none beyond the statement's own.
-/
import Derived.Test.YtcgkenmgglediaaDoorRefsAC
import Derived.Test.YtcgkenmgglediaaDoorLaw
import Derived.Test.YtcgkenmgglediaaDoorCards
import Derived.Test.YtcgkenmgglediaaDoorTie
import Derived.ProofKit
import Derived.OpenShut
import Derived.Deep.DeepHandedRow
import Derived.LaidMore
import Derived.Lay
import Derived.SevenTiedAt
import Derived.Stop.Joined
import Derived.Shelf.Vars
namespace Go.Proofs.YtcgkenmgglediaaDoor
open Go.ChangeShapes Go.WideShapes Go.ChangeAt Go.RowKit
open Go.ChangeMaps (open_string)
open Mem Law

theorem refsNumbers_own : ownKnob Tryd.prog.godebug = none := by kernel_rfl
theorem refsNumbers_laid_out : laidOutB Tryd.prog = true := by kernel_rfl
theorem refsNumbers_types : ∀ t ∈ Tryd.f9.params.toList, Tryd.prog.readableRec t = true ∧ t < Tryd.prog.types.size := by
  have h : (Tryd.f9.params.toList.all fun t => Tryd.prog.readableRec t && decide (t < Tryd.prog.types.size)) = true := by kernel_rfl
  intro t ht
  have := List.all_eq_true.1 h t ht
  simpa using this
theorem refsNumbers_reads (os : Os) {H : Type} (enc : TypeId × Value → H) : ∃ places, DataW.whole enc Tryd.prog ((World.laidAll Tryd.prog os Rows.refsNumbersRow.laid).forCall (fun _ _ => 0) ⟨#[], #[.int .i32 0, .int .i64 0, .bool false, .bool false], []⟩).memory Tryd.f9.params.toList Rows.refsNumbersSpec.vars false (#[.int .i32 0, .int .i64 0, .bool false, .bool false] : Array Value).toList 8 = some ([.lit (.int .i32 0), .lit (.int .i64 0), .lit (.bool false), .lit (.bool false)], [], places) :=
  ⟨[], by kernel_rfl⟩
theorem refsNumbers_met (os : Os) : laidMetH Tryd.prog Rows.refsNumbersRow.laid (((World.laidAll Tryd.prog os Rows.refsNumbersRow.laid).forCall (fun _ _ => 0) ⟨#[], #[.int .i32 0, .int .i64 0, .bool false, .bool false], []⟩).memory) := by
  rw [MakeChecks.laidMetH_plain _ _ _ (by kernel_rfl)]
  exact laidMet_laidAll _ (by kernel_rfl) (by kernel_rfl)
set_option maxRecDepth 100000 in
theorem refsNumbers_lifted (os : Os) (started : os.Started) (H : Type) (enc : TypeId × Value → H) (F : Stop.Interp) :
    ReturnsInHanded {} Tryd.checked os 9 .any ((OpenSpec.ofChange Rows.refsNumbersSpec).preRow enc Tryd.prog Tryd.f9 Rows.refsNumbersRow.domain false Rows.refsNumbersRow.laid) (((OpenSpec.ofChange Rows.refsNumbersSpec).at F).post enc Tryd.prog Tryd.f9 false true false false) := by
  obtain ⟨places, hx⟩ := refsNumbers_reads os enc
  refine returnsInHanded_of_row (C := Tryd.checked) (s := OpenSpec.ofChange Rows.refsNumbersSpec) refsNumbers_own started (by kernel_rfl) Tryd.func9
    (witness_row_at (enc := enc) (C := Tryd.checked) false (World.laidAll Tryd.prog os Rows.refsNumbersRow.laid) #[.int .i32 0, .int .i64 0, .bool false, .bool false] (World.laidAll_os _ _ _) (by kernel_rfl) (by kernel_rfl) (by kernel_rfl)
      (OpenSpec.preRow_of_cond 8 hx (by kernel_rfl) (fun k hk => by cases hk) (by kernel_rfl) (refsNumbers_met os))) ?_
  intro W base args ds gs before hval0 hW _ hcond _ _ hshape _
  have hval : ∀ (j : Nat) t v, Tryd.f9.params[j]? = some t → args[j]? = some v → Value.okWide Tryd.prog W .any base t v := hval0
  have hW' := hW
  obtain ⟨p, q, hA0, hV, rfl, _, _⟩ := hW
  obtain ⟨mx, hmx⟩ : ∃ m, W.cell? ⟨0, 0, none⟩ = some (.int .i64 m) := Go.Proofs.cell_of_shapedOpen_int (zero := #[.int .i64 0]) (t := 3) hshape (of_decide_eq_true (by kernel_rfl)) (by kernel_rfl) rfl (by kernel_rfl) (by kernel_rfl) Tryd.underlying3
  have hA : DataW.TrodAll enc Tryd.prog W 0 (fun _ => true) true Tryd.f9.params.toList args.toList ds p := hA0
  rw [Tryd.params9] at hA hval
  obtain ⟨v0, vs0, d0, ds0, p0, q0, hargs, rfl, rfl, h0, r0⟩ := trodAll_cons hA
  obtain ⟨v1, vs1, d1, ds1, p1, q1, rfl, rfl, rfl, h1, r1⟩ := trodAll_cons r0
  obtain ⟨v2, vs2, d2, ds2, p2, q2, rfl, rfl, rfl, h2, r2⟩ := trodAll_cons r1
  obtain ⟨v3, vs3, d3, ds3, p3, q3, rfl, rfl, rfl, h3, r3⟩ := trodAll_cons r2
  obtain ⟨rfl, rfl, rfl⟩ := trodAll_nil r3
  obtain rfl : args = #[v0, v1, v2, v3] := by cases args; simp_all
  obtain ⟨x0, rfl, rfl, rfl, w0⟩ := open_int Tryd.underlying21 (hval 0 21 v0 rfl rfl) h0
  obtain ⟨x1, rfl, rfl, rfl, w1⟩ := open_int Tryd.underlying3 (hval 1 3 v1 rfl rfl) h1
  obtain ⟨x2, rfl, rfl, rfl⟩ := open_bool Tryd.underlying4 (hval 2 4 v2 rfl rfl) h2
  obtain ⟨x3, rfl, rfl, rfl⟩ := open_bool Tryd.underlying4 (hval 3 4 v3 rfl rfl) h3
  clear hA0 hval0
  refine (lawRefsNumbers x0 x1 x2 x3 mx W w0 w1 hmx).mono fun e W' ⟨he, hb⟩ => ?_
  subst he
  exact ⟨_, rfl, law_post hW' rfl (by kernel_rfl) Tryd.underlying4 rfl refsNumbers_laid_out refsNumbers_types hb⟩
theorem refsNumbers_said : Rows.RefsNumbersSaid :=
  OpenClaim.holds_of_cond 9 Tryd.f9 rfl rfl rfl rfl rfl rfl rfl ⟨rfl, rfl, rfl, rfl, rfl⟩ rfl rfl rfl rfl rfl (by kernel_rfl) Tryd.func9 (by kernel_rfl)
    (of_decide_eq_true (by kernel_rfl)) (by unfold Func.isWrapper; first | (rw [if_pos (by decide +kernel)]; kernel_rfl) | (rw [if_neg (by decide +kernel)]; exact ⟨rfl, rfl⟩))
    (fun os started H enc _ F => by rw [OpenClaim.pre_eq_preRow]; exact refsNumbers_lifted os started H enc F)
theorem refsNumbers_plain (f : FuncId) (fn : Func) (hf : Tryd.pinned.checked.prog.funcNamed "colander/colanderlaw12.RefsNumbers" = some f) (hfn : Tryd.pinned.checked.prog.funcs[f]? = some fn) :
    false = Tryd.pinned.checked.prog.looks [] ∧ ∀ (j : Nat) t, fn.params[j]? = some t → Tryd.pinned.checked.prog.wantsStandIn t = false := by
  obtain rfl : f = 9 := Option.some.inj ((show Tryd.prog.funcNamed "colander/colanderlaw12.RefsNumbers" = some 9 by kernel_rfl).symm.trans hf) |>.symm
  obtain rfl : fn = Tryd.f9 := (Option.some.inj (Tryd.func9.symm.trans hfn)).symm
  refine ⟨by kernel_rfl, fun j t ht => ?_⟩
  rw [Tryd.params9] at ht
  have hm : t ∈ [21, 3, 4, 4] := by simpa using Array.mem_of_getElem? ht
  have hall : ([21, 3, 4, 4].all fun u => !Tryd.prog.wantsStandIn u) = true := by kernel_rfl
  exact (show Tryd.prog.wantsStandIn t = false by simpa using List.all_eq_true.1 hall t hm)

/-- THE STATEMENT -/
theorem refsNumbers_holds : Rows.RefsNumbersCardSaid :=
  Claim7.holds_tied_plain_at .later [] _ _ _ _ refsNumbers_said (fun _ h => by cases h) (by kernel_rfl) (fun _ h => by cases h) refsNumbers_row_tie rfl ⟨rfl, rfl⟩ (by kernel_rfl) rfl refsNumbers_plain (by kernel_rfl)
#print axioms refsNumbers_holds
end Go.Proofs.YtcgkenmgglediaaDoor
