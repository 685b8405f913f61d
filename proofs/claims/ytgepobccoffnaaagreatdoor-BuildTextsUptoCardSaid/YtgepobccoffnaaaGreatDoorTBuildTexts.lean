/-
  The law BuildTexts returns true for every input within the bound, its card. Conditions: none beyond the statement's own.
-/
import Derived.Test.YtgepobccoffnaaaGreatDoorT40
import Derived.Test.YtgepobccoffnaaaGreatDoorT42
import Derived.Test.YtgepobccoffnaaaGreatDoorT48
import Derived.Deep.DeepHandedRow
import Derived.LaidMore
import Derived.Lay
import Derived.OpenShut
import Derived.ProofKit
import Derived.SevenTiedAt
import Derived.Shelf.Vars
import Derived.Stop.Joined
import Derived.Test.YtgepobccoffnaaaGreatDoorCards
import Derived.Test.YtgepobccoffnaaaGreatDoorTie
set_option linter.unusedVariables false
set_option linter.unusedSimpArgs false
set_option maxRecDepth 100000
set_option maxHeartbeats 8000000
namespace Go.Proofs.YtgepobccoffnaaaGreatDoor
open Go.ChangeShapes Go.WideShapes Go.ChangeAt Go.RowKit
open Go.ChangeMaps (open_string)
open Mem Law
theorem buildTexts_own:ownKnob Tryz.prog.godebug=none:=by kernel_rfl
theorem buildTexts_laid_out:laidOutB Tryz.prog=true:=by kernel_rfl
theorem buildTexts_types: ∀t∈Tryz.f5.params.toList,Tryz.prog.readableRec t=true∧t<Tryz.prog.types.size:=by
 have h:(Tryz.f5.params.toList.all fun t=>Tryz.prog.readableRec t&&decide (t<Tryz.prog.types.size))=true:=by kernel_rfl
 intro t ht
 have:=List.all_eq_true.1 h t ht
 simpa using this
theorem buildTexts_reads (os:Os) {H:Type} (enc:TypeId×Value→H): ∃places,DataW.whole enc Tryz.prog ((World.laidAll Tryz.prog os Rows.buildTextsRow.laid).forCall (fun _ _=>0) ⟨#[],#[.slice none 0 0],[]⟩).memory Tryz.f5.params.toList Rows.buildTextsSpec.vars false (#[.slice none 0 0]:Array Value).toList 8=some ([.nil],[],places) :=
 ⟨[],by kernel_rfl⟩
theorem buildTexts_met (os:Os):laidMetH Tryz.prog Rows.buildTextsRow.laid (((World.laidAll Tryz.prog os Rows.buildTextsRow.laid).forCall (fun _ _=>0) ⟨#[],#[.slice none 0 0],[]⟩).memory):=by
 rw[MakeChecks.laidMetH_plain _ _ _ (by kernel_rfl)]
 exact laidMet_laidAll _ (by kernel_rfl) (by kernel_rfl)
theorem buildTexts_lifted (os:Os) (started:os.Started) (H:Type) (enc:TypeId×Value→H) (F:Stop.Interp) :
 ReturnsInHanded {} Tryz.checked os 5 .any ((Rows.OpenSpec.upto Rows.buildTextsSpec).preRow enc Tryz.prog Tryz.f5 Rows.buildTextsUptoRow.domain false Rows.buildTextsUptoRow.laid) (((Rows.OpenSpec.upto Rows.buildTextsSpec).at F).post enc Tryz.prog Tryz.f5 false true false false):=by
 obtain⟨places,hx⟩:=buildTexts_reads os enc
 refine returnsInHanded_of_row (C:=Tryz.checked) (s:=Rows.OpenSpec.upto Rows.buildTextsSpec) buildTexts_own started (by kernel_rfl) Tryz.func5
  (witness_row_at (enc:=enc) (C:=Tryz.checked) false (World.laidAll Tryz.prog os Rows.buildTextsRow.laid) #[.slice none 0 0] (World.laidAll_os _ _ _) (by kernel_rfl) (by kernel_rfl) (by kernel_rfl)
    (OpenSpec.preRow_of_cond 8 hx (by kernel_rfl) (fun k hk=>by cases hk;kernel_rfl) (by kernel_rfl) (buildTexts_met os))) ?_
 intro W base args ds gs before hval0 hW _ hcond _ _ _ _
 have hval: ∀(j:Nat) t v,Tryz.f5.params[j]?=some t→args[j]?=some v→Value.okWide Tryz.prog W .any base t v:=hval0
 have hW':=hW
 obtain⟨p,q,hA0,hV,rfl,_,_⟩:=hW
 have hA:DataW.TrodAll enc Tryz.prog W 0 (fun _=>true) true Tryz.f5.params.toList args.toList ds p:=hA0
 rw[Tryz.params5]at hA hval
 obtain⟨v0,vs0,d0,ds0,p0,q0,hargs,rfl,rfl,h0,r0⟩:=trodAll_cons hA
 obtain⟨rfl,rfl,rfl⟩:=trodAll_nil r0
 obtain rfl:args= #[v0]:=by cases args;simp_all
 have hk:=hcond _ rfl
 obtain⟨a0,c0,l0,hv0,hl0,hz0,ha0,hm0,ht0⟩:=open_marks (hval 0 36 v0 rfl rfl) h0 (by simp) hk
 subst hv0
 clear hA0 hval0
 refine(lawBuildTexts l0 a0 c0 W hl0 ha0 hm0 ht0).mono fun e W' ⟨he,hb⟩=> ?_
 subst he
 exact⟨_,rfl,law_post hW' rfl (by kernel_rfl) Tryz.underlying4 rfl buildTexts_laid_out buildTexts_types hb⟩
theorem buildTexts_said:Rows.BuildTextsUptoSaid :=
 OpenClaim.holds_of_cond 5 Tryz.f5 rfl rfl rfl rfl rfl rfl rfl ⟨rfl,rfl,rfl,rfl,rfl⟩ rfl rfl rfl rfl rfl (by kernel_rfl) Tryz.func5 (by kernel_rfl)
  (of_decide_eq_true (by kernel_rfl)) (by unfold Func.isWrapper;first|(rw[if_pos (by decide +kernel)];kernel_rfl)|(rw[if_neg (by decide +kernel)];exact⟨rfl,rfl⟩))
  (fun os started H enc _ F=>by rw[OpenClaim.pre_eq_preRow];exact buildTexts_lifted os started H enc F)
theorem buildTexts_plain (f:FuncId) (fn:Func) (hf:Tryz.pinned.checked.prog.funcNamed "colander/colanderlaw17.BuildTexts" =some f) (hfn:Tryz.pinned.checked.prog.funcs[f]?=some fn) :
 false=Tryz.pinned.checked.prog.looks []∧ ∀(j:Nat) t,fn.params[j]?=some t→Tryz.pinned.checked.prog.wantsStandIn t=false:=by
 obtain rfl:f=5:=Option.some.inj ((show Tryz.prog.funcNamed "colander/colanderlaw17.BuildTexts" =some 5 by kernel_rfl).symm.trans hf) |>.symm
 obtain rfl:fn=Tryz.f5:=(Option.some.inj (Tryz.func5.symm.trans hfn)).symm
 refine⟨by kernel_rfl,fun j t ht=> ?_⟩
 rw[Tryz.params5]at ht
 have hm:t∈ [36]:=by simpa using Array.mem_of_getElem? ht
 have hall:([36].all fun u=> !Tryz.prog.wantsStandIn u)=true:=by kernel_rfl
 exact(show Tryz.prog.wantsStandIn t=false by simpa using List.all_eq_true.1 hall t hm)
theorem buildTexts_holds:Rows.BuildTextsUptoCardSaid :=
 Claim7.holds_tied_plain_at .later [] _ _ _ _ buildTexts_said (fun _ h=>by cases h) (by kernel_rfl) (fun _ h=>by cases h) buildTextsUpto_row_tie rfl ⟨rfl,rfl⟩ (by kernel_rfl) rfl buildTexts_plain (by kernel_rfl)
#print axioms buildTexts_holds
end Go.Proofs.YtgepobccoffnaaaGreatDoor
