/-
  The law BuildComments returns true for every input within the bound, its card. Conditions: none beyond the statement's own.
-/
import Derived.Test.YteckmpcgdgknoaaGreatDoorQCuCw
import Derived.Test.YteckmpcgdgknoaaGreatDoorQCuMz
import Derived.Test.YteckmpcgdgknoaaGreatDoorQLawM
import Derived.Test.YteckmpcgdgknoaaGreatDoorQLawB
import Derived.Test.YteckmpcgdgknoaaGreatDoorQ42
import Derived.Test.YteckmpcgdgknoaaGreatDoorCards
import Derived.Test.YteckmpcgdgknoaaGreatDoorTie
import Derived.ProofKit
import Derived.OpenShut
import Derived.Deep.DeepHandedRow
import Derived.LaidMore
import Derived.Lay
import Derived.SevenTiedAt
import Derived.Stop.Joined
import Derived.Shelf.Vars
set_option linter.unusedVariables false
set_option linter.unusedSimpArgs false
namespace Go.Proofs.YteckmpcgdgknoaaGreatDoor
open Go.ChangeShapes Go.WideShapes Go.ChangeAt Go.RowKit
open Go.ChangeMaps (open_string)
open Mem Law
theorem buildComments_own:ownKnob Tryz.prog.godebug=none:=by kernel_rfl
theorem buildComments_laid_out:laidOutB Tryz.prog=true:=by kernel_rfl
theorem buildComments_types: ∀t∈Tryz.f3.params.toList,Tryz.prog.readableRec t=true∧t<Tryz.prog.types.size:=by
 have h:(Tryz.f3.params.toList.all fun t=>Tryz.prog.readableRec t&&decide (t<Tryz.prog.types.size))=true:=by kernel_rfl
 intro t ht
 have:=List.all_eq_true.1 h t ht
 simpa using this
theorem buildComments_reads (os:Os) {H:Type} (enc:TypeId×Value→H): ∃places,DataW.whole enc Tryz.prog ((World.laidAll Tryz.prog os Rows.buildCommentsRow.laid).forCall (fun _ _=>0) ⟨#[],#[.slice none 0 0,.slice none 0 0],[]⟩).memory Tryz.f3.params.toList Rows.buildCommentsSpec.vars false (#[.slice none 0 0,.slice none 0 0]:Array Value).toList 8=some ([.nil,.nil],[],places) :=
 ⟨[],by kernel_rfl⟩
theorem buildComments_met (os:Os):laidMetH Tryz.prog Rows.buildCommentsRow.laid (((World.laidAll Tryz.prog os Rows.buildCommentsRow.laid).forCall (fun _ _=>0) ⟨#[],#[.slice none 0 0,.slice none 0 0],[]⟩).memory):=by
 rw[MakeChecks.laidMetH_plain _ _ _ (by kernel_rfl)]
 exact laidMet_laidAll _ (by kernel_rfl) (by kernel_rfl)
set_option maxRecDepth 100000 in
theorem buildComments_lifted (os:Os) (started:os.Started) (H:Type) (enc:TypeId×Value→H) (F:Stop.Interp) :
 ReturnsInHanded {} Tryz.checked os 3 .any ((Rows.OpenSpec.upto Rows.buildCommentsSpec).preRow enc Tryz.prog Tryz.f3 Rows.buildCommentsUptoRow.domain false Rows.buildCommentsUptoRow.laid) (((Rows.OpenSpec.upto Rows.buildCommentsSpec).at F).post enc Tryz.prog Tryz.f3 false true false false):=by
 obtain⟨places,hx⟩:=buildComments_reads os enc
 refine returnsInHanded_of_row (C:=Tryz.checked) (s:=Rows.OpenSpec.upto Rows.buildCommentsSpec) buildComments_own started (by kernel_rfl) Tryz.func3
  (witness_row_at (enc:=enc) (C:=Tryz.checked) false (World.laidAll Tryz.prog os Rows.buildCommentsRow.laid) #[.slice none 0 0,.slice none 0 0] (World.laidAll_os _ _ _) (by kernel_rfl) (by kernel_rfl) (by kernel_rfl)
    (OpenSpec.preRow_of_cond 8 hx (by kernel_rfl) (fun k hk=>by cases hk;kernel_rfl) (by kernel_rfl) (buildComments_met os))) ?_
 intro W base args ds gs before hval0 hW _ hcond _ _ _ _
 have hval: ∀(j:Nat) t v,Tryz.f3.params[j]?=some t→args[j]?=some v→Value.okWide Tryz.prog W .any base t v:=hval0
 have hW':=hW
 obtain⟨p,q,hA0,hV,rfl,_,_⟩:=hW
 have hA:DataW.TrodAll enc Tryz.prog W 0 (fun _=>true) true Tryz.f3.params.toList args.toList ds p:=hA0
 rw[Tryz.params3]at hA hval
 obtain⟨v0,vs0,d0,ds0,p0,q0,hargs,rfl,rfl,h0,r0⟩:=trodAll_cons hA
 obtain⟨v1,vs1,d1,ds1,p1,q1,rfl,rfl,rfl,h1,r1⟩:=trodAll_cons r0
 obtain⟨rfl,rfl,rfl⟩:=trodAll_nil r1
 obtain rfl:args= #[v0,v1]:=by cases args;simp_all
 have hk:=hcond _ rfl
 obtain⟨a0,c0,l0,hv0,hl0,hz0,ha0,hm0,ht0⟩:=open_marks (hval 0 22 v0 rfl rfl) h0 (by simp) hk
 subst hv0
 obtain⟨a1',n1',c1',rfl⟩:=okWide_slice Tryz.underlying23 (hval 1 23 v1 rfl rfl)
 have hn1:=Bulk.slice_short Tryz.underlying23 h1 (by simp) hk
 obtain⟨f1,hf1⟩:=h1
 obtain⟨a1,c1,l1,hv1,hl1,hc1,hz1,ha1⟩:=open_intl Tryz.underlying23 Tryz.underlying3 (by kernel_rfl) (by simpa[Value.cells] using hf1)
 simp only[Value.slice.injEq]at hv1
 obtain⟨rfl,rfl,rfl⟩:=hv1
 clear hA0 hval0
 refine(lawBuildComments l0 a0 c0 l1 a1' c1' W hl0 ha0 hm0 ht0 hn1 ha1).mono fun e W' ⟨he,hb⟩=> ?_
 subst he
 exact⟨_,rfl,law_post hW' rfl (by kernel_rfl) Tryz.underlying4 rfl buildComments_laid_out buildComments_types hb⟩
theorem buildComments_said:Rows.BuildCommentsUptoSaid :=
 OpenClaim.holds_of_cond 3 Tryz.f3 rfl rfl rfl rfl rfl rfl rfl ⟨rfl,rfl,rfl,rfl,rfl⟩ rfl rfl rfl rfl rfl (by kernel_rfl) Tryz.func3 (by kernel_rfl)
  (of_decide_eq_true (by kernel_rfl)) (by unfold Func.isWrapper;first|(rw[if_pos (by decide +kernel)];kernel_rfl)|(rw[if_neg (by decide +kernel)];exact⟨rfl,rfl⟩))
  (fun os started H enc _ F=>by rw[OpenClaim.pre_eq_preRow];exact buildComments_lifted os started H enc F)
theorem buildComments_plain (f:FuncId) (fn:Func) (hf:Tryz.pinned.checked.prog.funcNamed "colander/colanderlaw17.BuildComments" =some f) (hfn:Tryz.pinned.checked.prog.funcs[f]?=some fn) :
 false=Tryz.pinned.checked.prog.looks []∧ ∀(j:Nat) t,fn.params[j]?=some t→Tryz.pinned.checked.prog.wantsStandIn t=false:=by
 obtain rfl:f=3:=Option.some.inj ((show Tryz.prog.funcNamed "colander/colanderlaw17.BuildComments" =some 3 by kernel_rfl).symm.trans hf) |>.symm
 obtain rfl:fn=Tryz.f3:=(Option.some.inj (Tryz.func3.symm.trans hfn)).symm
 refine⟨by kernel_rfl,fun j t ht=> ?_⟩
 rw[Tryz.params3]at ht
 have hm:t∈ [22,23]:=by simpa using Array.mem_of_getElem? ht
 have hall:([22,23].all fun u=> !Tryz.prog.wantsStandIn u)=true:=by kernel_rfl
 exact(show Tryz.prog.wantsStandIn t=false by simpa using List.all_eq_true.1 hall t hm)
theorem buildComments_holds:Rows.BuildCommentsUptoCardSaid :=
 Claim7.holds_tied_plain_at .later [] _ _ _ _ buildComments_said (fun _ h=>by cases h) (by kernel_rfl) (fun _ h=>by cases h) buildCommentsUpto_row_tie rfl ⟨rfl,rfl⟩ (by kernel_rfl) rfl buildComments_plain (by kernel_rfl)
#print axioms buildComments_holds
end Go.Proofs.YteckmpcgdgknoaaGreatDoor
