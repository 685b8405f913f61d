/-
  The law BuildFrame returns true for every input within the bound, its card. Conditions: none beyond the statement's own.
-/
import Derived.Test.YtnlbcifhedjbfaaGreatDoorU24
import Derived.Test.YtnlbcifhedjbfaaGreatDoorU25
import Derived.Deep.DeepHandedRow
import Derived.LaidMore
import Derived.Lay
import Derived.OpenShut
import Derived.ProofKit
import Derived.SevenTiedAt
import Derived.Shelf.Vars
import Derived.Stop.Joined
import Derived.Test.YtnlbcifhedjbfaaGreatDoorCards
import Derived.Test.YtnlbcifhedjbfaaGreatDoorTie
set_option linter.unusedVariables false
set_option linter.unusedSimpArgs false
set_option maxRecDepth 100000
set_option maxHeartbeats 8000000
open Go.Proofs.Tryz
namespace Go.Proofs.YtnlbcifhedjbfaaGreatDoor
open Go.ChangeShapes Go.WideShapes Go.ChangeAt Go.RowKit
open Go.ChangeMaps (open_string)
open Mem Law
theorem NI:ownKnob prog.godebug=none:=by kernel_rfl
theorem DR:laidOutB prog=true:=by kernel_rfl
theorem Jr: ∀t∈Tryz.f3.params.toList,prog.readableRec t=true/\t<prog.types.size:=by
 have h:(Tryz.f3.params.toList.all λt=>prog.readableRec t&&decide (t<prog.types.size))=true:=by kernel_rfl
 intro t ht;have:=qF.1 h t ht;simpa using this
theorem Js (os:Os) {H:Type} (enc:TypeId×ak->H): ∃places,DataW.whole enc prog ((World.laidAll prog os Rows.buildFrameRow.laid).forCall (λ_ _=>0) ⟨#[],#[.string .empty],[]⟩).memory Tryz.f3.params.toList Rows.buildFrameSpec.vars false (#[.string .empty]:Array ak).toList 8=some ([.lit (.string [])],[],places) :=
 ⟨[],by kernel_rfl⟩
theorem NJ (os:Os):laidMetH prog Rows.buildFrameRow.laid (((World.laidAll prog os Rows.buildFrameRow.laid).forCall (λ_ _=>0) ⟨#[],#[.string .empty],[]⟩).memory):=by
 rw[MakeChecks.laidMetH_plain _ _ _ (by kernel_rfl)];exact laidMet_laidAll _ (by kernel_rfl) (by kernel_rfl)
theorem G7 (os:Os) (started:os.Started) (H:Type) (enc:TypeId×ak->H) (F:Stop.Interp) :
 ReturnsInHanded {} Tryz.checked os 3 .any ((Rows.OpenSpec.upto Rows.buildFrameSpec).preRow enc prog Tryz.f3 Rows.buildFrameUptoRow.domain false Rows.buildFrameUptoRow.laid) (((Rows.OpenSpec.upto Rows.buildFrameSpec).at F).post enc prog Tryz.f3 false true false false):=by
 obtain⟨places,hx⟩:=Js os enc
 refine returnsInHanded_of_row (C:=Tryz.checked) (s:=Rows.OpenSpec.upto Rows.buildFrameSpec) NI started (by kernel_rfl) func3
  (witness_row_at (enc:=enc) (C:=Tryz.checked) false (World.laidAll prog os Rows.buildFrameRow.laid) #[.string .empty] (World.laidAll_os _ _ _) (by kernel_rfl) (by kernel_rfl) (by kernel_rfl)
    (OpenSpec.preRow_of_cond 8 hx (by kernel_rfl) (λk hk=>by cases hk;kernel_rfl) (by kernel_rfl) (NJ os))) ?_
 intro W base args ds gs before hval0 hW _ hcond _ _ hshape _;have hval: ∀(j:Nat) t v,Tryz.f3.params[j]?=some t->args[j]?=some v->Value.okWide prog W .any base t v:=hval0;have hW':=hW;obtain⟨p,q,hA0,hV,rfl,_,_⟩:=hW;have hA:DataW.TrodAll enc prog W 0 (λ_=>true) true Tryz.f3.params.toList args.toList ds p:=hA0;rw[Tryz.params3]at hA hval;obtain⟨v0,vs0,d0,ds0,p0,q0,hargs,rfl,rfl,h0,r0⟩:=trodAll_cons hA;obtain⟨rfl,rfl,rfl⟩:=trodAll_nil r0;obtain rfl:args= #[v0]:=by cases args;simp_all
 have hk:=hcond _ rfl;obtain⟨x0,rfl,rfl,rfl,w0⟩:=open_string jK (hval 0 9 v0 rfl rfl) h0;clear hA0 hval0;obtain⟨mx,hmx⟩: ∃m,W.cell? ⟨0,0,none⟩=some (.int .i64 m):=Go.Proofs.cell_of_shapedOpen_int (zero:= #[.int .i64 0]) (t:=3) hshape (zX (by kernel_rfl)) (by kernel_rfl) rfl (by kernel_rfl) (by kernel_rfl) qD;refine(Ot x0 W (Bulk.Rh (by simp) hk) mx hmx).mono λe W' ⟨he,hb⟩=> ?_
 subst he;exact⟨_,rfl,afu hW' rfl (by kernel_rfl) rA rfl DR Jr hb⟩
theorem Ko:Rows.BuildFrameUptoSaid :=
 OpenClaim.holds_of_cond 3 Tryz.f3 rfl rfl rfl rfl rfl rfl rfl ⟨rfl,rfl,rfl,rfl,rfl⟩ rfl rfl rfl rfl rfl (by kernel_rfl) func3 (by kernel_rfl)
  (zX (by kernel_rfl)) (by unfold Func.isWrapper;first|(rw[au (by decide +kernel)];kernel_rfl)|(rw[aj (by decide +kernel)];exact⟨rfl,rfl⟩))
  (λos started H enc _ F=>by rw[OpenClaim.pre_eq_preRow];exact G7 os started H enc F)
theorem Jt (f:FuncId) (fn:Func) (hf:Tryz.pinned.checked.prog.funcNamed "colander/colanderlaw17.BuildFrame" =some f) (hfn:Tryz.pinned.checked.prog.funcs[f]?=some fn) :
 false=Tryz.pinned.checked.prog.looks []/\ ∀(j:Nat) t,fn.params[j]?=some t->Tryz.pinned.checked.prog.wantsStandIn t=false:=by
 obtain rfl:f=3:=Il ((show prog.funcNamed "colander/colanderlaw17.BuildFrame" =some 3 by kernel_rfl).symm.trans hf) |>.symm;obtain rfl:fn=Tryz.f3:=(Il (func3.symm.trans hfn)).symm;refine⟨by kernel_rfl,λj t ht=> ?_⟩;rw[Tryz.params3]at ht;have hm:t∈ [9]:=by simpa using Array.mem_of_getElem? ht
 have hall:([9].all λu=> !prog.wantsStandIn u)=true:=by kernel_rfl
 exact(show prog.wantsStandIn t=false by simpa using qF.1 hall t hm)
theorem buildFrame_holds:Rows.BuildFrameUptoCardSaid :=
 Claim7.holds_tied_plain_at .later [] _ _ _ _ Ko (λ_ h=>by cases h) (by kernel_rfl) (λ_ h=>by cases h) buildFrameUpto_row_tie rfl ⟨rfl,rfl⟩ (by kernel_rfl) rfl Jt (by kernel_rfl)
#print axioms buildFrame_holds
end Go.Proofs.YtnlbcifhedjbfaaGreatDoor
