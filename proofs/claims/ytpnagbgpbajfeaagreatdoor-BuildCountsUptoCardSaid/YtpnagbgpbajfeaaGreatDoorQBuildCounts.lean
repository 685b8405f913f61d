/-
  The law BuildCounts returns true for every input within the bound, its card. Conditions: none beyond the statement's own.
-/
import Derived.Test.YtpnagbgpbajfeaaGreatDoorQ47
import Derived.Test.YtpnagbgpbajfeaaGreatDoorQ48
import Derived.Test.YtpnagbgpbajfeaaGreatDoorQ49
import Derived.Deep.DeepHandedRow
import Derived.LaidMore
import Derived.Lay
import Derived.OpenShut
import Derived.ProofKit
import Derived.SevenTiedAt
import Derived.Shelf.Vars
import Derived.Stop.Joined
import Derived.Test.YtpnagbgpbajfeaaGreatDoorCards
import Derived.Test.YtpnagbgpbajfeaaGreatDoorTie
set_option linter.unusedVariables false
set_option linter.unusedSimpArgs false
set_option maxRecDepth 100000
set_option maxHeartbeats 8000000
namespace Go.Proofs.YtpnagbgpbajfeaaGreatDoor
open Go.ChangeShapes Go.WideShapes Go.ChangeAt Go.RowKit
open Go.ChangeMaps (open_string)
open Mem Law
theorem buildCounts_own:ownKnob Tryz.prog.godebug=none:=by kernel_rfl
theorem buildCounts_laid_out:laidOutB Tryz.prog=true:=by kernel_rfl
theorem buildCounts_types: ∀t∈Tryz.f3.params.toList,Tryz.prog.readableRec t=true∧t<Tryz.prog.types.size:=by
 have h:(Tryz.f3.params.toList.all fun t=>Tryz.prog.readableRec t&&decide (t<Tryz.prog.types.size))=true:=by kernel_rfl
 intro t ht
 have:=List.all_eq_true.1 h t ht
 simpa using this
theorem buildCounts_reads (os:Os) {H:Type} (enc:TypeId×Value→H): ∃places,DataW.whole enc Tryz.prog ((World.laidAll Tryz.prog os Rows.buildCountsRow.laid).forCall (fun _ _=>0) ⟨#[],#[.agg #[.int .i64 0,.int .i64 0,.string .empty,.slice none 0 0,.string .empty,.slice none 0 0],.agg #[.int .i64 0,.int .i64 0,.string .empty,.slice none 0 0,.string .empty,.slice none 0 0]],[]⟩).memory Tryz.f3.params.toList Rows.buildCountsSpec.vars false (#[.agg #[.int .i64 0,.int .i64 0,.string .empty,.slice none 0 0,.string .empty,.slice none 0 0],.agg #[.int .i64 0,.int .i64 0,.string .empty,.slice none 0 0,.string .empty,.slice none 0 0]]:Array Value).toList 8=some ([.agg [.lit (.int .i64 0),.lit (.int .i64 0),.lit (.string []),.nil,.lit (.string []),.nil],.agg [.lit (.int .i64 0),.lit (.int .i64 0),.lit (.string []),.nil,.lit (.string []),.nil]],[],places) :=
 ⟨[],by kernel_rfl⟩
theorem buildCounts_met (os:Os):laidMetH Tryz.prog Rows.buildCountsRow.laid (((World.laidAll Tryz.prog os Rows.buildCountsRow.laid).forCall (fun _ _=>0) ⟨#[],#[.agg #[.int .i64 0,.int .i64 0,.string .empty,.slice none 0 0,.string .empty,.slice none 0 0],.agg #[.int .i64 0,.int .i64 0,.string .empty,.slice none 0 0,.string .empty,.slice none 0 0]],[]⟩).memory):=by
 rw[MakeChecks.laidMetH_plain _ _ _ (by kernel_rfl)]
 exact laidMet_laidAll _ (by kernel_rfl) (by kernel_rfl)
theorem buildCounts_lifted (os:Os) (started:os.Started) (H:Type) (enc:TypeId×Value→H) (F:Stop.Interp) :
 ReturnsInHanded {} Tryz.checked os 3 .any ((Rows.OpenSpec.upto Rows.buildCountsSpec).preRow enc Tryz.prog Tryz.f3 Rows.buildCountsUptoRow.domain false Rows.buildCountsUptoRow.laid) (((Rows.OpenSpec.upto Rows.buildCountsSpec).at F).post enc Tryz.prog Tryz.f3 false true false false):=by
 obtain⟨places,hx⟩:=buildCounts_reads os enc
 refine returnsInHanded_of_row (C:=Tryz.checked) (s:=Rows.OpenSpec.upto Rows.buildCountsSpec) buildCounts_own started (by kernel_rfl) Tryz.func3
  (witness_row_at (enc:=enc) (C:=Tryz.checked) false (World.laidAll Tryz.prog os Rows.buildCountsRow.laid) #[.agg #[.int .i64 0,.int .i64 0,.string .empty,.slice none 0 0,.string .empty,.slice none 0 0],.agg #[.int .i64 0,.int .i64 0,.string .empty,.slice none 0 0,.string .empty,.slice none 0 0]] (World.laidAll_os _ _ _) (by kernel_rfl) (by kernel_rfl) (by kernel_rfl)
    (OpenSpec.preRow_of_cond 8 hx (by kernel_rfl) (fun k hk=>by cases hk;kernel_rfl) (by kernel_rfl) (buildCounts_met os))) ?_
 intro W base args ds gs before hval0 hW _ hcond _ _ _ _
 have hval: ∀(j:Nat) t v,Tryz.f3.params[j]?=some t→args[j]?=some v→Value.okWide Tryz.prog W .any base t v:=hval0
 have hW':=hW
 obtain⟨p,q,hA0,hV,rfl,_,_⟩:=hW
 have hA:DataW.TrodAll enc Tryz.prog W 0 (fun _=>true) true Tryz.f3.params.toList args.toList ds p:=hA0
 rw[Tryz.params3]at hA hval
 obtain⟨v0,vs0,d0,ds0,p0,q0,hargs,rfl,rfl,h0,r0⟩:=trodAll_cons hA
 obtain⟨v1,vs1,d1,ds1,p1,q1,rfl,rfl,rfl,h1,r1⟩:=trodAll_cons r0
 obtain⟨rfl,rfl,rfl⟩:=trodAll_nil r1
 obtain rfl:args= #[v0,v1]:=by cases args;simp_all
 obtain⟨a0a,a0b,a0c,a0d,a0e,a0f,a0g,a0h,a0i,a0j,n0,hv0,hn0,hc0⟩:=open_node (hval 0 25 v0 rfl rfl) h0
 subst hv0
 obtain⟨a1a,a1b,a1c,a1d,a1e,a1f,a1g,a1h,a1i,a1j,n1,hv1,hn1,hc1⟩:=open_node (hval 1 25 v1 rfl rfl) h1
 subst hv1
 have hsm:=Bulk.small_le (hcond _ rfl)
 simp only[List.nil_append,List.cons_append,Rows.uptoBulkAll]at hsm
 clear hA0 hval0
 refine(lawBuildCounts n0 a0a a0b a0c a0d a0e a0f a0g a0h a0i a0j n1 a1a a1b a1c a1d a1e a1f a1g a1h a1i a1j W hn0 (by omega) hn1 (by omega)).mono fun e W' ⟨he,hb⟩=> ?_
 subst he
 exact⟨_,rfl,law_post hW' rfl (by kernel_rfl) Tryz.underlying4 rfl buildCounts_laid_out buildCounts_types hb⟩
theorem buildCounts_said:Rows.BuildCountsUptoSaid :=
 OpenClaim.holds_of_cond 3 Tryz.f3 rfl rfl rfl rfl rfl rfl rfl ⟨rfl,rfl,rfl,rfl,rfl⟩ rfl rfl rfl rfl rfl (by kernel_rfl) Tryz.func3 (by kernel_rfl)
  (of_decide_eq_true (by kernel_rfl)) (by unfold Func.isWrapper;first|(rw[if_pos (by decide +kernel)];kernel_rfl)|(rw[if_neg (by decide +kernel)];exact⟨rfl,rfl⟩))
  (fun os started H enc _ F=>by rw[OpenClaim.pre_eq_preRow];exact buildCounts_lifted os started H enc F)
theorem buildCounts_plain (f:FuncId) (fn:Func) (hf:Tryz.pinned.checked.prog.funcNamed "colander/colanderlaw17.BuildCounts" =some f) (hfn:Tryz.pinned.checked.prog.funcs[f]?=some fn) :
 false=Tryz.pinned.checked.prog.looks []∧ ∀(j:Nat) t,fn.params[j]?=some t→Tryz.pinned.checked.prog.wantsStandIn t=false:=by
 obtain rfl:f=3:=Option.some.inj ((show Tryz.prog.funcNamed "colander/colanderlaw17.BuildCounts" =some 3 by kernel_rfl).symm.trans hf) |>.symm
 obtain rfl:fn=Tryz.f3:=(Option.some.inj (Tryz.func3.symm.trans hfn)).symm
 refine⟨by kernel_rfl,fun j t ht=> ?_⟩
 rw[Tryz.params3]at ht
 have hm:t∈ [25,25]:=by simpa using Array.mem_of_getElem? ht
 have hall:([25,25].all fun u=> !Tryz.prog.wantsStandIn u)=true:=by kernel_rfl
 exact(show Tryz.prog.wantsStandIn t=false by simpa using List.all_eq_true.1 hall t hm)
theorem buildCounts_holds:Rows.BuildCountsUptoCardSaid :=
 Claim7.holds_tied_plain_at .later [] _ _ _ _ buildCounts_said (fun _ h=>by cases h) (by kernel_rfl) (fun _ h=>by cases h) buildCountsUpto_row_tie rfl ⟨rfl,rfl⟩ (by kernel_rfl) rfl buildCounts_plain (by kernel_rfl)
#print axioms buildCounts_holds
end Go.Proofs.YtpnagbgpbajfeaaGreatDoor
