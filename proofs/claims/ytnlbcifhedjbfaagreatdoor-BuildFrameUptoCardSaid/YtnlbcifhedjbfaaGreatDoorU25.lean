/- oZ joined for a claim: Law, Bulk: plain laws and contracts. No conditions beyond those that each lemma types. -/
import Derived.Test.YtnlbcifhedjbfaaGreatDoorU01
import Derived.Deep.Slices
import Derived.JoinedCond
import Derived.OpenShut
import Derived.ProofKit
import Derived.Test.YtnlbcifhedjbfaaGreatDoorRows
set_option linter.unusedVariables false
set_option linter.unusedSimpArgs false
section
namespace Go.Proofs.YtnlbcifhedjbfaaGreatDoor.Law
open Go Go.RowKit Go.ChangeShapes Go.WideShapes Go.ChangeAt Mem
section
variable {H:Type} {enc:TypeId×ak->H} {P:Program} {w:af} {base:Nat} {spare:Nat->Bool} {held:Bool}
theorem DW (hl:laidOutB P=true) {W W':af} (hb:Below W.heap.size W W') :
 ∀ {ts:List TypeId} {vs:List ak} {ds:List (DataW H)} {p:List MemPlace},(∀t∈ts,P.readableRec t=true/\t<P.types.size)->(∀x∈p,x.block<W.heap.size) ->
   DataW.TrodAll enc P W 0 (λ_=>true) true ts vs ds p->DataW.TrodAll enc P W' 0 (λb=>decide (b<W.heap.size)) true ts vs ds p
 | [],_,_,_,_,_,h=>by
   obtain⟨rfl,rfl,rfl⟩:=trodAll_nil h;exact trodAll_mk0
 |t::ts,_,_,_,hr,hp,h=>by
  obtain⟨v,vs,d,ds,a,b,rfl,rfl,rfl,h1,h2⟩:=trodAll_cons h;have hrt:=hr t dR;exact⟨a,b,Below.trod hl hrt.1 hrt.2 h1 hb λx hx=>hp x (sQ _ hx),DW hl hb (λq hq=>hr q (gm _ hq)) (λx hx=>hp x (xf _ hx)) h2,rfl⟩
theorem afu {f:Func} {s:ChangeSpec} {T:TypeId} {W W':af} {args:Array ak} {ds gs:List (DataW H)} {before:List MemPlace}
 (hW:DataW.Whole enc P f.params.toList s.vars false W args.toList ds gs before) (hvars:s.vars= []) (hres:f.resultTypes= #[T]) (hT:P.underlying T=some .bool)
 (hfn:s.fn H ds= {results:= [.lit (.bool true)],args:=ds})
 (hl:laidOutB P=true) (hr: ∀t∈f.params.toList,P.readableRec t=true/\t<P.types.size) (hb:Below W.heap.size W W') :
 s.post enc P f false true false false W args (.bool true) W':=by
 have hlt: ∀p∈before,p.block<W.heap.size:=λp hp=>hW.lt p hp
 have hW2:=hW;obtain⟨p,q,hA,hV,rfl,hz,hn⟩:=hW;rw[hvars]at hV;obtain⟨rfl,rfl⟩:=trodVars_none hV;have hfn':s.fn H (ds++ [])= {results:= [.lit (.bool true)],args:=ds}:=by rw[kI];exact hfn
 refine⟨ds,[],p++ [],[],p,[],hW2,?_,?_,?_,hb.frame _,λh=>by cases h⟩
 ·rw[hfn',hres];exact trodAll_cons_mk (shut_bool hT true) trodAll_mk0
 ·rw[hfn'];exact DW hl hb hr (λx hx=>hlt x (sQ _ hx)) hA
 ·rw[hfn',hvars];exact rfl
end
end Go.Proofs.YtnlbcifhedjbfaaGreatDoor.Law
end
section
namespace Go.Proofs.YtnlbcifhedjbfaaGreatDoor.Bulk
open Go Go.RowKit Go.ChangeShapes Go.WideShapes Go.ChangeAt Mem Law
theorem ae7 {H:Type} {d:DataW H}: ∀ {l:List (DataW H)},d∈l->Rows.uptoBulk d<=Rows.uptoBulkAll l
 | [],h=>by cases h
 |x::r,h=>by
  simp only[Rows.uptoBulkAll];rcases dS.1 h with rfl|h
  ·omega
  ·have:=ae7 h;omega
theorem aej {H:Type} {ds:List (DataW H)} (hk:Rows.uptoSmall H ds=true):Rows.uptoBulkAll ds<=1048576:=zX hk
theorem Rh {H:Type} {x:ae} {ds:List (DataW H)} (hd:DataW.lit (.string x.data.toList)∈ds) (hk:Rows.uptoSmall H ds=true):x.size<=1048576:=by
 have hb:=bY (ae7 hd) (aej hk);have:x.data.toList.length=x.size:=rfl;simp only[Rows.uptoBulk]at hb;omega
end Go.Proofs.YtnlbcifhedjbfaaGreatDoor.Bulk
end
