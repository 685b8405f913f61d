/- Texts joined for a claim: Law, Bulk: plain laws and contracts. No conditions beyond those that each lemma types. -/
import Derived.Test.YtgepobccoffnaaaGreatDoorQ01
import Derived.Deep.Slices
import Derived.JoinedCond
import Derived.OpenShut
import Derived.ProofKit
import Derived.Test.YtgepobccoffnaaaGreatDoorRows
set_option linter.unusedVariables false
set_option linter.unusedSimpArgs false
section
namespace Go.Proofs.YtgepobccoffnaaaGreatDoor.Law
open Go Go.RowKit Go.ChangeShapes Go.WideShapes Go.ChangeAt Mem
section
variable {H:Type} {enc:TypeId×Value→H} {P:Program} {w:World} {base:Nat} {spare:Nat→Bool} {held:Bool}
theorem trodAll_below (hl:laidOutB P=true) {W W':World} (hb:Below W.heap.size W W') :
 ∀ {ts:List TypeId} {vs:List Value} {ds:List (DataW H)} {p:List MemPlace},(∀t∈ts,P.readableRec t=true∧t<P.types.size)→(∀x∈p,x.block<W.heap.size) →
   DataW.TrodAll enc P W 0 (fun _=>true) true ts vs ds p→DataW.TrodAll enc P W' 0 (fun b=>decide (b<W.heap.size)) true ts vs ds p
 | [],_,_,_,_,_,h=>by
   obtain⟨rfl,rfl,rfl⟩:=trodAll_nil h
   exact trodAll_mk0
 |t::ts,_,_,_,hr,hp,h=>by
  obtain⟨v,vs,d,ds,a,b,rfl,rfl,rfl,h1,h2⟩:=trodAll_cons h
  have hrt:=hr t List.mem_cons_self
  exact⟨a,b,Below.trod hl hrt.1 hrt.2 h1 hb fun x hx=>hp x (List.mem_append_left _ hx),trodAll_below hl hb (fun q hq=>hr q (List.mem_cons_of_mem _ hq)) (fun x hx=>hp x (List.mem_append_right _ hx)) h2,rfl⟩
theorem law_post {f:Func} {s:ChangeSpec} {T:TypeId} {W W':World} {args:Array Value} {ds gs:List (DataW H)} {before:List MemPlace}
 (hW:DataW.Whole enc P f.params.toList s.vars false W args.toList ds gs before) (hvars:s.vars= []) (hres:f.resultTypes= #[T]) (hT:P.underlying T=some .bool)
 (hfn:s.fn H ds= {results:= [.lit (.bool true)],args:=ds})
 (hl:laidOutB P=true) (hr: ∀t∈f.params.toList,P.readableRec t=true∧t<P.types.size) (hb:Below W.heap.size W W') :
 s.post enc P f false true false false W args (.bool true) W':=by
 have hlt: ∀p∈before,p.block<W.heap.size:=fun p hp=>hW.lt p hp
 have hW2:=hW
 obtain⟨p,q,hA,hV,rfl,hz,hn⟩:=hW
 rw[hvars]at hV
 obtain⟨rfl,rfl⟩:=trodVars_none hV
 have hfn':s.fn H (ds++ [])= {results:= [.lit (.bool true)],args:=ds}:=by rw[List.append_nil];exact hfn
 refine⟨ds,[],p++ [],[],p,[],hW2,?_,?_,?_,hb.frame _,fun h=>by cases h⟩
 ·rw[hfn',hres]
  exact trodAll_cons_mk (shut_bool hT true) trodAll_mk0
 ·rw[hfn']
  exact trodAll_below hl hb hr (fun x hx=>hlt x (List.mem_append_left _ hx)) hA
 ·rw[hfn',hvars]
  exact rfl
end
end Go.Proofs.YtgepobccoffnaaaGreatDoor.Law
end
section
namespace Go.Proofs.YtgepobccoffnaaaGreatDoor.Bulk
open Go Go.RowKit Go.ChangeShapes Go.WideShapes Go.ChangeAt Mem Law
theorem mem_le {H:Type} {d:DataW H}: ∀ {l:List (DataW H)},d∈l→Rows.uptoBulk d≤Rows.uptoBulkAll l
 | [],h=>by cases h
 |x::r,h=>by
  simp only[Rows.uptoBulkAll]
  rcases List.mem_cons.1 h with rfl|h
  ·omega
  ·have:=mem_le h;omega
theorem small_le {H:Type} {ds:List (DataW H)} (hk:Rows.uptoSmall H ds=true):Rows.uptoBulkAll ds≤1048576:=of_decide_eq_true hk
theorem string_short {H:Type} {x:ByteArray} {ds:List (DataW H)} (hd:DataW.lit (.string x.data.toList)∈ds) (hk:Rows.uptoSmall H ds=true):x.size≤1048576:=by
 have hb:=Nat.le_trans (mem_le hd) (small_le hk)
 have:x.data.toList.length=x.size:=rfl
 simp only[Rows.uptoBulk]at hb
 omega
end Go.Proofs.YtgepobccoffnaaaGreatDoor.Bulk
end
