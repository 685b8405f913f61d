/-
  The last step of a law. No conditions beyond those that each lemma types.
-/
import Derived.Test.YteckmpcgdgknoaaGreatDoorQ42
set_option linter.unusedVariables false
set_option linter.unusedSimpArgs false
namespace Go.Proofs.YteckmpcgdgknoaaGreatDoor.Law
open Go Go.RowKit Go.ChangeShapes Go.WideShapes Go.ChangeAt Mem
section
variable {H:Type} {enc:TypeId×Value→H} {P:Program} {w:World} {base:Nat} {spare:Nat→Bool} {held:Bool}
theorem strs_of {T:TypeId} (hT:P.underlying T=some .string): ∀(E:List (List Value)),(∀u∈E,u.length=1∧ ∃n y,DataW.trod enc P w base spare held n T u=some y) →
 ∃l:List ByteArray,E.flatten=strsV l∧l.length=E.length∧ ∀s∈l,s.size≤maxLen
 | [],_=>⟨[],rfl,rfl,fun _ h=>by cases h⟩
 |u::E,h=>by
  obtain⟨l,hl,hn,hs⟩:=strs_of hT E fun v hv=>h v (List.mem_cons_of_mem _ hv)
  obtain⟨_,n,y,hy⟩:=h u List.mem_cons_self
  obtain⟨s,rfl,_,hsz⟩:=DataW.trod_string hT hy
  exact⟨s::l,by rw[List.flatten_cons,hl];rfl,by simp[hn],fun z hz=>by
   rcases List.mem_cons.1 hz with rfl|hz
   ·exact hsz
   ·exact hs z hz⟩
theorem open_strs {t e:TypeId} {fuel:Nat} {v:Value} {x:DataW H×List MemPlace} (ht:P.underlying t=some (.slice e)) (hT:P.underlying e=some .string) (hC:P.cellsOf e=1) (h:DataW.trod enc P w base spare held fuel t [v]=some x) :
 ∃(a:Option Addr) (c:Nat) (l:List ByteArray),v= .slice a l.length c∧l.length≤c∧c≤maxLen∧(a=none→c=0)∧At w a (strsV l)∧ ∀s∈l,s.size≤maxLen:=by
 obtain⟨a,c,E,hv,h1,h2,h3,h4,h5⟩:=slice_cells ht h
 rw[hC]at h5
 obtain⟨l,hl,hn,hs⟩:=strs_of hT E h5
 simp only[List.cons.injEq,and_true]at hv
 rw[hl]at h4
 rw[←hn]at hv h1
 exact⟨a,c,l,hv,h1,h2,h3,h4,hs⟩
theorem agg_cells {r:Reach} {b0:Nat} {t:TypeId} {fs:Array Field} {v:Value} {d:DataW H} {p:List MemPlace} (ht:P.underlying t=some (.struct fs)) (hv:Value.okWide P w r b0 t v) (h:DataW.Trod enc P w base spare held t v d p) :
 ∃cs:List Value,v= .agg cs.toArray∧cs.length=P.cellsOf t∧ ∃fuel x,DataW.trod enc P w base spare held fuel t cs=some x:=by
 obtain⟨cs,rfl,hsz⟩:=okWide_struct ht hv
 obtain⟨fuel,hf⟩:=h
 exact⟨cs.toList,by simp,by simpa using hsz,fuel,_,hf⟩
theorem trodAll_below (hl:laidOutB P=true) {W W':World} (hb:Below W.heap.size W W') :
 ∀ {ts:List TypeId} {vs:List Value} {ds:List (DataW H)} {p:List MemPlace},(∀t∈ts,P.readableRec t=true∧t<P.types.size)→(∀x∈p,x.block<W.heap.size) →
   DataW.TrodAll enc P W 0 (fun _=>true) true ts vs ds p→DataW.TrodAll enc P W' 0 (fun b=>decide (b<W.heap.size)) true ts vs ds p
 | [],_,_,_,_,_,h=>by
   obtain⟨rfl,rfl,rfl⟩:=trodAll_nil h
   exact trodAll_mk0
 |t::ts,_,_,_,hr,hp,h=>by
  obtain⟨v,vs,d,ds,a,b,rfl,rfl,rfl,h1,h2⟩:=trodAll_cons h
  have hrt:=hr t List.mem_cons_self
  exact⟨a,b,Below.trod hl hrt.1 hrt.2 h1 hb fun x hx=>hp x (List.mem_append_left _ hx),trodAll_below hl hb (fun q hq=>hr q (List.mem_cons_of_mem _ hq)) (fun x hx=>hp x (List.mem_append_right _ hx)) h2,rfl⟩
theorem law_post {f:Func} {s:ChangeSpec} {T:TypeId} {W W':World} {args:Array Value} {ds gs:List (DataW H)} {before:List MemPlace}
 (hW:DataW.Whole enc P f.params.toList s.vars false W args.toList ds gs before) (hvars:s.vars= []) (hres:f.resultTypes= #[T]) (hT:P.underlying T=some .bool)
 (hfn:s.fn H ds= {results:= [.lit (.bool true)],args:=ds})
 (hl:laidOutB P=true) (hr: ∀t∈f.params.toList,P.readableRec t=true∧t<P.types.size) (hb:Below W.heap.size W W') :
 s.post enc P f false true false false W args (.bool true) W':=by
 have hlt: ∀p∈before,p.block<W.heap.size:=fun p hp=>hW.lt p hp
 have hW2:=hW
 obtain⟨p,q,hA,hV,rfl,hz,hn⟩:=hW
 rw[hvars]at hV
 obtain⟨rfl,rfl⟩:=trodVars_none hV
 have hfn':s.fn H (ds++ [])= {results:= [.lit (.bool true)],args:=ds}:=by rw[List.append_nil];exact hfn
 refine⟨ds,[],p++ [],[],p,[],hW2,?_,?_,?_,hb.frame _,fun h=>by cases h⟩
 ·rw[hfn',hres]
  exact trodAll_cons_mk (shut_bool hT true) trodAll_mk0
 ·rw[hfn']
  exact trodAll_below hl hb hr (fun x hx=>hlt x (List.mem_append_left _ hx)) hA
 ·rw[hfn',hvars]
  exact rfl
end
end Go.Proofs.YteckmpcgdgknoaaGreatDoor.Law
