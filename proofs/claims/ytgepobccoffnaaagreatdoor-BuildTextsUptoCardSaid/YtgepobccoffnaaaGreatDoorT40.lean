/- Texts joined for a claim: Law, Bulk, LawA: plain laws and contracts. No conditions beyond those that each lemma types. -/
import Derived.Test.YtgepobccoffnaaaGreatDoorT01
import Derived.Deep.Slices
import Derived.JoinedCond
import Derived.OpenShut
import Derived.ProofKit
import Derived.Test.YtgepobccoffnaaaGreatDoorRows
set_option linter.unusedVariables false
set_option linter.unusedSimpArgs false
section
namespace Go.Proofs.YtgepobccoffnaaaGreatDoor.Law
open Go Go.RowKit Go.ChangeShapes Go.WideShapes Go.ChangeAt Mem
section
variable {H:Type} {enc:TypeId×Value→H} {P:Program} {w:World} {base:Nat} {spare:Nat→Bool} {held:Bool}
theorem slice_cells {t e:TypeId} {fuel:Nat} {cs:List Value} {x:DataW H×List MemPlace} (ht:P.underlying t=some (.slice e)) (h:DataW.trod enc P w base spare held fuel t cs=some x) :
 ∃(a:Option Addr) (cap:Nat) (E:List (List Value)),cs= [.slice a E.length cap]∧E.length≤cap∧cap≤maxLen∧(a=none→cap=0)∧At w a E.flatten ∧
  ∀u∈E,u.length=P.cellsOf e∧ ∃n y,DataW.trod enc P w base spare held n e u=some y:=by
 rcases Deep.open_slice ht h with⟨rfl,_⟩|⟨a,len,cap,m,n,D,Pl,rfl,_,hlc,hcm,hm,_,hel⟩
 ·exact⟨none,0,[],rfl,Nat.le_refl _,Nat.zero_le _,fun _=>rfl,by intro j u hj;simp at hj,fun u hu=>by cases hu⟩
 ·have hle:len≤m:=by rw[hm];split <;>omega
  obtain⟨E,hE⟩:=Deep.choose_lt (α:=List Value) (p:=fun i u=>w.cells? base (a.add (i*P.cellsOf e)) (P.cellsOf e)=some u∧DataW.trod enc P w base spare held n e u=some (D i,Pl i))
   (fun i (hi:i<len)=>by obtain⟨u,h1,h2⟩:=hel i (by omega);exact⟨u,h1,h2⟩)
  have hlen: ∀i,i<len→(E i).length=P.cellsOf e:=fun i hi=>(World.cells?_some (hE i hi).1).2.1
  have hat: ∀i,i<len→ ∀j,j<P.cellsOf e→w.cell? (a.add (i*P.cellsOf e+j))=(E i)[j]?:=fun i hi j hj=>by
   rw[←Deep.add_add];exact(World.cells?_some (hE i hi).1).2.2 j hj
  refine⟨some a,cap,(List.range len).map E,by simp,by simpa using hlc,hcm,(fun h=>by cases h),?_,?_⟩
  ·have key: ∀m,m≤len→ ∀j u,((List.range m).map E).flatten[j]?=some u→w.cell? (a.add j)=some u:=by
    intro m
    induction m with
    |zero=>intro _ j u hj;simp at hj
    |succ m ih =>
     intro hm j u hj
     have hfl: ∀q,q≤len→((List.range q).map E).flatten.length=q*P.cellsOf e:=by
      intro q
      induction q with
      |zero=>simp
      |succ q ihq =>
       intro hq
       rw[List.range_succ,List.map_append,List.flatten_append,List.length_append,ihq (by omega)]
       simp[hlen q (by omega),Nat.succ_mul]
     rw[List.range_succ,List.map_append,List.flatten_append]at hj
     rcases Nat.lt_or_ge j ((List.range m).map E).flatten.length with hlt|hge
     ·rw[List.getElem?_append_left hlt]at hj
      exact ih (by omega) j u hj
     ·rw[List.getElem?_append_right hge,hfl m (by omega)]at hj
      rw[hfl m (by omega)]at hge
      simp only[List.map_cons,List.map_nil,List.flatten_cons,List.flatten_nil,List.append_nil]at hj
      have hjl:j-m*P.cellsOf e<P.cellsOf e:=by
       have:=(List.getElem?_eq_some_iff.1 hj).1
       rwa [hlen m (by omega)]at this
      have h2:=hat m (by omega) _ hjl
      rw[show m*P.cellsOf e+(j-m*P.cellsOf e)=j from by omega]at h2
      rw[h2,hj]
   intro j u hj
   have hc:=key len (Nat.le_refl _) j u hj
   obtain⟨b,o,sp⟩:=a
   have hsp:sp=none:=by
    have h0: ∃u0,((List.range len).map E).flatten[0]?=some u0:=by
     have:=(List.getElem?_eq_some_iff.1 hj).1
     exact⟨_,List.getElem?_eq_getElem (by omega)⟩
    obtain⟨u0,h0⟩:=h0
    have hc0:=key len (Nat.le_refl _) 0 u0 h0
    simp only[Addr.add,if_true]at hc0
    cases sp with
    |none=>rfl
    |some q =>
     simp only[World.cell?]at hc0
     split at hc0 <;>simp at hc0
   subst hsp
   refine⟨b,o,rfl,?_⟩
   rw[←hc]
   unfold Addr.add
   split
   ·rename_i h0;subst h0;rfl
   ·rfl
  ·intro u hu
   obtain⟨i,hi,rfl⟩:=List.mem_map.1 hu
   have hi':i<len:=by simpa using hi
   exact⟨hlen i hi',n,_,(hE i hi').2⟩
theorem struct_cells {t:TypeId} {fs:Array Field} {Ts:List TypeId} {fuel:Nat} {cs:List Value} {x:DataW H×List MemPlace} (ht:P.underlying t=some (.struct fs))
 (hf:fs.toList.map (fun f=>(f.type,f.offset,P.cellsOf f.type))=Ts.zipIdx.map fun p=>(p.1,p.2,1)) (h:DataW.trod enc P w base spare held fuel t cs=some x) :
 ∀(i:Nat) (T:TypeId),Ts[i]?=some T→i<cs.length→ ∃n v y,cs[i]?=some v∧DataW.trod enc P w base spare held n T [v]=some y:=by
 obtain⟨xs,n,_,_,_,hlen,hx⟩:=DataW.trod_struct ht h
 intro i T hT hi
 have hfi:(fs.toList.map (fun f=>(f.type,f.offset,P.cellsOf f.type)))[i]?=some (T,i,1):=by
  rw[hf];simp[List.getElem?_zipIdx,hT]
 rw[List.getElem?_map]at hfi
 cases hg:fs.toList[i]? with
 |none=>rw[hg]at hfi;simp at hfi
 |some f =>
  rw[hg]at hfi
  simp only[Option.map_some,Option.some.injEq,Prod.mk.injEq]at hfi
  obtain⟨h1,h2,h3⟩:=hfi
  have hlt:i<fs.size:=by
   have:=(List.getElem?_eq_some_iff.1 hg).1
   simpa using this
  have hy:=hx i f (by simpa using hg)
  rw[h1]at h3
  rw[h1,h2,h3,List.drop_eq_getElem_cons hi]at hy
  rw[List.getElem?_eq_getElem (by omega)]at hy
  exact⟨n,cs[i],_,List.getElem?_eq_getElem hi,hy⟩
theorem pairs_of {T e:TypeId} {fs:Array Field} (hT:P.underlying T=some .string) (ht:P.underlying e=some (.struct fs)) (hf:fs.toList.map (fun f=>(f.type,f.offset,P.cellsOf f.type))= [(T,0,1),(T,1,1)]) :
 ∀(E:List (List Value)),(∀u∈E,u.length=2∧ ∃n y,DataW.trod enc P w base spare held n e u=some y) →
 ∃l:List Pair,E.flatten=pairsV l∧l.length=E.length∧ ∀p∈l,p.1.size≤maxLen∧p.2.size≤maxLen
 | [],_=>⟨[],rfl,rfl,fun _ h=>by cases h⟩
 |u::E,h=>by
  obtain⟨l,hl,hn,hs⟩:=pairs_of hT ht hf E fun v hv=>h v (List.mem_cons_of_mem _ hv)
  obtain⟨h2,n,y,hy⟩:=h u List.mem_cons_self
  have hc:=struct_cells (Ts:= [T,T]) ht hf hy
  match u,h2 with
  | [v0,v1],_ =>
    obtain⟨n0,v,y0,hv,h0⟩:=hc 0 T rfl (by simp)
    simp only[List.getElem?_cons_zero,Option.some.injEq]at hv
    subst hv
    obtain⟨n1,v,y1,hv,h1⟩:=hc 1 T rfl (by simp)
    simp only[List.getElem?_cons_succ,List.getElem?_cons_zero,Option.some.injEq]at hv
    subst hv
    obtain⟨s,h0',_,hsz⟩:=DataW.trod_string hT h0
    obtain⟨s',h1',_,hsz'⟩:=DataW.trod_string hT h1
    simp only[List.cons.injEq,and_true]at h0' h1'
    subst h0' h1'
    exact⟨(s,s')::l,by rw[List.flatten_cons,hl];rfl,by simp[hn],fun z hz=>by
     rcases List.mem_cons.1 hz with rfl|hz
     ·exact⟨hsz,hsz'⟩
     ·exact hs z hz⟩
theorem open_pairs {T t e:TypeId} {fs:Array Field} {fuel:Nat} {v:Value} {x:DataW H×List MemPlace} (ht:P.underlying t=some (.slice e)) (hT:P.underlying T=some .string) (he:P.underlying e=some (.struct fs)) (hC:P.cellsOf e=2)
 (hf:fs.toList.map (fun f=>(f.type,f.offset,P.cellsOf f.type))= [(T,0,1),(T,1,1)]) (h:DataW.trod enc P w base spare held fuel t [v]=some x) :
 ∃(a:Option Addr) (c:Nat) (l:List Pair),v= .slice a l.length c∧l.length≤c∧c≤maxLen∧(a=none→c=0)∧At w a (pairsV l)∧ ∀p∈l,p.1.size≤maxLen∧p.2.size≤maxLen:=by
 obtain⟨a,c,E,hv,h1,h2,h3,h4,h5⟩:=slice_cells ht h
 rw[hC]at h5
 obtain⟨l,hl,hn,hs⟩:=pairs_of hT he hf E h5
 simp only[List.cons.injEq,and_true]at hv
 rw[hl]at h4
 rw[←hn]at hv h1
 exact⟨a,c,l,hv,h1,h2,h3,h4,hs⟩
theorem open_int1 {k:IntKind} {T:TypeId} {n:Nat} {v:Value} {y:DataW H×List MemPlace} (hT:P.underlying T=some (.int k)) (h:DataW.trod enc P w base spare held n T [v]=some y): ∃z,v= .int k z∧(Lit.int k z).wf=true:=by
 obtain⟨z,hv,_,hw⟩:=DataW.trod_int hT h
 simp only[List.cons.injEq,and_true]at hv
 exact⟨z,hv,hw⟩
theorem open_bool1 {T:TypeId} {n:Nat} {v:Value} {y:DataW H×List MemPlace} (hT:P.underlying T=some .bool) (h:DataW.trod enc P w base spare held n T [v]=some y): ∃z,v= .bool z:=by
 obtain⟨z,hv,_⟩:=DataW.trod_bool hT h
 simp only[List.cons.injEq,and_true]at hv
 exact⟨z,hv⟩
theorem open_string1 {T:TypeId} {n:Nat} {v:Value} {y:DataW H×List MemPlace} (hT:P.underlying T=some .string) (h:DataW.trod enc P w base spare held n T [v]=some y): ∃s,v= .string s∧s.size≤maxLen:=by
 obtain⟨z,hv,_,hw⟩:=DataW.trod_string hT h
 simp only[List.cons.injEq,and_true]at hv
 exact⟨z,hv,hw⟩
theorem trodAll_below (hl:laidOutB P=true) {W W':World} (hb:Below W.heap.size W W') :
 ∀ {ts:List TypeId} {vs:List Value} {ds:List (DataW H)} {p:List MemPlace},(∀t∈ts,P.readableRec t=true∧t<P.types.size)→(∀x∈p,x.block<W.heap.size) →
   DataW.TrodAll enc P W 0 (fun _=>true) true ts vs ds p→DataW.TrodAll enc P W' 0 (fun b=>decide (b<W.heap.size)) true ts vs ds p
 | [],_,_,_,_,_,h=>by
   obtain⟨rfl,rfl,rfl⟩:=trodAll_nil h
   exact trodAll_mk0
 |t::ts,_,_,_,hr,hp,h=>by
  obtain⟨v,vs,d,ds,a,b,rfl,rfl,rfl,h1,h2⟩:=trodAll_cons h
  have hrt:=hr t List.mem_cons_self
  exact⟨a,b,Below.trod hl hrt.1 hrt.2 h1 hb fun x hx=>hp x (List.mem_append_left _ hx),trodAll_below hl hb (fun q hq=>hr q (List.mem_cons_of_mem _ hq)) (fun x hx=>hp x (List.mem_append_right _ hx)) h2,rfl⟩
theorem law_post {f:Func} {s:ChangeSpec} {T:TypeId} {W W':World} {args:Array Value} {ds gs:List (DataW H)} {before:List MemPlace}
 (hW:DataW.Whole enc P f.params.toList s.vars false W args.toList ds gs before) (hvars:s.vars= []) (hres:f.resultTypes= #[T]) (hT:P.underlying T=some .bool)
 (hfn:s.fn H ds= {results:= [.lit (.bool true)],args:=ds})
 (hl:laidOutB P=true) (hr: ∀t∈f.params.toList,P.readableRec t=true∧t<P.types.size) (hb:Below W.heap.size W W') :
 s.post enc P f false true false false W args (.bool true) W':=by
 have hlt: ∀p∈before,p.block<W.heap.size:=fun p hp=>hW.lt p hp
 have hW2:=hW
 obtain⟨p,q,hA,hV,rfl,hz,hn⟩:=hW
 rw[hvars]at hV
 obtain⟨rfl,rfl⟩:=trodVars_none hV
 have hfn':s.fn H (ds++ [])= {results:= [.lit (.bool true)],args:=ds}:=by rw[List.append_nil];exact hfn
 refine⟨ds,[],p++ [],[],p,[],hW2,?_,?_,?_,hb.frame _,fun h=>by cases h⟩
 ·rw[hfn',hres]
  exact trodAll_cons_mk (shut_bool hT true) trodAll_mk0
 ·rw[hfn']
  exact trodAll_below hl hb hr (fun x hx=>hlt x (List.mem_append_left _ hx)) hA
 ·rw[hfn',hvars]
  exact rfl
end
end Go.Proofs.YtgepobccoffnaaaGreatDoor.Law
end
section
namespace Go.Proofs.YtgepobccoffnaaaGreatDoor.Bulk
open Go Go.RowKit Go.ChangeShapes Go.WideShapes Go.ChangeAt Mem Law
section
variable {H:Type} {enc:TypeId×Value→H} {P:Program} {w:World} {base:Nat} {spare:Nat→Bool} {held:Bool}
theorem slice_len {t e:TypeId} {fuel:Nat} {a:Option Addr} {n c:Nat} {x:DataW H×List MemPlace} (ht:P.underlying t=some (.slice e)) (h:DataW.trod enc P w base spare held fuel t [.slice a n c]=some x) :
 (x.1= .nil∧n=0)∨ ∃el sp,x.1= .slice el sp∧el.length=n:=by
 rcases Deep.open_slice ht h with⟨he,rfl⟩|⟨a',len,cap,m,k,D,Pl,he,_,_,_,_,rfl,_⟩
 ·simp only[List.cons.injEq,Value.slice.injEq,and_true]at he
  exact .inl ⟨rfl,he.2.1⟩
 ·simp only[List.cons.injEq,Value.slice.injEq,and_true]at he
  exact .inr ⟨_,_,rfl,by simp[he.2.1]⟩
end
theorem one_le {H:Type} (d:DataW H):1≤Rows.uptoBulk d:=by
 cases d with
 |lit l=>cases l <;>simp[Rows.uptoBulk]
 |_=>simp[Rows.uptoBulk]
theorem all_len {H:Type}: ∀l:List (DataW H),l.length≤Rows.uptoBulkAll l
 | []=>by simp[Rows.uptoBulkAll]
 |d::r=>by
  have h1:=one_le d
  have h2:=all_len r
  simp only[Rows.uptoBulkAll,List.length_cons]
  omega
theorem mem_le {H:Type} {d:DataW H}: ∀ {l:List (DataW H)},d∈l→Rows.uptoBulk d≤Rows.uptoBulkAll l
 | [],h=>by cases h
 |x::r,h=>by
  simp only[Rows.uptoBulkAll]
  rcases List.mem_cons.1 h with rfl|h
  ·omega
  ·have:=mem_le h;omega
theorem small_le {H:Type} {ds:List (DataW H)} (hk:Rows.uptoSmall H ds=true):Rows.uptoBulkAll ds≤1048576:=of_decide_eq_true hk
theorem slice_short {H:Type} {enc:TypeId×Value→H} {P:Program} {w:World} {base:Nat} {spare:Nat→Bool} {held:Bool} {t e:TypeId} {a:Option Addr} {n c:Nat} {d:DataW H} {p:List MemPlace} {ds:List (DataW H)}
 (ht:P.underlying t=some (.slice e)) (h:DataW.Trod enc P w base spare held t (.slice a n c) d p) (hd:d∈ds) (hk:Rows.uptoSmall H ds=true):n≤1048576:=by
 obtain⟨fuel,hf⟩:=h
 have hb:=Nat.le_trans (mem_le hd) (small_le hk)
 rcases slice_len ht (by simpa[Value.cells] using hf)with⟨_,rfl⟩|⟨el,sp,he,rfl⟩
 ·omega
 ·simp only at he
  subst he
  have:=all_len el
  simp only[Rows.uptoBulk]at hb
  omega
end Go.Proofs.YtgepobccoffnaaaGreatDoor.Bulk
end
section
namespace Go.Proofs.YtgepobccoffnaaaGreatDoor
open Go.ChangeShapes Go.WideShapes Go.ChangeAt Go.RowKit
open Mem Law Bulk
theorem attr_under:Tryz.prog.underlying 57=some (.struct (Tryz.prog.fieldsOf 57)):=by kernel_rfl
theorem attr_cells:Tryz.prog.cellsOf 57=2:=by kernel_rfl
theorem attr_fields:(Tryz.prog.fieldsOf 57).toList.map (fun f=>(f.type,f.offset,Tryz.prog.cellsOf f.type))= [(9,0,1),(9,1,1)]:=by kernel_rfl
section
variable {H:Type} {enc:TypeId×Value→H} {P:Program} {w:World} {base:Nat} {spare:Nat→Bool} {held:Bool}
theorem struct_parts {t:TypeId} {fs:Array Field} {Ts:List TypeId} {fuel:Nat} {cs:List Value} {x:DataW H×List MemPlace} (ht:P.underlying t=some (.struct fs))
 (hf:fs.toList.map (fun f=>(f.type,f.offset,P.cellsOf f.type))=Ts.zipIdx.map fun p=>(p.1,p.2,1)) (h:DataW.trod enc P w base spare held fuel t cs=some x) :
 ∀(i:Nat) (T:TypeId),Ts[i]?=some T→i<cs.length→ ∃n v y,cs[i]?=some v∧DataW.trod enc P w base spare held n T [v]=some y∧Rows.uptoBulk y.1≤Rows.uptoBulk x.1:=by
 obtain⟨xs,n,_,hx1,_,hlen,hx⟩:=DataW.trod_struct ht h
 intro i T hT hi
 have hfi:(fs.toList.map (fun f=>(f.type,f.offset,P.cellsOf f.type)))[i]?=some (T,i,1):=by
  rw[hf];simp[List.getElem?_zipIdx,hT]
 rw[List.getElem?_map]at hfi
 cases hg:fs.toList[i]? with
 |none=>rw[hg]at hfi;simp at hfi
 |some f =>
  rw[hg]at hfi
  simp only[Option.map_some,Option.some.injEq,Prod.mk.injEq]at hfi
  obtain⟨h1,h2,h3⟩:=hfi
  have hlt:i<fs.size:=by
   have:=(List.getElem?_eq_some_iff.1 hg).1
   simpa using this
  have hy:=hx i f (by simpa using hg)
  rw[h1]at h3
  rw[h1,h2,h3,List.drop_eq_getElem_cons hi]at hy
  rw[List.getElem?_eq_getElem (by omega)]at hy
  refine⟨n,cs[i],_,List.getElem?_eq_getElem hi,hy,?_⟩
  rw[hx1]
  have hm:(xs[i]'(by omega)).1∈xs.map (·.1):=List.mem_map_of_mem (List.getElem_mem _)
  have:=mem_le hm
  simp only[Rows.uptoBulk]
  omega
end
end Go.Proofs.YtgepobccoffnaaaGreatDoor
end
