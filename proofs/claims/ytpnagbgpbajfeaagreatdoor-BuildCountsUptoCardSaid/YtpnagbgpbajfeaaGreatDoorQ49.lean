/- Texts joined for a claim: LawN: plain laws and contracts. No conditions beyond those that each lemma types. -/
import Derived.Test.YtpnagbgpbajfeaaGreatDoorQ34
import Derived.Test.YtpnagbgpbajfeaaGreatDoorQ48
set_option linter.unusedVariables false
set_option linter.unusedSimpArgs false
set_option maxRecDepth 100000
set_option maxHeartbeats 8000000
namespace Go.Proofs.YtpnagbgpbajfeaaGreatDoor
open Go.ChangeShapes Go.WideShapes Go.ChangeAt Go.RowKit
section
open Mem Law Bulk
theorem node_under:Tryz.prog.underlying 25=some (.struct (Tryz.prog.fieldsOf 25)):=by kernel_rfl
theorem node_cells6:Tryz.prog.cellsOf 25=6:=by kernel_rfl
theorem node_fields6:(Tryz.prog.fieldsOf 25).toList.map (fun f=>(f.type,f.offset,Tryz.prog.cellsOf f.type))= [(3,0,1),(3,1,1),(9,2,1),(22,3,1),(9,4,1),(23,5,1)]:=by kernel_rfl
section
variable {H:Type} {enc:TypeId×Value→H} {P:Program} {w:World} {base:Nat} {spare:Nat→Bool} {held:Bool}
theorem range_flat {E:Nat→List Value} {c:Nat}: ∀m:Nat,(∀i,i<m→(E i).length=c)→((List.range m).map E).flatten.length=m*c
 |0,_=>by simp
 |m+1,h=>by
  rw[List.range_succ,List.map_append,List.flatten_append,List.length_append,range_flat m (fun i hi=>h i (by omega))]
  simp[h m (by omega),Nat.succ_mul]
theorem slice_parts {t e:TypeId} {fuel:Nat} {cs:List Value} {x:DataW H×List MemPlace} (ht:P.underlying t=some (.slice e)) (h:DataW.trod enc P w base spare held fuel t cs=some x) :
 ∃(a:Option Addr) (cap len:Nat) (E:Nat→List Value) (D:Nat→DataW H),cs= [.slice a len cap]∧len≤cap∧cap≤maxLen∧(a=none→cap=0)∧At w a ((List.range len).map E).flatten∧Rows.uptoBulkAll ((List.range len).map D)+1≤Rows.uptoBulk x.1 ∧
  ∀i,i<len→(E i).length=P.cellsOf e∧ ∃n pl,DataW.trod enc P w base spare held n e (E i)=some (D i,pl):=by
 rcases Deep.open_slice ht h with⟨rfl,rfl⟩|⟨a,len,cap,m,n,D,Pl,rfl,_,hlc,hcm,hm,rfl,hel⟩
 ·exact⟨none,0,0,fun _=> [],fun _=> .nil,rfl,Nat.le_refl _,Nat.zero_le _,fun _=>rfl,by intro j u hj;simp at hj,by simp[Rows.uptoBulk,Rows.uptoBulkAll],fun i hi=>by omega⟩
 ·have hle:len≤m:=by rw[hm];split <;>omega
  obtain⟨E,hE⟩:=Deep.choose_lt (α:=List Value) (p:=fun i u=>w.cells? base (a.add (i*P.cellsOf e)) (P.cellsOf e)=some u∧DataW.trod enc P w base spare held n e u=some (D i,Pl i))
   (fun i (hi:i<len)=>by obtain⟨u,h1,h2⟩:=hel i (by omega);exact⟨u,h1,h2⟩)
  have hlen: ∀i,i<len→(E i).length=P.cellsOf e:=fun i hi=>(World.cells?_some (hE i hi).1).2.1
  have hat: ∀i,i<len→ ∀j,j<P.cellsOf e→w.cell? (a.add (i*P.cellsOf e+j))=(E i)[j]?:=fun i hi j hj=>by
   rw[←Deep.add_add];exact(World.cells?_some (hE i hi).1).2.2 j hj
  refine⟨some a,cap,len,E,D,rfl,hlc,hcm,(fun h=>by cases h),?_,?_,fun i hi=>⟨hlen i hi,n,Pl i,(hE i hi).2⟩⟩
  ·have key: ∀m,m≤len→ ∀j u,((List.range m).map E).flatten[j]?=some u→w.cell? (a.add j)=some u:=by
    intro m
    induction m with
    |zero=>intro _ j u hj;simp at hj
    |succ m ih =>
     intro hm j u hj
     have hfl:((List.range m).map E).flatten.length=m*P.cellsOf e:=range_flat m fun i hi=>hlen i (by omega)
     rw[List.range_succ,List.map_append,List.flatten_append]at hj
     rcases Nat.lt_or_ge j ((List.range m).map E).flatten.length with hlt|hge
     ·rw[List.getElem?_append_left hlt]at hj
      exact ih (by omega) j u hj
     ·rw[List.getElem?_append_right hge,hfl]at hj
      rw[hfl]at hge
      simp only[List.map_cons,List.map_nil,List.flatten_cons,List.flatten_nil,List.append_nil]at hj
      have hjl:j-m*P.cellsOf e<P.cellsOf e:=by
       have:=(List.getElem?_eq_some_iff.1 hj).1
       rwa [hlen m (by omega)]at this
      have h2:=hat m (by omega) _ hjl
      rw[show m*P.cellsOf e+(j-m*P.cellsOf e)=j from by omega]at h2
      rw[h2,hj]
   intro j u hj
   have hc:=key len (Nat.le_refl _) j u hj
   obtain⟨b,o,sp⟩:=a
   have hsp:sp=none:=by
    have h0: ∃u0,((List.range len).map E).flatten[0]?=some u0:=by
     have:=(List.getElem?_eq_some_iff.1 hj).1
     exact⟨_,List.getElem?_eq_getElem (by omega)⟩
    obtain⟨u0,h0⟩:=h0
    have hc0:=key len (Nat.le_refl _) 0 u0 h0
    simp only[Addr.add,if_true]at hc0
    cases sp with
    |none=>rfl
    |some q =>
     simp only[World.cell?]at hc0
     split at hc0 <;>simp at hc0
   subst hsp
   refine⟨b,o,rfl,?_⟩
   rw[←hc]
   unfold Addr.add
   split
   ·rename_i h0;subst h0;rfl
   ·rfl
  ·simp only[Rows.uptoBulk]
   omega
end
theorem counts_le {H:Type} {D:Nat→DataW H} {K:Nat→NT}: ∀l:List Nat,(∀i∈l,ntCount (K i)≤Rows.uptoBulk (D i))→ntCounts (l.map K)≤Rows.uptoBulkAll (l.map D)
 | [],_=>by simp[ntCounts]
 |i::l,h=>by
  have h1:=h i List.mem_cons_self
  have h2:=counts_le l fun j hj=>h j (List.mem_cons_of_mem _ hj)
  simp only[List.map_cons,ntCounts,Rows.uptoBulkAll]
  omega
theorem at_non {w:World} {a:Option Addr} {xs:List Value} (h:At w a xs):AtF Non w a xs:=fun j u hj =>
 let⟨b,o,ha,hc⟩:=h j u hj;⟨b,o,ha,fun h=>h,hc⟩
theorem open_nodes {H:Type} {enc:TypeId×Value→H} {w:World} {base:Nat} {spare:Nat→Bool} {held:Bool}: ∀(m:Nat) (cs:List Value) (n:Nat) {x:DataW H×List MemPlace},Rows.uptoBulk x.1≤m→cs.length=6→DataW.trod enc Tryz.prog w base spare held n 25 cs=some x →
 ∃nt,NodeC Non w cs nt∧ntCount nt≤Rows.uptoBulk x.1:=by
 intro m
 induction m with
 |zero=>intro cs n x hm _ _;have:=one_le x.1;omega
 |succ m ih =>
  intro cs n x hm hlen h
  have hc:=struct_parts (P:=Tryz.prog) (Ts:= [3,3,9,22,9,23]) node_under (node_fields6.trans (by rfl)) h
  match cs,hlen with
  | [v0,v1,v2,v3,v4,v5],_ =>
    obtain⟨n0,u0,y0,e0,h0,b0⟩:=hc 0 _ rfl (by simp)
    obtain⟨n1,u1,y1,e1,h1,b1⟩:=hc 1 _ rfl (by simp)
    obtain⟨n2,u2,y2,e2,h2,b2⟩:=hc 2 _ rfl (by simp)
    obtain⟨n3,u3,y3,e3,h3,b3⟩:=hc 3 _ rfl (by simp)
    obtain⟨n4,u4,y4,e4,h4,b4⟩:=hc 4 _ rfl (by simp)
    obtain⟨n5,u5,y5,e5,h5,b5⟩:=hc 5 _ rfl (by simp)
    simp only[List.getElem?_cons_zero,List.getElem?_cons_succ,Option.some.injEq]at e0 e1 e2 e3 e4 e5
    subst e0 e1 e2 e3 e4 e5
    obtain⟨z0,rfl,_⟩:=open_int1 Tryz.underlying3 h0
    obtain⟨z1,rfl,_⟩:=open_int1 Tryz.underlying3 h1
    obtain⟨z2,rfl,_⟩:=open_string1 Tryz.underlying9 h2
    obtain⟨z4,rfl,_⟩:=open_string1 Tryz.underlying9 h4
    obtain⟨a3,c3,l3,rfl,l31,l32,l33,l34,_⟩:=open_pairs Tryz.underlying22 Tryz.underlying9 attr_under attr_cells attr_fields h3
    obtain⟨a5,c5,len,E,D,hv,k1,k2,k3,k4,kb,kel⟩:=slice_parts Tryz.underlying23 h5
    simp only[List.cons.injEq,and_true]at hv
    subst hv
    rw[node_cells6]at kel
    haveI:Inhabited NT:=⟨.mk 0 0 ⟨#[]⟩ [] ⟨#[]⟩ []⟩
    obtain⟨K,hK⟩:=Deep.choose_lt (α:=NT) (p:=fun i nt=>NodeC Non w (E i) nt∧ntCount nt≤Rows.uptoBulk (D i))
     (fun i (hi:i<len)=>by
       obtain⟨g1,nn,pl,g2⟩:=kel i hi
       have hDm:D i∈(List.range len).map D:=List.mem_map_of_mem (List.mem_range.2 hi)
       have hb:=mem_le hDm
       exact ih (E i) nn (x:=(D i,pl)) (by simp only;omega) g1 g2)
    have hcn:=counts_le (D:=D) (K:=K) (List.range len) fun i hi=>(hK i (List.mem_range.1 hi)).2
    have hN:=NodeC.mk (F:=Non) (w:=w) (kind:=z0) (space:=z1) (name:=z2) (text:=z4) (a:=a3) (c:=c3) (attrs:=l3) (ka:=a5) (kc:=c5) (kids:=(List.range len).map K) ((List.range len).map E)
     l31 l32 l33 (at_non l34) (by simpa using k1) k2 k3 (at_non k4) (by simp) (fun i h h'=>by
      simp only[List.length_map,List.length_range]at h
      simpa using (hK i h).1)
    rw[List.length_map,List.length_range]at hN
    exact⟨_,hN,by rw[ntCount];omega⟩
theorem open_node6 {H:Type} {enc:TypeId×Value→H} {w:World} {base:Nat} {spare:Nat→Bool} {held:Bool} {cs:List Value} {d:DataW H} {p:List MemPlace} (hlen:cs.length=6) (h:DataW.Trod enc Tryz.prog w base spare held 25 (.agg cs.toArray) d p) :
 ∃(a0 a1:Int) (a2:ByteArray) (a3:Option Addr) (a4 a5:Nat) (a6:ByteArray) (a7:Option Addr) (a8 a9:Nat) (nt:NT),(.agg cs.toArray:Value)= .agg #[.int .i64 a0,.int .i64 a1,.string a2,.slice a3 a4 a5,.string a6,.slice a7 a8 a9] ∧
  NodeC Non w (nodeV a0 a1 a2 a3 a4 a5 a6 a7 a8 a9) nt∧ntCount nt≤Rows.uptoBulk d:=by
 obtain⟨f2,hf2⟩:=h
 obtain⟨nt,hn,hc⟩:=open_nodes (x:=(d,p)) _ cs f2 (Nat.le_refl _) hlen hf2
 cases hn with
 |mk css h1 h2 h3 h4 k1 k2 k3 k4 hl hk =>
  exact⟨_,_,_,_,_,_,_,_,_,_,_,rfl,.mk css h1 h2 h3 h4 k1 k2 k3 k4 hl hk,hc⟩
theorem open_node {H:Type} {enc:TypeId×Value→H} {w:World} {base b0:Nat} {spare:Nat→Bool} {held:Bool} {r:Go.Reach} {v:Value} {d:DataW H} {p:List MemPlace} (hv:Value.okWide Tryz.prog w r b0 25 v) (h:DataW.Trod enc Tryz.prog w base spare held 25 v d p) :
 ∃(a0 a1:Int) (a2:ByteArray) (a3:Option Addr) (a4 a5:Nat) (a6:ByteArray) (a7:Option Addr) (a8 a9:Nat) (nt:NT),v= .agg #[.int .i64 a0,.int .i64 a1,.string a2,.slice a3 a4 a5,.string a6,.slice a7 a8 a9] ∧
  NodeC Non w (nodeV a0 a1 a2 a3 a4 a5 a6 a7 a8 a9) nt∧ntCount nt≤Rows.uptoBulk d:=by
 obtain⟨cs,rfl,hlen,_⟩:=agg_cells (P:=Tryz.prog) (t:=25) (fs:=Tryz.prog.fieldsOf 25) node_under hv h
 rw[node_cells6]at hlen
 exact open_node6 hlen h
end
end Go.Proofs.YtpnagbgpbajfeaaGreatDoor
