/-
  What a list of marks that came in holds, and how long its texts are. Conditions: the statement's own (bulk at most 1048576).
-/
import Derived.Test.YteckmpcgdgknoaaGreatDoorQ28
import Derived.Test.YteckmpcgdgknoaaGreatDoorQ43
set_option linter.unusedVariables false
set_option linter.unusedSimpArgs false
set_option maxRecDepth 100000
set_option maxHeartbeats 8000000
namespace Go.Proofs.YteckmpcgdgknoaaGreatDoor
open Go.ChangeShapes Go.WideShapes Go.ChangeAt Go.RowKit
open Mem Law Bulk
structure MkA where
 m:BMark
 a:Option Addr
 c:Nat
instance:Inhabited MkA:=⟨⟨⟨0,⟨#[]⟩,[],false,⟨#[]⟩⟩,none,0⟩⟩
def mkV (x:MkA):List Value:= [.int .i64 x.m.kind,.string x.m.name,.slice x.a x.m.attrs.length x.c,.bool x.m.self,.string x.m.text]
def mksV (l:List MkA):List Value:=(l.map mkV).flatten
def txtN:List MkA→Nat
 | []=>0
 |x::r=>x.m.text.size+txtN r
theorem mark_under5:Tryz.prog.underlying 27=some (.struct (Tryz.prog.fieldsOf 27)):=by kernel_rfl
theorem mark_cells5:Tryz.prog.cellsOf 27=5:=by kernel_rfl
theorem mark_fields5:(Tryz.prog.fieldsOf 27).toList.map (fun f=>(f.type,f.offset,Tryz.prog.cellsOf f.type))= [(3,0,1),(9,1,1),(25,2,1),(4,3,1),(9,4,1)]:=by kernel_rfl
theorem open_mark5 {H:Type} {enc:TypeId×Value→H} {w:World} {base:Nat} {spare:Nat→Bool} {held:Bool} {cs:List Value} {n:Nat} {x:DataW H×List MemPlace} (hlen:cs.length=5) (hb:Rows.uptoBulk x.1≤1048576) (h:DataW.trod enc Tryz.prog w base spare held n 27 cs=some x) :
 ∃o:MkA,cs=mkV o∧MA Non w o.m o.a o.c∧o.m.text.size≤Rows.uptoBulk x.1:=by
 have hc:=struct_parts (P:=Tryz.prog) (Ts:= [3,9,25,4,9]) mark_under5 (mark_fields5.trans (by rfl)) h
 match cs,hlen with
 | [v0,v1,v2,v3,v4],_ =>
   obtain⟨n0,u0,y0,e0,h0,b0⟩:=hc 0 _ rfl (by simp)
   obtain⟨n1,u1,y1,e1,h1,b1⟩:=hc 1 _ rfl (by simp)
   obtain⟨n2,u2,y2,e2,h2,b2⟩:=hc 2 _ rfl (by simp)
   obtain⟨n3,u3,y3,e3,h3,b3⟩:=hc 3 _ rfl (by simp)
   obtain⟨n4,u4,y4,e4,h4,b4⟩:=hc 4 _ rfl (by simp)
   simp only[List.getElem?_cons_zero,List.getElem?_cons_succ,Option.some.injEq]at e0 e1 e2 e3 e4
   subst e0 e1 e2 e3 e4
   obtain⟨z0,rfl,_⟩:=open_int1 Tryz.underlying3 h0
   obtain⟨z1,rfl,q1⟩:=open_string1 Tryz.underlying9 h1
   obtain⟨z3,rfl⟩:=open_bool1 Tryz.underlying4 h3
   obtain⟨a2,c2,l2,rfl,l21,l22,l23,l24,l25⟩:=open_pairs Tryz.underlying25 Tryz.underlying9 attr_under attr_cells attr_fields h2
   obtain⟨a',c',len,E,D,hv,k1,k2,k3,k4,kb,kel⟩:=slice_parts Tryz.underlying25 h2
   simp only[List.cons.injEq,Value.slice.injEq,and_true]at hv
   have hlen2:=all_len ((List.range len).map D)
   simp only[List.length_map,List.length_range]at hlen2
   obtain⟨z4,e4,e5,q4⟩:=DataW.trod_string Tryz.underlying9 h4
   simp only[List.cons.injEq,and_true]at e4
   subst e4
   have hm4:z4.size≤maxLen:=(open_string1 Tryz.underlying9 h4).elim fun s hs=>by
    have e:=hs.1
    simp only[Value.string.injEq]at e
    rw[e];exact hs.2
   have ht4:z4.size≤Rows.uptoBulk x.1:=by
    have h5:Rows.uptoBulk y4.1≤Rows.uptoBulk x.1:=b4
    rw[e5]at h5
    simp only[Rows.uptoBulk]at h5
    have:z4.data.toList.length=z4.size:=Array.length_toList
    omega
   refine⟨⟨⟨z0,z1,l2,z3,z4⟩,a2,c2⟩,rfl,⟨at_non l24,l23,?_,fun p hp=>(l25 p hp).2,?_,q1⟩,ht4⟩
   ·show l2.length≤1048576
    have:=hv.2.1
    omega
   ·show z4.size≤4611686018427387904
    unfold maxLen at hm4
    omega
theorem txt_le {H:Type} {D:Nat→DataW H} {K:Nat→MkA}: ∀l:List Nat,(∀i∈l,(K i).m.text.size≤Rows.uptoBulk (D i))→txtN (l.map K)≤Rows.uptoBulkAll (l.map D)
 | [],_=>by simp[txtN]
 |i::l,h=>by
  have h1:=h i List.mem_cons_self
  have h2:=txt_le l fun j hj=>h j (List.mem_cons_of_mem _ hj)
  simp only[List.map_cons,txtN,Rows.uptoBulkAll]
  omega
theorem open_marks {H:Type} {enc:TypeId×Value→H} {W:World} {base:Nat} {spare:Nat→Bool} {held:Bool} {r:_root_.Go.Reach} {b0:Nat} {v:Value} {d:DataW H} {p:List MemPlace} {ds:List (DataW H)}
 (hv:Value.okWide Tryz.prog W r b0 22 v) (h:DataW.Trod enc Tryz.prog W base spare held 22 v d p) (hd:d∈ds) (hk:Rows.uptoSmall H ds=true) :
 ∃(a:Option Addr) (c:Nat) (l:List MkA),v= .slice a l.length c∧l.length≤1048576∧(a=none→c=0)∧At W a (mksV l)∧(∀x∈l,MA Non W x.m x.a x.c)∧txtN l≤1048576:=by
 obtain⟨a0,n0,c0,rfl⟩:=okWide_slice Tryz.underlying22 hv
 have hshort:=slice_short Tryz.underlying22 h hd hk
 have htot:=Nat.le_trans (mem_le hd) (small_le hk)
 obtain⟨fuel,hf⟩:=h
 obtain⟨a5,c5,len,E,D,he,k1,k2,k3,k4,kb,kel⟩:=slice_parts Tryz.underlying22 (by simpa[Value.cells] using hf)
 simp only[List.cons.injEq,Value.slice.injEq,and_true]at he
 obtain⟨rfl,rfl,rfl⟩:=he
 rw[mark_cells5]at kel
 obtain⟨K,hK⟩:=Deep.choose_lt (α:=MkA) (p:=fun i o=>E i=mkV o∧MA Non W o.m o.a o.c∧o.m.text.size≤Rows.uptoBulk (D i))
  (fun i (hi:i<n0)=>by
    obtain⟨g1,nn,pl,g2⟩:=kel i hi
    have hDm:D i∈(List.range n0).map D:=List.mem_map_of_mem (List.mem_range.2 hi)
    have hb:=mem_le hDm
    exact open_mark5 (x:=(D i,pl)) g1 (by simp only at kb ⊢;omega) g2)
 have hfl:mksV ((List.range n0).map K)=((List.range n0).map E).flatten:=by
  unfold mksV
  rw[List.map_map]
  congr 1
  exact List.map_congr_left fun i hi=>((hK i (List.mem_range.1 hi)).1).symm
 have htx:=txt_le (D:=D) (K:=K) (List.range n0) fun i hi=>(hK i (List.mem_range.1 hi)).2.2
 refine⟨a0,c0,(List.range n0).map K,by simp,by simpa using hshort,k3,by rw[hfl];exact k4,fun x hx=> ?_,by simp only at kb;omega⟩
 obtain⟨i,hi,rfl⟩:=List.mem_map.1 hx
 exact(hK i (List.mem_range.1 hi)).2.1
end Go.Proofs.YteckmpcgdgknoaaGreatDoor
