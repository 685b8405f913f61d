/- Texts joined for a claim: LawM, CuMa, CuTw, CuDp: plain laws and contracts. No conditions beyond those that each lemma types. -/
import Derived.Test.YtgepobccoffnaaaGreatDoorT28
import Derived.Test.YtgepobccoffnaaaGreatDoorT41
import Derived.Test.YtgepobccoffnaaaGreatDoorT39
import Derived.Test.YtgepobccoffnaaaGreatDoorT03
import Derived.Test.YtgepobccoffnaaaGreatDoorT11
import Derived.Test.YtgepobccoffnaaaGreatDoorT29
import Derived.Maps.AppendAt
set_option linter.unusedVariables false
set_option linter.unusedSimpArgs false
set_option maxRecDepth 100000
set_option maxHeartbeats 8000000
namespace Go.Proofs.YtgepobccoffnaaaGreatDoor
section
open Go.ChangeShapes Go.WideShapes Go.ChangeAt Go.RowKit
open Mem Law Bulk
structure MkA where
 m:BMark
 a:Option Addr
 c:Nat
instance:Inhabited MkA:=⟨⟨⟨0,⟨#[]⟩,[],false,⟨#[]⟩⟩,none,0⟩⟩
def mkV (x:MkA):List Value:= [.int .i64 x.m.kind,.string x.m.name,.slice x.a x.m.attrs.length x.c,.bool x.m.self,.string x.m.text]
def mksV (l:List MkA):List Value:=(l.map mkV).flatten
def txtN:List MkA→Nat
 | []=>0
 |x::r=>x.m.text.size+txtN r
theorem mark_under5:Tryz.prog.underlying 38=some (.struct (Tryz.prog.fieldsOf 38)):=by kernel_rfl
theorem mark_cells5:Tryz.prog.cellsOf 38=5:=by kernel_rfl
theorem mark_fields5:(Tryz.prog.fieldsOf 38).toList.map (fun f=>(f.type,f.offset,Tryz.prog.cellsOf f.type))= [(3,0,1),(9,1,1),(23,2,1),(4,3,1),(9,4,1)]:=by kernel_rfl
theorem open_mark5 {H:Type} {enc:TypeId×Value→H} {w:World} {base:Nat} {spare:Nat→Bool} {held:Bool} {cs:List Value} {n:Nat} {x:DataW H×List MemPlace} (hlen:cs.length=5) (hb:Rows.uptoBulk x.1≤1048576) (h:DataW.trod enc Tryz.prog w base spare held n 38 cs=some x) :
 ∃o:MkA,cs=mkV o∧MA Non w o.m o.a o.c∧o.m.text.size≤Rows.uptoBulk x.1:=by
 have hc:=struct_parts (P:=Tryz.prog) (Ts:= [3,9,23,4,9]) mark_under5 (mark_fields5.trans (by rfl)) h
 match cs,hlen with
 | [v0,v1,v2,v3,v4],_ =>
   obtain⟨n0,u0,y0,e0,h0,b0⟩:=hc 0 _ rfl (by simp)
   obtain⟨n1,u1,y1,e1,h1,b1⟩:=hc 1 _ rfl (by simp)
   obtain⟨n2,u2,y2,e2,h2,b2⟩:=hc 2 _ rfl (by simp)
   obtain⟨n3,u3,y3,e3,h3,b3⟩:=hc 3 _ rfl (by simp)
   obtain⟨n4,u4,y4,e4,h4,b4⟩:=hc 4 _ rfl (by simp)
   simp only[List.getElem?_cons_zero,List.getElem?_cons_succ,Option.some.injEq]at e0 e1 e2 e3 e4
   subst e0 e1 e2 e3 e4
   obtain⟨z0,rfl,_⟩:=open_int1 Tryz.underlying3 h0
   obtain⟨z1,rfl,q1⟩:=open_string1 Tryz.underlying9 h1
   obtain⟨z3,rfl⟩:=open_bool1 Tryz.underlying4 h3
   obtain⟨a2,c2,l2,rfl,l21,l22,l23,l24,l25⟩:=open_pairs Tryz.underlying23 Tryz.underlying9 attr_under attr_cells attr_fields h2
   obtain⟨a',c',len,E,D,hv,k1,k2,k3,k4,kb,kel⟩:=slice_parts Tryz.underlying23 h2
   simp only[List.cons.injEq,Value.slice.injEq,and_true]at hv
   have hlen2:=all_len ((List.range len).map D)
   simp only[List.length_map,List.length_range]at hlen2
   obtain⟨z4,e4,e5,q4⟩:=DataW.trod_string Tryz.underlying9 h4
   simp only[List.cons.injEq,and_true]at e4
   subst e4
   have hm4:z4.size≤maxLen:=(open_string1 Tryz.underlying9 h4).elim fun s hs=>by
    have e:=hs.1
    simp only[Value.string.injEq]at e
    rw[e];exact hs.2
   have ht4:z4.size≤Rows.uptoBulk x.1:=by
    have h5:Rows.uptoBulk y4.1≤Rows.uptoBulk x.1:=b4
    rw[e5]at h5
    simp only[Rows.uptoBulk]at h5
    have:z4.data.toList.length=z4.size:=Array.length_toList
    omega
   refine⟨⟨⟨z0,z1,l2,z3,z4⟩,a2,c2⟩,rfl,⟨at_non l24,l23,?_,fun p hp=>(l25 p hp).2,?_,q1⟩,ht4⟩
   ·show l2.length≤1048576
    have:=hv.2.1
    omega
   ·show z4.size≤4611686018427387904
    unfold maxLen at hm4
    omega
theorem txt_le {H:Type} {D:Nat→DataW H} {K:Nat→MkA}: ∀l:List Nat,(∀i∈l,(K i).m.text.size≤Rows.uptoBulk (D i))→txtN (l.map K)≤Rows.uptoBulkAll (l.map D)
 | [],_=>by simp[txtN]
 |i::l,h=>by
  have h1:=h i List.mem_cons_self
  have h2:=txt_le l fun j hj=>h j (List.mem_cons_of_mem _ hj)
  simp only[List.map_cons,txtN,Rows.uptoBulkAll]
  omega
theorem open_marks {H:Type} {enc:TypeId×Value→H} {W:World} {base:Nat} {spare:Nat→Bool} {held:Bool} {r:_root_.Go.Reach} {b0:Nat} {v:Value} {d:DataW H} {p:List MemPlace} {ds:List (DataW H)}
 (hv:Value.okWide Tryz.prog W r b0 36 v) (h:DataW.Trod enc Tryz.prog W base spare held 36 v d p) (hd:d∈ds) (hk:Rows.uptoSmall H ds=true) :
 ∃(a:Option Addr) (c:Nat) (l:List MkA),v= .slice a l.length c∧l.length≤1048576∧(a=none→c=0)∧At W a (mksV l)∧(∀x∈l,MA Non W x.m x.a x.c)∧txtN l≤1048576:=by
 obtain⟨a0,n0,c0,rfl⟩:=okWide_slice Tryz.underlying36 hv
 have hshort:=slice_short Tryz.underlying36 h hd hk
 have htot:=Nat.le_trans (mem_le hd) (small_le hk)
 obtain⟨fuel,hf⟩:=h
 obtain⟨a5,c5,len,E,D,he,k1,k2,k3,k4,kb,kel⟩:=slice_parts Tryz.underlying36 (by simpa[Value.cells] using hf)
 simp only[List.cons.injEq,Value.slice.injEq,and_true]at he
 obtain⟨rfl,rfl,rfl⟩:=he
 rw[mark_cells5]at kel
 obtain⟨K,hK⟩:=Deep.choose_lt (α:=MkA) (p:=fun i o=>E i=mkV o∧MA Non W o.m o.a o.c∧o.m.text.size≤Rows.uptoBulk (D i))
  (fun i (hi:i<n0)=>by
    obtain⟨g1,nn,pl,g2⟩:=kel i hi
    have hDm:D i∈(List.range n0).map D:=List.mem_map_of_mem (List.mem_range.2 hi)
    have hb:=mem_le hDm
    exact open_mark5 (x:=(D i,pl)) g1 (by simp only at kb ⊢;omega) g2)
 have hfl:mksV ((List.range n0).map K)=((List.range n0).map E).flatten:=by
  unfold mksV
  rw[List.map_map]
  congr 1
  exact List.map_congr_left fun i hi=>((hK i (List.mem_range.1 hi)).1).symm
 have htx:=txt_le (D:=D) (K:=K) (List.range n0) fun i hi=>(hK i (List.mem_range.1 hi)).2.2
 refine⟨a0,c0,(List.range n0).map K,by simp,by simpa using hshort,k3,by rw[hfl];exact k4,fun x hx=> ?_,by simp only at kb;omega⟩
 obtain⟨i,hi,rfl⟩:=List.mem_map.1 hx
 exact(hK i (List.mem_range.1 hi)).2.1
end
section
open Go.RowKit Mem
noncomputable def marksB (l:List MkA):BuD:=newB.runs ((l.map (·.m)).takeWhile fun m=>m.kind !=6)
theorem runs_err: ∀(l:List BMark) {b:BuD},b.err≠0→b.runs l=b
 | [],_,_=>rfl
 |m::r,b,h=>by
  show(b.DoF m).runs r=b
  rw[DoF_err h]
  exact runs_err r h
theorem txt_take (l:List MkA) (k:Nat) (h:k<l.length):txtN (l.take (k+1))=txtN (l.take k)+l[k].m.text.size∧txtN (l.take (k+1))≤txtN l:=by
 have happ: ∀A B:List MkA,txtN (A++B)=txtN A+txtN B:=fun A B=>by
  induction A with
  |nil=>rw[List.nil_append,txtN,Nat.zero_add]
  |cons x A ih=>rw[List.cons_append,txtN,txtN,ih,Nat.add_assoc]
 constructor
 ·rw[List.take_succ_eq_append_getElem h,happ,txtN,txtN,Nat.add_zero]
 ·have:=happ (l.take (k+1)) (l.drop (k+1))
  rw[List.take_append_drop]at this
  omega
theorem upto_all {l:List MkA} {k:Nat} (hk:k≤l.length) (h: ∀x∈l.take k,x.m.kind≠6):(l.map (·.m)).takeWhile (fun m=>m.kind !=6)=(l.take k).map (·.m)++((l.drop k).map (·.m)).takeWhile (fun m=>m.kind !=6):=by
 conv=>lhs;rw[←List.take_append_drop k l]
 rw[List.map_append]
 exact List.takeWhile_append_of_pos fun m hm=>by
  obtain⟨x,hx,rfl⟩:=List.mem_map.1 hm
  exact bne_iff_ne.2 (h x hx)
theorem mks_cells {F:Nat→Prop} {w:World} {a:Option Addr} {l:List MkA} (hat:AtF F w a (mksV l)) {k:Nat} (hk:k<l.length): ∃b o,a=some ⟨b,o,none⟩∧w.cell? ⟨b,o+k*5,none⟩=some (.int .i64 l[k].m.kind)∧w.cell? ⟨b,o+k*5+1,none⟩=some (.string l[k].m.name)∧w.cell? ⟨b,o+k*5+2,none⟩=some (.slice l[k].a l[k].m.attrs.length l[k].c)∧w.cell? ⟨b,o+k*5+3,none⟩=some (.bool l[k].m.self)∧w.cell? ⟨b,o+k*5+4,none⟩=some (.string l[k].m.text):=by
 have hget: ∀(l:List MkA) (k:Nat) (hk:k<l.length) (f:Nat),f<5→(mksV l)[k*5+f]?=(mkV l[k])[f]?:=by
  intro l
  induction l with
  |nil=>intro k hk;simp at hk
  |cons x r ih =>
   intro k hk f hf
   show(mkV x++mksV r)[k*5+f]?=_
   cases k with
   |zero =>
    rw[Nat.zero_mul,Nat.zero_add,List.getElem?_append_left (by show f<5;omega)]
    rfl
   |succ k =>
    rw[List.getElem?_append_right (by show 5≤_;omega)]
    have:=ih k (by simpa using hk) f hf
    rw[show(k+1)*5+f-(mkV x).length=k*5+f by show(k+1)*5+f-5=_;omega,this]
    rfl
 have key: ∀f u,f<5→(mkV l[k])[f]?=some u→ ∃b o,a=some ⟨b,o,none⟩∧w.cell? ⟨b,o+k*5+f,none⟩=some u:=by
  intro f u hf hu
  obtain⟨b,o,e,_,hcell⟩:=hat (k*5+f) u (by rw[hget l k hk f hf];exact hu)
  exact⟨b,o,e,by rw[show o+k*5+f=o+(k*5+f)from by omega];exact hcell⟩
 obtain⟨b,o,rfl,c0⟩:=key 0 _ (by omega) rfl
 obtain⟨_,_,e,c1⟩:=key 1 _ (by omega) rfl
 cases e
 obtain⟨_,_,e,c2⟩:=key 2 _ (by omega) rfl
 cases e
 obtain⟨_,_,e,c3⟩:=key 3 _ (by omega) rfl
 cases e
 obtain⟨_,_,e,c4⟩:=key 4 _ (by omega) rfl
 cases e
 exact⟨b,o,rfl,c0,c1,c2,c3,c4⟩
structure MR (w:World) (l:List MkA) (bb0 k:Nat) (E:BE) (ws:World) (b:BuD) (wr:World):Prop where
 bi:BI E ws (txtN (l.take k)) b wr
 bb:E.bb=bb0
 w0:E.w0=w
 exo:E.ex w.heap.size
 out:wr.heap[w.heap.size]?=some (.cells zeroN 26 (0,0))
 run:b=newB.runs ((l.take k).map (·.m))
 err:b.err=0
 kin: ∀x∈l.take k,x.m.kind≠6
section
variable {w wr w' u:World} {l:List MkA} {bb0 k:Nat} {E:BE} {ws:World} {b:BuD}
theorem MR.below (h:MR w l bb0 k E ws b wr):Below w.heap.size w wr:=by
 have:=h.bi.below
 rw[h.w0]at this
 exact this
theorem MR.world (h:MR w l bb0 k E ws b wr) (hb:Below wr.heap.size wr w'):MR w l bb0 k E ws b w' :=
 ⟨h.bi.world hb,h.bb,h.w0,h.exo,(hb.block _ (row_lt h.out)).trans h.out,h.run,h.err,h.kin⟩
theorem MR.ma (h:MR w l bb0 k E ws b wr) {x:MkA} (hx:MA Non w x.m x.a x.c):MA (OB E) wr x.m x.a x.c:=by
 obtain⟨h1,h2,h3,h4,h5,h6⟩:=hx
 refine⟨?_,h2,h3,h4,h5,h6⟩
 have hk:=h1.kept (Keeps.ofBelow (F:=Non) h.below)
 intro j u hj
 obtain⟨b',o,e, -,hc⟩:=h1 j u hj
 obtain⟨b2,o2,e2, -,hc2⟩:=hk j u hj
 have hlt:b'<w.heap.size:=lt_of_cell hc
 rw[e]at e2
 cases e2
 refine⟨b',o,e,fun hx=> ?_,hc2⟩
 have hb0:=h.bi.bld.bm.b0
 rw[h.w0]at hb0
 rcases hx with hx|hx
 ·have h7:=hx.1
  rw[h.w0]at h7
  omega
 ·have:b'=E.bb:=hx
  omega
theorem MR.done (h:MR w l bb0 k E ws b wr) (hk:k≤l.length) (hl: ∀hlt:k<l.length,l[k].m.kind=6):marksB l=b:=by
 unfold marksB
 rw[upto_all hk h.kin,h.run]
 rcases Nat.lt_or_ge k l.length with hlt|hge
 ·rw[List.drop_eq_getElem_cons hlt,List.map_cons,List.takeWhile_cons_of_neg (by rw[hl hlt];decide),List.append_nil]
 ·rw[List.drop_eq_nil_of_le hge,List.map_nil,List.takeWhile_nil,List.append_nil]
theorem take_more {k:Nat} (hlt:k<l.length) (hr:b=newB.runs ((l.take k).map (·.m))):b.DoF l[k].m=newB.runs ((l.take (k+1)).map (·.m)):=by
 rw[List.take_succ_eq_append_getElem hlt,List.map_append,List.map_cons,List.map_nil,runs_snoc,←hr]
theorem kin_more {k:Nat} (hlt:k<l.length) (h: ∀x∈l.take k,x.m.kind≠6) (h6:l[k].m.kind≠6): ∀x∈l.take (k+1),x.m.kind≠6:=by
 intro x hx
 rw[List.take_succ_eq_append_getElem hlt]at hx
 rcases List.mem_append.1 hx with hx|hx
 ·exact h x hx
 ·rw[List.mem_singleton.1 hx];exact h6
theorem MR.bad (h:MR w l bb0 k E ws b wr) (hlt:k<l.length) (h6:l[k].m.kind≠6) (he:(b.DoF l[k].m).err≠0):(marksB l).endE=(b.DoF l[k].m).err∧(marksB l).endN=emptyNT:=by
 have hE: ∀c:BuD,c.err≠0→c.endE=c.err∧c.endN=emptyNT:=fun c hc=>by
  have q:c.endB=c:=DoF_err hc
  have q2:c.endE=c.err:=by unfold BuD.endE;rw[q,if_pos hc]
  exact⟨q2,by unfold BuD.endN;rw[q2,if_neg hc]⟩
 have e:marksB l=b.DoF l[k].m:=by
  unfold marksB
  rw[upto_all (k:=k+1) (by omega) (kin_more hlt h.kin h6),runs_more,←take_more hlt h.run]
  exact runs_err _ he
 rw[e]
 exact hE _ he
theorem MR.do (h:MR w l bb0 k E ws b wr) (hlt:k<l.length) (h6:l[k].m.kind≠6) (hx:MA Non w l[k].m l[k].a l[k].c) (ht:txtN l≤1000000000000) (hno:w.heap.size≠bb0) :
 Calls Tryz.prog 21 #[.pointer (some ⟨bb0,0,none⟩),markA l[k].m.kind l[k].m.name l[k].a l[k].m.attrs.length l[k].c l[k].m.self l[k].m.text] wr fun r v=>r= .returned (.int .i64 (b.DoF l[k].m).err)∧BI E wr (txtN (l.take (k+1))) (b.DoF l[k].m) v∧v.heap[w.heap.size]?=some (.cells zeroN 26 (0,0))∧((b.DoF l[k].m).err=0→MR w l bb0 (k+1) E wr (b.DoF l[k].m) v):=by
 obtain⟨t1,t2⟩:=txt_take l k hlt
 have hre:BI E wr (txtN (l.take k)) b wr:=⟨⟨h.bi.bld.bm,Keeps.refl _ _,h.bi.bld.ok⟩,h.bi.pg,h.bi.md,h.bi.wk,h.bi.uw⟩
 have h1:=Do_bi hre (h.ma hx) (by omega)
 rw[h.bb,←t1]at h1
 refine h1.mono fun r v ⟨hr,hv⟩=> ?_
 have ho:=(h.bi.other hv.bld.keep h.exo (by rw[h.bb];exact hno)).trans h.out
 exact⟨hr,hv,ho,fun he=>⟨hv,h.bb,h.w0,h.exo,ho,take_more hlt h.run,he,kin_more hlt h.kin h6⟩⟩
end
theorem zero_node {F:Nat→Prop} {w:World}:NodeC F w (nodeV 0 0 ⟨#[]⟩ none 0 0 ⟨#[]⟩ none 0 0) emptyNT :=
 NodeC.mk (kids:= []) (attrs:= []) [] (Nat.le_refl _) (Nat.zero_le _) (fun _=>rfl) (fun j u hj=>by simp[pairsV]at hj) (Nat.le_refl _) (Nat.zero_le _) (fun _=>rfl) (fun j u hj=>by simp at hj) rfl (fun i h=>by simp at h)
theorem Marks_any (l:List MkA) (a:Option Addr) (c:Nat) (w:World) (hl:l.length≤2000000000000) (hat:At w a (mksV l)) (hm: ∀x∈l,MA Non w x.m x.a x.c) (ht:txtN l≤1000000000000) :
 Calls Tryz.prog 14 #[.slice a l.length c] w fun r w'=> ∃cs,r= .returned (.tuple #[.agg cs.toArray,.int .i64 (marksB l).endE])∧NodeC (· <w.heap.size) w' cs (marksB l).endN∧Below w.heap.size w w':=by
 have hb0:=(Below.refl w.heap.size w).alloc (Nat.le_refl _) (.cells #[.int .i64 0,.int .i64 0,.string ⟨#[]⟩,.slice none 0 0,.string ⟨#[]⟩,.slice none 0 0] 26)
 have hr0:=heap_alloc_new w (.cells #[.int .i64 0,.int .i64 0,.string ⟨#[]⟩,.slice none 0 0,.string ⟨#[]⟩,.slice none 0 0] 26)
 have HB0:=Lib.hid hb0
 have HR0:=Lib.hid hr0
 have HAT:=Lib.hid (at_non hat)
 have HM:=Lib.hid hm
 have HT:=Lib.hid ht
 clear hb0 hr0 hat hm ht
 go_enter Tryz.func14,Tryz.ntmps14
 go_wp2_with (go_at_call 18;go_must (refine(New_bi w _ HB0.out).mono ?_;rintro e w2 ⟨E,he0,rfl,hbi,hb2,hex,hbb,hbl⟩;have HI:=Lib.hid hbi;have HB2:=Lib.hid hb2;have HEx:=Lib.hid hex;have HE0:=Lib.hid he0;have HZ2:Hid (w.heap.size<E.bb):=Lib.hid (by have h2:=hbb;simp at h2;omega);clear hbi hb2 hex he0 hbb hbl))
 have HS:Hid (MR w l E.bb 0 E w2 newB w2):=Lib.hid
  ⟨HI.out,rfl,HE0.out,HEx.out _ (Nat.le_refl _) (by simp),(HB2.out.block _ (row_lt HR0.out)).trans HR0.out,rfl,rfl,fun x hx=>by simp at hx⟩
 obtain⟨bb0,hbb⟩: ∃bb0,bb0=E.bb:=⟨_,rfl⟩
 rw[←hbb]at HS HZ2 ⊢
 have hno:w.heap.size≠bb0:=by have:=HZ2.out;omega
 clear HI HB2 HEx HE0 HZ2 HB0 HR0 hbb
 go_wp2_with fail
 go_loopw [11] (fun i wr=> ∃k E ws b,k≤l.length∧i= .int .i64 (k:Nat)∧Hid (MR w l bb0 k E ws b wr)) (fun i _=>l.length-(intOf i).toNat)
 case atStart=>exact⟨0,_,_,_,Nat.zero_le _,rfl,HS⟩
 case round =>
  clear HS
  obtain⟨k,E,ws,b,hk,rfl,HR⟩:=hrel
  have hn0:txtN (l.take k)≤4611686018427387904:=by
   have h1:txtN (l.take k)≤txtN l:=by
    rcases Nat.lt_or_ge k l.length with h|h
    ·have:=txt_take l k h;omega
    ·rw[List.take_of_length_le h];exact Nat.le_refl _
   have:=HT.out
   omega
  by_cases hlt:k<l.length
  ·obtain⟨bk,o,rfl,e0,e1,e2,e3,e4⟩:=mks_cells (HAT.out.kept (Keeps.ofBelow (F:=Non) HR.out.below)) hlt
   have HR1:=Lib.hid (HR.out.world ((Below.refl wr.heap.size wr).alloc (Nat.le_refl _) (.cells #[.int .i64 (l[k]'hlt).m.kind,.string (l[k]'hlt).m.name,.slice (l[k]'hlt).a (l[k]'hlt).m.attrs.length (l[k]'hlt).c,.bool (l[k]'hlt).m.self,.string (l[k]'hlt).m.text] 38)))
   have HBR1:=Lib.hid HR1.out.below
   by_cases h6:(l[k]'hlt).m.kind=6
   ·have HQ:=Lib.hid (HR1.out.done hk fun _=>h6)
    have hk6:((l[k]'hlt).m.kind==6)=true:=beq_iff_eq.2 h6
    have HI:=Lib.hid HR1.out.bi
    have HEn:=Lib.hid (End_bi HI.out hn0)
    rw[HR1.out.bb,HR1.out.w0]at HEn
    have HX:=Lib.hid HR1.out.exo
    have HO:=Lib.hid HR1.out.out
    have HBB:=Lib.hid HR1.out.bb
    generalize l[k]=x at *
    clear HR hn0 HAT HM HT h6
    go_wp2_with fail
    go_wp2_with (go_at_call 20;go_must (refine HEn.out.mono ?_;rintro e w4 ⟨cs,rfl,hnc,hbw,hkb⟩;obtain⟨g0,g1,g2,g3,g4,g5,g6,g7,g8,g9,rfl⟩:=nodeC_form hnc;have hrw:=(HI.out.other hkb HX.out (by rw[HBB.out];exact hno)).trans HO.out;obtain⟨⟨z0,z1,z2,z3,z4,z5⟩,t0,t1,t2,t3,t4,t5⟩:=cells6 (zero_row hrw);have HNC:=Lib.hid hnc;have HBW:=Lib.hid hbw;have HRW:=Lib.hid (fun x0 x1 x2 x3 x4 x5=>put6_heap x0 x1 x2 x3 x4 x5 (zero_row hrw));have HZ3:=Lib.hid (row_lt HO.out);unfold nodeV;clear hnc hbw hkb hrw))
    refine bodyPost_ret (ret_node rfl _ _ w.heap.size _ _ _ _ (.int .i64 b.endE) (by rfl) (by rfl) (HRW.out _ _ _ _ _ _) Tryz.underlying26 rfl size_out) rfl ?_
    rw[HQ.out]
    refine⟨_,rfl,?_,build_done HBW.out _ _ _ _ _ _⟩
    exact(HNC.out.kept (put6_keeps (F:=fun j=>j<(wr.alloc (.cells #[.int .i64 x.m.kind,.string x.m.name,.slice x.a x.m.attrs.length x.c,.bool x.m.self,.string x.m.text] 38)).heap.size) (O:=w.heap.size) _ _ _ _ _ _ (Keeps.refl _ w4) (.inl HZ3.out))).other fun j _ hx=>by have h1:=HZ3.out;have h2:j<w.heap.size:=hx;show j<_;omega
   ·have hk6:((l[k]'hlt).m.kind==6)=false:=beq_eq_false_iff_ne.2 h6
    have HDo:=Lib.hid (HR1.out.do hlt h6 (by
     have h1:=HM.out _ (List.getElem_mem hlt)
     exact⟨h1.att,h1.nil,h1.alen,h1.ash,h1.tlen,h1.nlen⟩) HT.out hno)
    have HBad:=Lib.hid (HR1.out.bad hlt h6)
    have HW0:=Lib.hid HR1.out.w0
    generalize l[k]=x at *
    obtain⟨q,hq⟩: ∃q,q=b.DoF x.m:=⟨_,rfl⟩
    rw[←hq]at HDo HBad
    clear HR hn0 HAT h6 hq HR1
    by_cases he:q.err=0
    ·have heb:(q.err !=0)=false:=by rw[he];rfl
     rw[he]at HDo
     clear HBad
     go_wp2_with (go_at_call 21;go_must (refine HDo.out.mono ?_;rintro e w4 ⟨rfl,hbi4,ho4,hmr4⟩;have HMR:=Lib.hid (hmr4 rfl);clear hbi4 ho4 hmr4))
     go_roundw
     case rel=>exact⟨k+1,_,_,_,by omega,by go_num,HMR⟩
     case measure=>simp[intOf];omega
    ·have heb:(q.err !=0)=true:=bne_iff_ne.2 he
     obtain⟨hE1,hE2⟩:=HBad.out he
     have HE1:=Lib.hid hE1
     have HE2:=Lib.hid hE2
     clear HBad hE1 hE2 he
     go_wp2_with (go_at_call 21;go_must (refine HDo.out.mono ?_;rintro e w4 ⟨rfl,hbi4,ho4,hmr4⟩;have HRW:=Lib.hid (fun x0 x1 x2 x3 x4 x5=>put6_heap x0 x1 x2 x3 x4 x5 (zero_row ho4));obtain⟨⟨z0,z1,z2,z3,z4,z5⟩,t0,t1,t2,t3,t4,t5⟩:=cells6 (zero_row ho4);have hb4:=hbi4.below;rw[HW0.out]at hb4;have HB4:=Lib.hid hb4;clear hbi4 ho4 hmr4 hb4))
     refine bodyPost_ret (ret_node rfl _ _ w.heap.size _ _ _ _ (.int .i64 q.err) (by rfl) (by rfl) (HRW.out _ _ _ _ _ _) Tryz.underlying26 rfl size_out) rfl ?_
     rw[HE1.out,HE2.out]
     exact⟨nodeV 0 0 ⟨#[]⟩ none 0 0 ⟨#[]⟩ none 0 0,rfl,zero_node,build_done HB4.out _ _ _ _ _ _⟩
  ·obtain rfl:k=l.length:=by omega
   have HQ:=Lib.hid (HR.out.done (Nat.le_refl _) fun h=>absurd h (by omega))
   have HI:=Lib.hid HR.out.bi
   have HEn:=Lib.hid (End_bi HI.out hn0)
   rw[HR.out.bb,HR.out.w0]at HEn
   have HX:=Lib.hid HR.out.exo
   have HO:=Lib.hid HR.out.out
   have HBB:=Lib.hid HR.out.bb
   clear hn0 HAT HM HT HR
   go_wp2_with fail
   go_wp2_with (go_at_call 20;go_must (refine HEn.out.mono ?_;rintro e w4 ⟨cs,rfl,hnc,hbw,hkb⟩;obtain⟨g0,g1,g2,g3,g4,g5,g6,g7,g8,g9,rfl⟩:=nodeC_form hnc;have hrw:=(HI.out.other hkb HX.out (by rw[HBB.out];exact hno)).trans HO.out;obtain⟨⟨z0,z1,z2,z3,z4,z5⟩,t0,t1,t2,t3,t4,t5⟩:=cells6 (zero_row hrw);have HNC:=Lib.hid hnc;have HBW:=Lib.hid hbw;have HRW:=Lib.hid (fun x0 x1 x2 x3 x4 x5=>put6_heap x0 x1 x2 x3 x4 x5 (zero_row hrw));have HZ3:=Lib.hid (row_lt HO.out);unfold nodeV;clear hnc hbw hkb hrw))
   refine bodyPost_ret (ret_node rfl _ _ w.heap.size _ _ _ _ (.int .i64 b.endE) (by rfl) (by rfl) (HRW.out _ _ _ _ _ _) Tryz.underlying26 rfl size_out) rfl ?_
   rw[HQ.out]
   refine⟨_,rfl,?_,build_done HBW.out _ _ _ _ _ _⟩
   exact(HNC.out.kept (put6_keeps (F:=fun j=>j<wr.heap.size) (O:=w.heap.size) _ _ _ _ _ _ (Keeps.refl _ w4) (.inl HZ3.out))).other fun j _ hx=>by have h1:=HZ3.out;have h2:j<w.heap.size:=hx;show j<_;omega
end
section
open Go.RowKit Mem
theorem info_mark5:(Tryz.prog.info? 38).map (fun i=>(i.zero,i.size,i.bytes))=some (some (.agg #[.int .i64 0,.string ⟨#[]⟩,.slice none 0 0,.bool false,.string ⟨#[]⟩]),5,72):=by kernel_rfl
theorem mks_push (l:List MkA) (x:MkA):mksV (l++ [x])=mksV l++mkV x:=by
 unfold mksV
 rw[List.map_append,List.flatten_append]
 simp
theorem mkV_one (x:MkA): ∀u∈mkV x,u.oneCell'=true:=by
 intro u hu
 unfold mkV at hu
 simp only[List.mem_cons,List.not_mem_nil,or_false]at hu
 rcases hu with rfl|rfl|rfl|rfl|rfl <;>rfl
structure Rw2 (w:World) (own odd:List MkA) (vo vd:Value) (wr:World):Prop where
 below:Below w.heap.size w wr
 ro:wr.ownsRow w.heap.size 38 5 vo own.length (mksV own)
 rd:wr.ownsRow w.heap.size 38 5 vd odd.length (mksV odd)
 dif: ∀g,vo.ownBlock=some g→vd.ownBlock≠some g
 mo: ∀x∈own,MA Non w x.m x.a x.c
 md: ∀x∈odd,MA Non w x.m x.a x.c
section
variable {w wr w':World} {own odd:List MkA} {vo vd v':Value}
theorem Rw2.world (h:Rw2 w own odd vo vd wr) (hb:Below wr.heap.size wr w'):Rw2 w own odd vo vd w' :=
 ⟨belowCall h.below hb,own_kept h.ro fun g hg=>hb.block g (h.ro.lt g hg).2,own_kept h.rd fun g hg=>hb.block g (h.rd.lt g hg).2,h.dif,h.mo,h.md⟩
theorem Rw2.push (h:Rw2 w own odd vo vd wr) {x:MkA} (hx:MA Non w x.m x.a x.c) (ho:w'.ownsRow w.heap.size 38 5 v' (own.length+1) (mksV own++mkV x)) (hg:wr.grownBy w' vo.ownBlock) (ha:v'.ownBlock=vo.ownBlock∨v'.ownBlock=some wr.heap.size):Rw2 w (own++ [x]) odd v' vd w':=by
 refine⟨h.below.grown hg h.below.size fun k hk=>(h.ro.lt k hk).1,?_,?_,?_,?_,h.md⟩
 ·rw[mks_push,List.length_append]
  exact ho
 ·exact own_kept h.rd fun g hg'=>hg.block g (h.rd.lt g hg').2 fun e=>h.dif g e.symm hg'
 ·intro g h1 h2
  rcases ha with e|e
  ·rw[e]at h1
   exact h.dif g h1 h2
  ·rw[e]at h1
   cases h1
   have:=(h.rd.lt _ h2).2
   omega
 ·intro y hy
  rcases List.mem_append.1 hy with hy|hy
  ·exact h.mo y hy
  ·rw[List.mem_singleton.1 hy];exact hx
theorem Rw2.stays (h:Rw2 w own odd vo vd wr) (hg:wr.grownBy w' vo.ownBlock) {k:Nat} {o:Obj} (hk:wr.heap[k]?=some o) (ho:vo.ownBlock≠some k):w'.heap[k]?=some o :=
 (hg.block k (row_lt hk) fun e=>ho e.symm).trans hk
theorem Rw2.fresh (h:Rw2 w own odd vo vd wr):vo.ownBlock≠some wr.heap.size∧vd.ownBlock≠some wr.heap.size:=by
 refine⟨fun e=> ?_,fun e=> ?_⟩
 ·have:=(h.ro.lt _ e).2;omega
 ·have:=(h.rd.lt _ e).2;omega
theorem Rw2.marks (h:Rw2 w own odd vo vd wr) (hl:own.length≤2000000000000) (ht:txtN own≤1000000000000):Calls Tryz.prog 14 #[vo] wr fun r v=> ∃cs,r= .returned (.tuple #[.agg cs.toArray,.int .i64 (marksB own).endE])∧NodeC (· <wr.heap.size) v cs (marksB own).endN∧Below wr.heap.size wr v:=by
 obtain⟨a,c,rfl, -, -, -,hat⟩:=own_at h.ro
 refine Marks_any own a c wr hl hat (fun x hx=> ?_) ht
 obtain⟨h1,h2,h3,h4,h5,h6⟩:=h.mo x hx
 exact⟨h1.kept (Keeps.ofBelow (F:=Non) h.below),h2,h3,h4,h5,h6⟩
theorem all_kinds {l:List MkA} (h: ∀x∈l,x.m.kind≠6):marksB l=newB.runs (l.map (·.m)):=by
 unfold marksB
 congr 1
 have:=upto_all (l:=l) (k:=l.length) (Nat.le_refl _) (by rw[List.take_of_length_le (Nat.le_refl _)];exact h)
 rw[this,List.take_of_length_le (Nat.le_refl _),List.drop_eq_nil_of_le (Nat.le_refl _)]
 simp
theorem txt_app (A B:List MkA):txtN (A++B)=txtN A+txtN B:=by
 induction A with
 |nil=>rw[List.nil_append,txtN,Nat.zero_add]
 |cons x A ih=>rw[List.cons_append,txtN,txtN,ih,Nat.add_assoc]
end
end
section
open Go.RowKit Mem
theorem cells5 {w:World} {B:Nat} {v0 v1 v2 v3 v4:Value} {t:TypeId} (h:w.heap[B]?=some (.cells #[v0,v1,v2,v3,v4] t (0,0))) :
 (w.cell? ⟨B,0,none⟩=some v0∧w.cell? ⟨B,1,none⟩=some v1∧w.cell? ⟨B,2,none⟩=some v2∧w.cell? ⟨B,3,none⟩=some v3∧w.cell? ⟨B,4,none⟩=some v4)∧(∀j,j<5→w.frozen? ⟨B,j,none⟩=false):=by
 refine⟨?_,fun j hj=>by simp[World.frozen?,h]⟩
 refine⟨?_,?_,?_,?_,?_⟩ <;>simp[World.cell?,h]
def asA (m:BMark):MkA:=⟨m,none,0⟩
theorem asA_ma {w:World} {m:BMark} (h1:m.attrs= []) (h2:m.text.size≤4611686018427387904) (h3:m.name.size≤maxLen):MA Non w (asA m).m (asA m).a (asA m).c:=by
 refine⟨?_,fun _=>rfl,by show m.attrs.length≤_;rw[h1];exact Nat.zero_le _,fun p hp=> ?_,h2,h3⟩
 ·show AtF Non w none (pairsV m.attrs)
  rw[h1]
  intro j u hj
  simp[pairsV]at hj
 ·have hp':p∈m.attrs:=hp
  rw[h1]at hp'
  cases hp'
end
end Go.Proofs.YtgepobccoffnaaaGreatDoor
