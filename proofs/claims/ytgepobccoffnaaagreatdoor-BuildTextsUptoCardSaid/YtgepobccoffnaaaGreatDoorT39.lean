/- Texts joined for a claim: CuRl, CuBl, BuSw, CuMp: plain laws and contracts. No conditions beyond those that each lemma types. -/
import Derived.Test.YtgepobccoffnaaaGreatDoorT32
import Derived.Test.YtgepobccoffnaaaGreatDoorT38
import Derived.Test.YtgepobccoffnaaaGreatDoorT27
import Derived.Test.YtgepobccoffnaaaGreatDoorT31
set_option linter.unusedVariables false
set_option linter.unusedSimpArgs false
set_option maxRecDepth 100000
set_option maxHeartbeats 8000000
namespace Go.Proofs.YtgepobccoffnaaaGreatDoor
open Go.RowKit Mem
def bmOf (x:Rd.MarkD):BMark:=⟨x.kind,Rd.strB x.name,Rd.attP x.attrs,x.self,Rd.strB x.text⟩
def RdAt (w:World) (b:Nat) (m:Rd.MkM):Prop:=Row w b (Rd.machV m)
def NextR (base:Nat) (o:Option Rd.MarkD×Rd.MkM) (r:Ending) (w':World):Prop:=match o.1 with
 |some x=> ∃a c,r= .returned (.tuple #[markA (bmOf x).kind (bmOf x).name a (bmOf x).attrs.length c (bmOf x).self (bmOf x).text,.int .i64 0])∧w'.ownsRow base 57 2 (.slice a (bmOf x).attrs.length c) (bmOf x).attrs.length (pairsV (bmOf x).attrs)
 |none=>r= .returned (.tuple #[markA (if o.2.err≠0 then 0 else 6) ⟨#[]⟩ none 0 0 false ⟨#[]⟩,.int .i64 o.2.err])
theorem pairs_twin: ∀l:List Pair,Rd.Mem.pairsV l=pairsV l
 | []=>rfl
 |p::r=>by rw[Rd.Mem.pairsV,pairsV,pairs_twin r]
theorem keeps_twin {F:Nat→Prop} {w w':World} (h:Rd.Mem.Keeps F w w'):Keeps F w w':=⟨h.os,h.tape,h.output,h.size,h.block⟩
theorem rd_new (s:ByteArray) (w:World) (hs:s.size≤100000000) :
 Calls Tryz.prog 17 #[.string s] w fun r w'=>r= .returned (.pointer (some ⟨w.heap.size,0,none⟩))∧RdAt w' w.heap.size (Rd.newP s.toList)∧Below w.heap.size w w':=Rd.NewP_any s w hs
theorem rd_next (m:Rd.MkM) (b:Nat) (w:World) (hr:RdAt w b m) (hl:m.buf.length≤4294967280) (hL:Rd.liteB m=true) :
 Calls Tryz.prog 19 #[.pointer (some ⟨b,0,none⟩)] w fun r w'=>NextR w.heap.size (Rd.readF m) r w'∧RdAt w' b (Rd.readF m).2∧Keeps (fun k=>k=b) w w':=by
 refine(Rd.NextP_lite m b w hr hl (Rd.liteB_of hL)).mono fun r w' ⟨h1,h2,h3⟩=>⟨?_,h2,keeps_twin h3⟩
 unfold Rd.NextAt at h1
 unfold NextR
 cases e:(Rd.readF m).1 with
 |some x =>
  rw[e]at h1
  simp only at h1 ⊢
  obtain⟨sl,hr,ho⟩:=h1
  obtain⟨a,c,rfl, -⟩:=own_at ho
  rw[pairs_twin]at ho
  have hl:x.attrs.length=(bmOf x).attrs.length:=by simp[bmOf,Rd.attP]
  rw[hl]at hr ho
  exact⟨a,c,hr,ho⟩
 |none =>
  rw[e]at h1
  simp only at h1 ⊢
  rw[h1]
  split <;>rfl
theorem rd_cdata (m:Rd.MkM) (b:Nat) (v:Bool) (w:World) (hr:RdAt w b m) :
 Calls Tryz.prog 24 #[.pointer (some ⟨b,0,none⟩),.bool v] w fun r w'=>r= .returned (.tuple #[])∧RdAt w' b {m with cdata:=v}∧Keeps (fun k=>k=b) w w' :=
 (Rd.CdataP_any m b v w hr).mono fun _ _ ⟨h1,h2,h3⟩=>⟨h1,h2,keeps_twin h3⟩
noncomputable def litR:Nat→Rd.MkM→BuD→Option (NT×Int)
 |0,_,_=>none
 |k+1,m,b=>if Rd.liteB m&&decide (m.buf.length≤1000)then(match(Rd.readF m).1 with
  |none=>if(Rd.readF m).2.err=0 then some (b.endN,b.endE)else none
  |some x=>if x.attrs.isEmpty&&decide (x.kind≠6)&&decide (x.name.length≤1000)&&decide (x.text.length≤1000)&&decide ((b.DoF (bmOf x)).err=0)&&decide ((b.DoF (bmOf x)).raw=0)then litR k {(Rd.readF m).2 with cdata:=(b.DoF (bmOf x)).tops !=0} (b.DoF (bmOf x))else none)else none
theorem litR_pos {k:Nat} {m:Rd.MkM} {b:BuD} {Q:NT×Int} (h:litR k m b=some Q): ∃j,k=j+1∧Rd.liteB m=true∧m.buf.length≤1000:=by
 cases k with
 |zero=>cases h
 |succ k =>
  rw[litR]at h
  by_cases hc:(Rd.liteB m&&decide (m.buf.length≤1000))=true
  ·rw[Bool.and_eq_true,decide_eq_true_eq]at hc
   exact⟨k,rfl,hc⟩
  ·rw[if_neg hc]at h
   cases h
theorem litR_none {k:Nat} {m:Rd.MkM} {b:BuD} {Q:NT×Int} (h:litR (k+1) m b=some Q) (e:(Rd.readF m).1=none):(Rd.readF m).2.err=0∧Q=(b.endN,b.endE):=by
 obtain⟨_,_,h1,h2⟩:=litR_pos h
 rw[litR,if_pos (by simp[h1,h2])]at h
 simp only[e]at h
 split at h
 ·exact⟨by assumption,(Option.some.inj h).symm⟩
 ·cases h
theorem litR_some {k:Nat} {m:Rd.MkM} {b:BuD} {Q:NT×Int} {x:Rd.MarkD} (h:litR (k+1) m b=some Q) (e:(Rd.readF m).1=some x):x.attrs= []∧x.kind≠6∧x.name.length≤1000∧x.text.length≤1000∧(b.DoF (bmOf x)).err=0∧(b.DoF (bmOf x)).raw=0∧litR k {(Rd.readF m).2 with cdata:=(b.DoF (bmOf x)).tops !=0} (b.DoF (bmOf x))=some Q:=by
 obtain⟨_,_,h1,h2⟩:=litR_pos h
 rw[litR,if_pos (by simp[h1,h2])]at h
 simp only[e]at h
 split at h
 ·rename_i hc
  simp only[Bool.and_eq_true,decide_eq_true_eq,List.isEmpty_iff]at hc
  obtain⟨⟨⟨⟨⟨a1,a2⟩,a3⟩,a4⟩,a5⟩,a6⟩:=hc
  exact⟨a1,a2,a3,a4,a5,a6,h⟩
 ·cases h
section
def zeroN:Array Value:= #[.int .i64 0,.int .i64 0,.string ⟨#[]⟩,.slice none 0 0,.string ⟨#[]⟩,.slice none 0 0]
structure BR (w:World) (rb bb0:Nat) (Q:NT×Int) (k:Nat) (E:BE) (ws:World) (n:Nat) (m:Rd.MkM) (b:BuD) (wr:World):Prop where
 bi:BI E ws n b wr
 bb:E.bb=bb0
 w0:E.w0=w
 exr:E.ex rb
 exo:E.ex w.heap.size
 rd:RdAt wr rb m
 out:wr.heap[w.heap.size]?=some (.cells zeroN 26 (0,0))
 q:litR k m b=some Q
 bu:n+1000*k≤4611686018427387904
section
variable {w wr w':World} {rb bb0 k n:Nat} {Q:NT×Int} {E:BE} {ws:World} {m:Rd.MkM} {b:BuD}
theorem BR.next (h:BR w rb bb0 Q k E ws n m b wr) (hrb:w.heap.size<rb) (hne:rb≠bb0) (hk:Keeps (fun j=>j=rb) wr w') {m2:Rd.MkM} (hr:RdAt w' rb m2) :
 ∃E2:BE,E2.bb=bb0∧E2.w0=w∧E2.ex rb∧E2.ex w.heap.size∧(∀j,wr.heap.size≤j→j<w'.heap.size→E2.ex j)∧BI E2 w' n b w'∧w'.heap[w.heap.size]?=some (.cells zeroN 26 (0,0))∧E2.bb<wr.heap.size:=by
 have h1:=h.bi.foreign hk (fun j hj=>by
  have:j=rb:=hj
  subst this
  exact⟨h.exr,by rw[h.w0];omega,by rw[h.bb];exact hne⟩)
 exact⟨{E with ex:=fun j=>E.ex j∨(wr.heap.size≤j∧j<w'.heap.size)},h.bb,h.w0,.inl h.exr,.inl h.exo,fun j h2 h3=> .inr ⟨h2,h3⟩,h1,(hk.block _ (row_lt h.out) (by omega)).trans h.out,h.bi.bld.bm.lt⟩
end
theorem bmOf_len (x:Rd.MarkD):(bmOf x).attrs.length=x.attrs.length:=by simp[bmOf,Rd.attP]
theorem bmOf_ma {F:Nat→Prop} {u:World} {x:Rd.MarkD} {a:Option Addr} {c base:Nat} (ha:x.attrs= []) (hn:x.name.length≤1000) (ht:x.text.length≤1000)
 (ho:u.ownsRow base 57 2 (.slice a (bmOf x).attrs.length c) (bmOf x).attrs.length (pairsV (bmOf x).attrs)) (hF: ∀j,base≤j→j<u.heap.size→ ¬F j):MA F u (bmOf x) a c:=by
 obtain⟨a',c',hv,q1,q2,q3,hat⟩:=own_at ho
 cases hv
 have he:(bmOf x).attrs= []:=by simp[bmOf,Rd.attP,ha]
 refine⟨AtF.of_new hat fun j o s e=> ?_,q3,by rw[bmOf_len,ha];decide,(fun p hp=>by rw[he]at hp;cases hp),?_,?_⟩
 ·obtain⟨h1,h2⟩:=ho.lt j (by rw[e];rfl)
  exact hF j h1 h2
 ·show(Rd.strB x.text).size≤_
  rw[Rd.strB_size]
  omega
 ·show(Rd.strB x.name).size≤_
  rw[Rd.strB_size]
  unfold maxLen
  omega
structure BT (w:World) (rb bb0:Nat) (Q:NT×Int) (k:Nat) (E:BE) (n:Nat) (m:Rd.MkM) (b:BuD) (x:Rd.MarkD) (a:Option Addr) (c:Nat) (u:World):Prop where
 bi:BI E u n b u
 bb:E.bb=bb0
 w0:E.w0=w
 exr:E.ex rb
 exo:E.ex w.heap.size
 rd:RdAt u rb m
 out:u.heap[w.heap.size]?=some (.cells zeroN 26 (0,0))
 ma:MA (OB E) u (bmOf x) a c
 bu:n+(bmOf x).text.size+1000*k≤4611686018427387904
 q:litR k {m with cdata:=(b.DoF (bmOf x)).tops !=0} (b.DoF (bmOf x))=some Q
section
variable {w wr w' u:World} {rb bb0 k n:Nat} {Q:NT×Int} {E:BE} {ws:World} {m:Rd.MkM} {b:BuD} {x:Rd.MarkD} {a:Option Addr} {c:Nat}
theorem BR.told (h:BR w rb bb0 Q (k+1) E ws n m b wr) (hrb:w.heap.size<rb) (hne:rb≠bb0) (hk:Keeps (fun j=>j=rb) wr w') (hr:RdAt w' rb (Rd.readF m).2) (e:(Rd.readF m).1=some x)
 (ho:w'.ownsRow wr.heap.size 57 2 (.slice a (bmOf x).attrs.length c) (bmOf x).attrs.length (pairsV (bmOf x).attrs)): ∃E2,BT w rb bb0 Q k E2 n (Rd.readF m).2 b x a c w':=by
 obtain⟨E2,h1,h2,h3,h4,h5,h6,h7,h8⟩:=h.next hrb hne hk hr
 obtain⟨g1,g2,g3,g4,g5,g6,g7⟩:=litR_some h.q e
 refine⟨E2,h6,h1,h2,h3,h4,hr,h7,bmOf_ma g1 g3 g4 ho fun j hj hj' hx=> ?_,?_,g7⟩
 ·rcases hx with hx|hx
  ·exact hx.2 (h5 j hj hj')
  ·have:j=E2.bb:=hx
   omega
 ·have:(bmOf x).text.size=x.text.length:=Rd.strB_size _
  rw[this]
  have:=h.bu
  omega
theorem BT.do (h:BT w rb bb0 Q k E n m b x a c u) (hne:rb≠bb0) (hno:w.heap.size≠bb0) (hb:Below u.heap.size u w'):Calls Tryz.prog 21 #[.pointer (some ⟨bb0,0,none⟩),markA (bmOf x).kind (bmOf x).name a (bmOf x).attrs.length c (bmOf x).self (bmOf x).text] w' fun r v=>r= .returned (.int .i64 (b.DoF (bmOf x)).err) ∧
 BI E u (n+(bmOf x).text.size) (b.DoF (bmOf x)) v∧RdAt v rb m∧v.heap[w.heap.size]?=some (.cells zeroN 26 (0,0)):=by
 have h1:=Do_bi (h.bi.world hb) (h.ma.world hb) (by have:=h.bu;omega)
 rw[h.bb]at h1
 refine h1.mono fun r v ⟨hr,hv⟩=>⟨hr,hv,?_,?_⟩
 ·exact h.rd.kept (h.bi.other hv.bld.keep h.exr (by rw[h.bb];exact hne))
 ·exact(h.bi.other hv.bld.keep h.exo (by rw[h.bb];exact hno)).trans h.out
theorem BT.again (h:BT w rb bb0 Q k E n m b x a c u) (hrb:w.heap.size<rb) (hne:rb≠bb0) {v v1:World} (hv:BI E u (n+(bmOf x).text.size) (b.DoF (bmOf x)) v) (ho:v.heap[w.heap.size]?=some (.cells zeroN 26 (0,0)))
 (hk:Keeps (fun j=>j=rb) v v1) (hr:RdAt v1 rb {m with cdata:=(b.DoF (bmOf x)).tops !=0}): ∃E2 ws2,BR w rb bb0 Q k E2 ws2 (n+(bmOf x).text.size) {m with cdata:=(b.DoF (bmOf x)).tops !=0} (b.DoF (bmOf x)) v1:=by
 have h1:=hv.foreign hk (fun j hj=>by
  have:j=rb:=hj
  subst this
  exact⟨h.exr,by rw[h.w0];omega,by rw[h.bb];exact hne⟩)
 exact⟨{E with ex:=fun j=>E.ex j∨(v.heap.size≤j∧j<v1.heap.size)},_,h1,h.bb,h.w0,.inl h.exr,.inl h.exo,hr,(hk.block _ (row_lt ho) (by omega)).trans ho,h.q,h.bu⟩
end
theorem zero_row {u:World} {R:Nat} (h:u.heap[R]?=some (.cells zeroN 26 (0,0))):u.heap[R]?=some (.cells #[.int .i64 0,.int .i64 0,.string ⟨#[]⟩,.slice none 0 0,.string ⟨#[]⟩,.slice none 0 0] 26 (0,0)):=h
theorem build_done {w u:World} (hb:Below w.heap.size w u) (x0 x1 x2 x3 x4 x5:Value):Below w.heap.size w (set6 u w.heap.size 0 x0 x1 x2 x3 x4 x5) :=
 (((((hb.setCell (p:=⟨w.heap.size,0,none⟩) (Nat.le_refl _) x0).setCell (p:=⟨w.heap.size,1,none⟩) (Nat.le_refl _) x1).setCell (p:=⟨w.heap.size,2,none⟩) (Nat.le_refl _) x2).setCell (p:=⟨w.heap.size,3,none⟩) (Nat.le_refl _) x3).setCell (p:=⟨w.heap.size,4,none⟩) (Nat.le_refl _) x4).setCell (p:=⟨w.heap.size,5,none⟩) (Nat.le_refl _) x5
theorem Build_lite (s:ByteArray) (Q:NT×Int) (hQ:litR 100 (Rd.newP s.toList) newB=some Q) (w:World) (hs:s.size≤100000000) :
 Calls Tryz.prog 7 #[.string s] w fun r w'=> ∃cs,r= .returned (.tuple #[.agg cs.toArray,.int .i64 Q.2])∧NodeC (· <w.heap.size) w' cs Q.1∧Below w.heap.size w w':=by
 have hb0:=(Below.refl w.heap.size w).alloc (Nat.le_refl _) (.cells #[.int .i64 0,.int .i64 0,.string ⟨#[]⟩,.slice none 0 0,.string ⟨#[]⟩,.slice none 0 0] 26)
 have hr0:=heap_alloc_new w (.cells #[.int .i64 0,.int .i64 0,.string ⟨#[]⟩,.slice none 0 0,.string ⟨#[]⟩,.slice none 0 0] 26)
 have HNw:=Lib.hid (rd_new s (w.alloc (.cells #[.int .i64 0,.int .i64 0,.string ⟨#[]⟩,.slice none 0 0,.string ⟨#[]⟩,.slice none 0 0] 26)) hs)
 have HB0:=Lib.hid hb0
 have HR0:=Lib.hid hr0
 have HQ:=Lib.hid hQ
 clear hb0 hr0 hQ
 go_enter Tryz.func7,Tryz.ntmps7
 go_wp2_with (first
  |(go_at_call 17;go_must (refine HNw.out.mono ?_;rintro e w1 ⟨rfl,hr1,hb1⟩;have HR1:=Lib.hid hr1;have HB1:=Lib.hid (belowCall HB0.out hb1);have HO1:=Lib.hid ((hb1.block _ (row_lt HR0.out)).trans HR0.out);have HZ1:=Lib.hid hr1.lt;clear hr1 hb1))
  |(go_at_call 18;go_must (refine(New_bi w _ HB1.out).mono ?_;rintro e w2 ⟨E,he0,rfl,hbi,hb2,hex,hbb,hbl⟩;have HI:=Lib.hid hbi;have HB2:=Lib.hid hb2;have HEx:=Lib.hid hex;have HE0:=Lib.hid he0;have HZ2:Hid (w.heap.size+1<E.bb):=Lib.hid (by have h1:=HZ1.out;have h2:=hbb;simp at h1;omega);clear hbi hb2 hex he0 hbb hbl)))
 have HS:Hid (BR w (w.heap.size+1) E.bb Q 100 E w2 0 (Rd.newP s.toList) newB w2):=Lib.hid
  ⟨HI.out,rfl,HE0.out,HEx.out _ (by omega) (by have:=HZ1.out;simpa using this),HEx.out _ (by omega) (by have:=HZ1.out;simp at this;omega),by
   have h1:=HR1.out
   rw[World.size_alloc]at h1
   exact h1.kept (HB2.out.block _ h1.lt),(HB2.out.block _ (row_lt HO1.out)).trans HO1.out,HQ.out,by decide⟩
 obtain⟨bb0,hbb⟩: ∃bb0,bb0=E.bb:=⟨_,rfl⟩
 rw[←hbb]at HS HZ2 ⊢
 have hne:w.heap.size+1≠bb0:=by have:=HZ2.out;omega
 have hno:w.heap.size≠bb0:=by have:=HZ2.out;omega
 have hrb:w.heap.size<w.heap.size+1:=by omega
 clear HI HB2 HEx HE0 HZ2 HZ1 HR1 HB1 HO1 HNw HB0 HR0 HQ hbb
 go_loopg [] 100 (fun g wr=> ∃k E ws n m b,k≤g∧Hid (BR w (w.heap.size+1) bb0 Q k E ws n m b wr))
 case atStart=>exact⟨_,_,_,_,_,_,Nat.le_refl _,HS⟩
 case round =>
  clear HS
  obtain⟨k,E,ws,n,m,b,hkg,HR⟩:=hrel
  obtain⟨k,rfl,hlt,hbf⟩:=litR_pos HR.out.q
  have HNx:=Lib.hid (rd_next m (w.heap.size+1) wr HR.out.rd (by omega) hlt)
  clear hlt hbf
  cases hrd:(Rd.readF m).1 with
  |none =>
   have HN:Hid (∀r u,NextR wr.heap.size (Rd.readF m) r u→r= .returned (.tuple #[markA (if(Rd.readF m).2.err≠0 then 0 else 6) ⟨#[]⟩ none 0 0 false ⟨#[]⟩,.int .i64 (Rd.readF m).2.err])):=Lib.hid fun r u h=>by
    unfold NextR at h
    rw[hrd]at h
    exact h
   have HK:Hid (∀u,RdAt u (w.heap.size+1) (Rd.readF m).2→Keeps (fun j=>j=w.heap.size+1) wr u→ ∃E2:BE,E2.bb=bb0∧E2.w0=w∧BI E2 u n b u∧u.heap[w.heap.size]?=some (.cells zeroN 26 (0,0))∧E2.ex w.heap.size):=Lib.hid fun u h1 h2=>by
    obtain⟨E2,q1,q2, -,q4, -,q6,q7, -⟩:=HR.out.next hrb hne h2 h1
    exact⟨E2,q1,q2,q6,q7,q4⟩
   have hn0:n≤4611686018427387904:=by have:=HR.out.bu;omega
   obtain⟨her,hq⟩:=litR_none HR.out.q hrd
   rw[if_neg (fun h=>h her),her]at HN
   have HQ2:=Lib.hid hq
   clear HR her hrd hq
   go_wp2_with (first
    |(go_at_call 19;go_must (refine HNx.out.mono ?_;rintro e w3 ⟨hnx,hrd,hkp⟩;have hnx':=HN.out _ _ hnx;subst hnx';obtain⟨E2,hb2,hw2,hbi,hout,hex⟩:=HK.out _ hrd hkp;have HI:=Lib.hid (hbi.world ((Below.refl _ _).alloc (Nat.le_refl _) (.cells #[.int .i64 6,.string ⟨#[]⟩,.slice none 0 0,.bool false,.string ⟨#[]⟩] 38)));have HEn:=Lib.hid (End_bi HI.out hn0);rw[hb2,hw2]at HEn;have HO:=Lib.hid ((Below.heap_alloc w3 (.cells #[.int .i64 6,.string ⟨#[]⟩,.slice none 0 0,.bool false,.string ⟨#[]⟩] 38) w.heap.size (row_lt hout)).trans hout);have HX:=Lib.hid hex;have HB2:=Lib.hid hb2;clear hnx hrd hkp hbi hout hb2 hw2 hex))
    |(go_at_call 20;go_must (refine HEn.out.mono ?_;rintro e w4 ⟨cs,rfl,hnc,hbw,hkb⟩;obtain⟨g0,g1,g2,g3,g4,g5,g6,g7,g8,g9,rfl⟩:=nodeC_form hnc;have hrw:=(HI.out.other hkb HX.out (by rw[HB2.out];exact hno)).trans HO.out;obtain⟨⟨z0,z1,z2,z3,z4,z5⟩,t0,t1,t2,t3,t4,t5⟩:=cells6 (zero_row hrw);have HNC:=Lib.hid hnc;have HBW:=Lib.hid hbw;have HRW:=Lib.hid (fun x0 x1 x2 x3 x4 x5=>put6_heap x0 x1 x2 x3 x4 x5 (zero_row hrw));have HZ3:=Lib.hid (row_lt HO.out);unfold nodeV;clear hnc hbw hkb hrw)))
   refine bodyPost_ret (ret_node rfl _ _ w.heap.size _ _ _ _ (.int .i64 b.endE) (by rfl) (by rfl) (HRW.out _ _ _ _ _ _) Tryz.underlying26 rfl size_out) rfl ?_
   rw[HQ2.out]
   refine⟨_,rfl,?_,build_done HBW.out _ _ _ _ _ _⟩
   exact(HNC.out.kept (put6_keeps (F:=fun j=>j<(w3.alloc (.cells #[.int .i64 6,.string ⟨#[]⟩,.slice none 0 0,.bool false,.string ⟨#[]⟩] 38)).heap.size) (O:=w.heap.size) _ _ _ _ _ _ (Keeps.refl _ w4) (.inl HZ3.out))).other fun j _ hx=>by have h1:=HZ3.out;have h2:j<w.heap.size:=hx;show j<_;omega
  |some x =>
   have HN:Hid (∀r u,NextR wr.heap.size (Rd.readF m) r u→ ∃a c,r= .returned (.tuple #[markA (bmOf x).kind (bmOf x).name a (bmOf x).attrs.length c (bmOf x).self (bmOf x).text,.int .i64 0])∧u.ownsRow wr.heap.size 57 2 (.slice a (bmOf x).attrs.length c) (bmOf x).attrs.length (pairsV (bmOf x).attrs)):=Lib.hid fun r u h=>by
    unfold NextR at h
    rw[hrd]at h
    exact h
   have HT:Hid (∀u a c,RdAt u (w.heap.size+1) (Rd.readF m).2→Keeps (fun j=>j=w.heap.size+1) wr u→u.ownsRow wr.heap.size 57 2 (.slice a (bmOf x).attrs.length c) (bmOf x).attrs.length (pairsV (bmOf x).attrs)→ ∃E2,BT w (w.heap.size+1) bb0 Q k E2 n (Rd.readF m).2 b x a c u):=Lib.hid fun u a c h1 h2 h3=>HR.out.told hrb hne h2 h1 hrd h3
   obtain⟨-,hk6', -, -,her,hraw, -⟩:=litR_some HR.out.q hrd
   have hk6:((bmOf x).kind==6)=false:=beq_eq_false_iff_ne.2 hk6'
   obtain⟨m2,hm2⟩: ∃m2,m2=(Rd.readF m).2:=⟨_,rfl⟩
   rw[←hm2]at HT
   have HM2:Hid (∀u,RdAt u (w.heap.size+1) (Rd.readF m).2→RdAt u (w.heap.size+1) m2):=Lib.hid fun u h=>hm2▸h
   clear HR hk6' hrd hm2
   have HDo:=Lib.hid (fun E2 a c u (h:BT w (w.heap.size+1) bb0 Q k E2 n m2 b x a c u) (o:Obj)=>h.do hne hno ((Below.refl _ _).alloc (Nat.le_refl _) o))
   have HAg:=Lib.hid (fun E2 a c u (h:BT w (w.heap.size+1) bb0 Q k E2 n m2 b x a c u) v v1=>h.again (v:=v) (v1:=v1) hrb hne)
   have HW0:=Lib.hid (fun E2 a c u (h:BT w (w.heap.size+1) bb0 Q k E2 n m2 b x a c u)=>h.bb)
   obtain⟨X,hX⟩: ∃X,X=bmOf x:=⟨_,rfl⟩
   rw[←hX]at HN HT hk6 HDo HAg her hraw
   obtain⟨cc,hcc⟩: ∃cc,cc=b.DoF X:=⟨_,rfl⟩
   rw[←hcc]at HDo HAg her hraw
   clear hX hcc
   rw[her]at HDo
   have hraw2:(cc.raw !=0)=false:=by rw[hraw];rfl
   clear her hraw
   go_wp2_with (first
    |(go_at_call 19;go_must (refine HNx.out.mono ?_;rintro e w3 ⟨hnx,hrd,hkp⟩;obtain⟨a,c,rfl,how⟩:=HN.out _ _ hnx;obtain⟨E2,hbt⟩:=HT.out _ a c (HM2.out _ hrd) hkp how;have HBT:=Lib.hid hbt;have HBb:=Lib.hid (HW0.out _ _ _ _ hbt);clear hnx hrd hkp how hbt))
    |(go_at_call 21;go_must (refine(HDo.out _ _ _ _ HBT.out _).mono ?_;rintro e w4 ⟨rfl,hbi4,hrd4,hout4⟩;have hre:=Reads_bi hbi4;rw[HBb.out]at hre;have HRe:=Lib.hid hre;have HRd4:=Lib.hid hrd4;have HO4:=Lib.hid hout4;clear hbi4 hrd4 hout4 hre))
    |(go_at_call 22;go_must (refine HRe.out.mono ?_;rintro e w5 ⟨rfl,hbi5,hb5⟩;have HI5:=Lib.hid hbi5;have HRd5:=Lib.hid (HRd4.out.kept (hb5.block _ HRd4.out.lt));have HO5:=Lib.hid ((hb5.block _ (row_lt HO4.out)).trans HO4.out);clear hbi5 hb5))
    |(go_at_call 24;go_must (refine(rd_cdata _ (w.heap.size+1) _ _ HRd5.out).mono ?_;rintro e w7 ⟨rfl,hrd7,hk7⟩;have HRd7:=Lib.hid hrd7;have HK7:=Lib.hid hk7;clear hrd7 hk7)))
   go_roundg k
   case measure=>omega
   case rel =>
    obtain⟨E3,ws3,h3⟩:=HAg.out _ _ _ _ HBT.out _ _ HI5.out HO5.out HK7.out HRd7.out
    exact⟨_,_,_,_,_,_,Nat.le_refl _,Lib.hid h3⟩
end
section
def sw (k:Bool) (b:BuD):Bool×ByteArray:=(b.skip,if k then⟨#[]⟩else b.wait)
def okN (x:ByteArray):Prop:=(x.toList==([112,114,101]:List UInt8))=false∧(x.toList==([108,105,115,116,105,110,103]:List UInt8))=false∧(x.toList==([116,101,120,116,97,114,101,97]:List UInt8))=false
section
variable {k:Bool} {b:BuD} {m:BMark}
theorem sw_keep (b:BuD) (e:Int):sw k (b.keep e)=sw k b:=by
 obtain⟨-, -, -, -,h1,h2, -⟩:=b.keep_all e
 unfold sw
 rw[h1,h2]
theorem sw_insSp (b:BuD) (sp:Int) (nm:ByteArray) (l:List Pair):sw k (b.insSp sp nm l).1=sw k b:=sw_keep _ _
theorem sw_ins (b:BuD) (nm:ByteArray) (l:List Pair):sw k (b.ins nm l)=sw k b:=sw_keep _ _
theorem sw_put (b:BuD) (t:ByteArray):sw k (b.putText t)=sw k b:=sw_keep _ _
theorem sw_restore (b:BuD):sw k b.restore=sw k b:=sw_keep _ _
theorem sw_adopt (b:BuD) (nm:ByteArray):sw k (b.adopt nm)=sw k b:=sw_keep _ _
theorem sw_raws (b:BuD) (m:BMark) (n:Int):sw k (b.raws m n)=sw k b:=sw_ins b m.name m.attrs
theorem sw_ite {p:Prop} [Decidable p] {r q:BuD} {n:Bool×ByteArray} (h1:sw k r=n) (h2:sw k q=n):sw k (if p then r else q)=n:=by
 by_cases h:p
 ·rw[if_pos h];exact h1
 ·rw[if_neg h];exact h2
theorem sw_ite1 {α:Type} {p:Prop} [Decidable p] {r q:BuD×α} {n:Bool×ByteArray} (h1:sw k r.1=n) (h2:sw k q.1=n):sw k (if p then r else q).1=n:=by
 by_cases h:p
 ·rw[if_pos h];exact h1
 ·rw[if_neg h];exact h2
theorem sw_heads (b:BuD) (m:BMark):sw k (b.heads m).1=sw k b:=by
 unfold BuD.heads
 exact sw_ite1 (sw_ins b m.name m.attrs) (sw_ite1 (sw_raws b m 1) (sw_ite1 (sw_raws b m 2) rfl))
theorem sw_paragraph (b:BuD):sw k b.paragraph=sw k b:=by unfold BuD.paragraph;exact sw_ite rfl rfl
theorem sw_itemR (names:List ByteArray) (b:BuD): ∀l,sw k (BuD.itemR names b l)=sw k b
 | []=>rfl
 |x::r=>by
  rw[BuD.itemR]
  exact sw_ite rfl (sw_ite rfl (sw_itemR names b r))
theorem sw_otherR (want:ByteArray) (b:BuD): ∀l,sw k (BuD.otherR want b l)=sw k b
 | []=>rfl
 |x::r=>by
  rw[BuD.otherR]
  exact sw_ite rfl (sw_ite rfl (sw_otherR want b r))
theorem sw_forms (b:BuD) (m:BMark):sw k (b.forms m)=sw k b:=by
 unfold BuD.forms
 exact sw_ite ((sw_ins _ _ _).trans (sw_restore b)) ((sw_ins b.restore m.name m.attrs).trans (sw_restore b))
theorem sw_verbatim (b:BuD) (hm:okN m.name):sw k (b.verbatim m)=sw k b:=by
 unfold BuD.verbatim
 rw[if_neg (by rw[hm.2.2];decide)]
 exact sw_ite ((sw_raws _ m 2).trans ((sw_restore _).trans (sw_paragraph b))) (sw_raws b m 2)
theorem sw_phrases (b:BuD) (m:BMark):sw k (b.phrases m)=sw k b:=by
 have h1: ∀c:BuD,sw k c=sw k b→sw k (if oneF [⟨#[97,112,112,108,101,116]⟩,⟨#[109,97,114,113,117,101,101]⟩,⟨#[111,98,106,101,99,116]⟩] m.name then(c.restore.ins m.name m.attrs).lmark else c.restore.ins m.name m.attrs)=sw k b:=fun c hc=>by
  have h2:sw k (c.restore.ins m.name m.attrs)=sw k b:=(sw_ins _ _ _).trans ((sw_restore c).trans hc)
  exact sw_ite h2 h2
 unfold BuD.phrases
 exact h1 _ (sw_ite (sw_ite rfl rfl) (sw_ite (sw_ite rfl rfl) rfl))
theorem sw_alien (b:BuD) (m:BMark) (sp:Int):sw k (b.alien m sp)=sw k b:=by
 unfold BuD.alien
 exact sw_ite (sw_insSp b sp _ _) (sw_insSp b sp _ _)
theorem sw_blocks (b:BuD) (hm:okN m.name):sw k (b.blocks m)=sw k b:=by
 have h2:sw k (BuD.paragraph (if m.name.toList==([108,105]:List UInt8)then b.item [⟨#[108,105]⟩]else if(m.name.toList==([100,100]:List UInt8))||(m.name.toList==([100,116]:List UInt8))then b.item [⟨#[100,100]⟩,⟨#[100,116]⟩]else b))=sw k b :=
  (sw_paragraph _).trans (sw_ite (sw_itemR _ _ _) (sw_ite (sw_itemR _ _ _) rfl))
 unfold BuD.blocks
 simp only
 generalize BuD.paragraph (if m.name.toList==([108,105]:List UInt8)then b.item [⟨#[108,105]⟩]else if(m.name.toList==([100,100]:List UInt8))||(m.name.toList==([100,116]:List UInt8))then b.item [⟨#[100,100]⟩,⟨#[100,116]⟩]else b)=b2 at h2 ⊢
 have h4:sw k (if headingB m.name&&b2.at' headN then b2.pop else b2)=sw k b:=sw_ite h2 h2
 generalize (if headingB m.name&&b2.at' headN then b2.pop else b2)=b3 at h4 ⊢
 have h5:sw k (b3.ins m.name m.attrs)=sw k b:=(sw_ins _ _ _).trans h4
 refine sw_ite ((sw_ins _ _ _).trans h2) ?_
 rw[hm.1,hm.2.1,if_neg (show ¬(false||false)=true by decide)]
 exact sw_ite h5 h5
theorem sw_opens (b:BuD) (hm:okN m.name):sw k (b.opens m).1=sw k b:=by
 rw[BuD.opens.eq_1]
 refine sw_ite1 rfl (sw_ite1 (sw_heads b m) (sw_ite1 (sw_blocks b hm) (sw_ite1 ?_ (sw_ite1 (sw_forms b m) (sw_ite1 ?_ (sw_ite1 (sw_ins b _ _) (sw_ite1 ((sw_ins b.restore _ _).trans (sw_restore b)) (sw_ite1 (sw_verbatim b hm) (sw_ite1 ((sw_alien _ _ _).trans (sw_restore b)) (sw_phrases b m))))))))))
 ·exact(sw_forms _ _).trans (sw_ite rfl (sw_adopt b _))
 ·exact(sw_forms _ _).trans (sw_ite ((sw_adopt _ _).trans (sw_restore b)) (sw_restore b))
theorem sw_ends (b:BuD) (sc:Int) (but:ByteArray) (names:List ByteArray):sw k (b.ends sc but names)=sw k b:=sw_ite rfl rfl
theorem sw_closes (b:BuD) (m:BMark):sw k (b.closes m).1=sw k b:=by
 rw[BuD.closes.eq_1]
 refine sw_ite1 (sw_ite1 rfl rfl) (sw_ite1 ((sw_paragraph _).trans (sw_ite rfl (sw_ins b _ _))) (sw_ite1 (sw_ends b _ _ _) (sw_ite1 (sw_ends b _ _ _) (sw_ite1 (sw_ends b _ _ _) (sw_ite1 (sw_ends b _ _ _) (sw_ite1 ?_ (sw_ite1 (sw_ite (sw_ends b _ _ _) rfl) (sw_ite1 ((sw_ins b.restore _ _).trans (sw_restore b)) (sw_otherR _ b _)))))))))
 exact sw_ite ((sw_otherR _ _ _).trans (sw_adopt b _)) (sw_adopt b _)
def SL (k:Bool) (b:BuD) (m:BMark) (r:BuD×BMark×Bool):Prop:=sw k r.1=sw k b∧r.2.1.kind=m.kind∧okN r.2.1.name
theorem sl_ite {p:Prop} [Decidable p] {r q:BuD×BMark×Bool} (h1:SL k b m r) (h2:SL k b m q):SL k b m (if p then r else q):=by
 by_cases h:p
 ·rw[if_pos h];exact h1
 ·rw[if_neg h];exact h2
theorem SL.same {c:BuD} {t:Bool} (hm:okN m.name) (h:sw k c=sw k b):SL k b m (c,m,t):=⟨h,rfl,hm⟩
theorem opens_ok (b:BuD) (hm:okN m.name):(b.opens m).2.kind=m.kind∧okN (b.opens m).2.name:=by
 have hi: ∀ {p:Prop} [Decidable p] {r q:BuD×BMark},(r.2.kind=m.kind∧okN r.2.name)→(q.2.kind=m.kind∧okN q.2.name)→((if p then r else q).2.kind=m.kind∧okN (if p then r else q).2.name):=fun {p _ r q} h1 h2=>by
  by_cases h:p
  ·rw[if_pos h];exact h1
  ·rw[if_neg h];exact h2
 have h0: ∀c:BuD,((c,m).2.kind=m.kind∧okN (c,m).2.name):=fun _=>⟨rfl,hm⟩
 rw[BuD.opens.eq_1]
 refine hi (h0 _) (hi (h0 _) (hi (h0 _) (hi (h0 _) (hi (h0 _) (hi (h0 _) (hi (h0 _) (hi ?_ (hi (h0 _) (hi (h0 _) (h0 _))))))))))
 show(if m.name.toList==([105,109,97,103,101]:List UInt8)then {m with name:=(⟨#[105,109,103]⟩:ByteArray)}else m:BMark).kind=m.kind∧okN (if m.name.toList==([105,109,97,103,101]:List UInt8)then {m with name:=(⟨#[105,109,103]⟩:ByteArray)}else m:BMark).name
 by_cases h:(m.name.toList==([105,109,97,103,101]:List UInt8))=true
 ·rw[if_pos h]
  exact⟨rfl,by kernel_rfl,by kernel_rfl,by kernel_rfl⟩
 ·rw[if_neg h]
  exact⟨rfl,hm⟩
theorem sl_inBody (b:BuD) (hm:okN m.name):SL k b m (b.inBody m):=by
 rw[BuD.inBody.eq_1]
 exact sl_ite (.same hm ((sw_put _ _).trans (sw_restore b))) (sl_ite ⟨sw_opens b hm,opens_ok b hm⟩ (sl_ite (.same hm (sw_closes b m)) (.same hm rfl)))
end
theorem flush_none {b:BuD} (h:b.wait=⟨#[]⟩):b.flush=b:=by
 unfold BuD.flush
 rw[h,if_pos (show(ByteArray.toList ⟨#[]⟩).isEmpty=true by kernel_rfl)]
 cases b
 cases h
 rfl
end
noncomputable def BuD.runs (b:BuD) (l:List BMark):BuD:=l.foldl BuD.DoF b
theorem runs_snoc (b:BuD) (l:List BMark) (m:BMark):b.runs (l++ [m])=(b.runs l).DoF m:=by
 unfold BuD.runs
 rw[List.foldl_append]
 rfl
theorem runs_more (b:BuD) (l r:List BMark):b.runs (l++r)=(b.runs l).runs r:=List.foldl_append
theorem DoF_err {b:BuD} {m:BMark} (h:b.err≠0):b.DoF m=b:=by unfold BuD.DoF;rw[if_neg h]
end Go.Proofs.YtgepobccoffnaaaGreatDoor
