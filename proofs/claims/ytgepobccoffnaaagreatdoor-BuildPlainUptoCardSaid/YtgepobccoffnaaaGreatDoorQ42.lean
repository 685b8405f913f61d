/- Texts joined for a claim: CuRp, CuBp, CuEp, CuSp: plain laws and contracts. No conditions beyond those that each lemma types. -/
import Derived.Test.YtgepobccoffnaaaGreatDoorQ32
import Derived.Test.YtgepobccoffnaaaGreatDoorQ41
set_option linter.unusedVariables false
set_option linter.unusedSimpArgs false
set_option maxRecDepth 100000
set_option maxHeartbeats 8000000
namespace Go.Proofs.YtgepobccoffnaaaGreatDoor
open Go.RowKit Mem
def bmOf (x:Rd.MarkD):BMark:=⟨x.kind,Rd.strB x.name,Rd.attP x.attrs,x.self,Rd.strB x.text⟩
def RdAt (w:World) (b:Nat) (m:Rd.MkM):Prop:=Row w b (Rd.machV m)
def NextR (base:Nat) (o:Option Rd.MarkD×Rd.MkM) (r:Ending) (w':World):Prop:=match o.1 with
 |some x=> ∃a c,r= .returned (.tuple #[markA (bmOf x).kind (bmOf x).name a (bmOf x).attrs.length c (bmOf x).self (bmOf x).text,.int .i64 0])∧w'.ownsRow base 57 2 (.slice a (bmOf x).attrs.length c) (bmOf x).attrs.length (pairsV (bmOf x).attrs)
 |none=>r= .returned (.tuple #[markA (if o.2.err≠0 then 0 else 6) ⟨#[]⟩ none 0 0 false ⟨#[]⟩,.int .i64 o.2.err])
theorem pairs_twin: ∀l:List Pair,Rd.Mem.pairsV l=pairsV l
 | []=>rfl
 |p::r=>by rw[Rd.Mem.pairsV,pairsV,pairs_twin r]
theorem keeps_twin {F:Nat→Prop} {w w':World} (h:Rd.Mem.Keeps F w w'):Keeps F w w':=⟨h.os,h.tape,h.output,h.size,h.block⟩
theorem rd_new (s:ByteArray) (w:World) (hs:s.size≤100000000) :
 Calls Tryz.prog 17 #[.string s] w fun r w'=>r= .returned (.pointer (some ⟨w.heap.size,0,none⟩))∧RdAt w' w.heap.size (Rd.newP s.toList)∧Below w.heap.size w w':=Rd.NewP_any s w hs
theorem rd_next (m:Rd.MkM) (b:Nat) (w:World) (hr:RdAt w b m) (hl:m.buf.length≤4294967280) (hL:Rd.liteB m=true) :
 Calls Tryz.prog 19 #[.pointer (some ⟨b,0,none⟩)] w fun r w'=>NextR w.heap.size (Rd.readF m) r w'∧RdAt w' b (Rd.readF m).2∧Keeps (fun k=>k=b) w w':=by
 refine(Rd.NextP_lite m b w hr hl (Rd.liteB_of hL)).mono fun r w' ⟨h1,h2,h3⟩=>⟨?_,h2,keeps_twin h3⟩
 unfold Rd.NextAt at h1
 unfold NextR
 cases e:(Rd.readF m).1 with
 |some x =>
  rw[e]at h1
  simp only at h1 ⊢
  obtain⟨sl,hr,ho⟩:=h1
  obtain⟨a,c,rfl, -⟩:=own_at ho
  rw[pairs_twin]at ho
  have hl:x.attrs.length=(bmOf x).attrs.length:=by simp[bmOf,Rd.attP]
  rw[hl]at hr ho
  exact⟨a,c,hr,ho⟩
 |none =>
  rw[e]at h1
  simp only at h1 ⊢
  rw[h1]
  split <;>rfl
theorem rd_cdata (m:Rd.MkM) (b:Nat) (v:Bool) (w:World) (hr:RdAt w b m) :
 Calls Tryz.prog 24 #[.pointer (some ⟨b,0,none⟩),.bool v] w fun r w'=>r= .returned (.tuple #[])∧RdAt w' b {m with cdata:=v}∧Keeps (fun k=>k=b) w w' :=
 (Rd.CdataP_any m b v w hr).mono fun _ _ ⟨h1,h2,h3⟩=>⟨h1,h2,keeps_twin h3⟩
noncomputable def litR:Nat→Rd.MkM→BuD→Option (NT×Int)
 |0,_,_=>none
 |k+1,m,b=>if Rd.liteB m&&decide (m.buf.length≤100000000)then(match(Rd.readF m).1 with
  |none=>if(Rd.readF m).2.err=0 then some (b.endN,b.endE)else none
  |some x=>if x.attrs.isEmpty&&decide (x.kind≠6)&&decide (x.name.length≤1000)&&decide (x.text.length≤100000000)&&decide ((b.DoF (bmOf x)).err=0)&&decide ((b.DoF (bmOf x)).raw=0)then litR k {(Rd.readF m).2 with cdata:=(b.DoF (bmOf x)).tops !=0} (b.DoF (bmOf x))else none)else none
theorem litR_pos {k:Nat} {m:Rd.MkM} {b:BuD} {Q:NT×Int} (h:litR k m b=some Q): ∃j,k=j+1∧Rd.liteB m=true∧m.buf.length≤100000000:=by
 cases k with
 |zero=>cases h
 |succ k =>
  rw[litR]at h
  by_cases hc:(Rd.liteB m&&decide (m.buf.length≤100000000))=true
  ·rw[Bool.and_eq_true,decide_eq_true_eq]at hc
   exact⟨k,rfl,hc⟩
  ·rw[if_neg hc]at h
   cases h
theorem litR_none {k:Nat} {m:Rd.MkM} {b:BuD} {Q:NT×Int} (h:litR (k+1) m b=some Q) (e:(Rd.readF m).1=none):(Rd.readF m).2.err=0∧Q=(b.endN,b.endE):=by
 obtain⟨_,_,h1,h2⟩:=litR_pos h
 rw[litR,if_pos (by simp[h1,h2])]at h
 simp only[e]at h
 split at h
 ·exact⟨by assumption,(Option.some.inj h).symm⟩
 ·cases h
theorem litR_some {k:Nat} {m:Rd.MkM} {b:BuD} {Q:NT×Int} {x:Rd.MarkD} (h:litR (k+1) m b=some Q) (e:(Rd.readF m).1=some x):x.attrs= []∧x.kind≠6∧x.name.length≤1000∧x.text.length≤100000000∧(b.DoF (bmOf x)).err=0∧(b.DoF (bmOf x)).raw=0∧litR k {(Rd.readF m).2 with cdata:=(b.DoF (bmOf x)).tops !=0} (b.DoF (bmOf x))=some Q:=by
 obtain⟨_,_,h1,h2⟩:=litR_pos h
 rw[litR,if_pos (by simp[h1,h2])]at h
 simp only[e]at h
 split at h
 ·rename_i hc
  simp only[Bool.and_eq_true,decide_eq_true_eq,List.isEmpty_iff]at hc
  obtain⟨⟨⟨⟨⟨a1,a2⟩,a3⟩,a4⟩,a5⟩,a6⟩:=hc
  exact⟨a1,a2,a3,a4,a5,a6,h⟩
 ·cases h
section
def zeroN:Array Value:= #[.int .i64 0,.int .i64 0,.string ⟨#[]⟩,.slice none 0 0,.string ⟨#[]⟩,.slice none 0 0]
structure BR (w:World) (rb bb0:Nat) (Q:NT×Int) (k:Nat) (E:BE) (ws:World) (n:Nat) (m:Rd.MkM) (b:BuD) (wr:World):Prop where
 bi:BI E ws n b wr
 bb:E.bb=bb0
 w0:E.w0=w
 exr:E.ex rb
 exo:E.ex w.heap.size
 rd:RdAt wr rb m
 out:wr.heap[w.heap.size]?=some (.cells zeroN 26 (0,0))
 q:litR k m b=some Q
 bu:n+100000000*k≤4611686018427387904
section
variable {w wr w':World} {rb bb0 k n:Nat} {Q:NT×Int} {E:BE} {ws:World} {m:Rd.MkM} {b:BuD}
theorem BR.next (h:BR w rb bb0 Q k E ws n m b wr) (hrb:w.heap.size<rb) (hne:rb≠bb0) (hk:Keeps (fun j=>j=rb) wr w') {m2:Rd.MkM} (hr:RdAt w' rb m2) :
 ∃E2:BE,E2.bb=bb0∧E2.w0=w∧E2.ex rb∧E2.ex w.heap.size∧(∀j,wr.heap.size≤j→j<w'.heap.size→E2.ex j)∧BI E2 w' n b w'∧w'.heap[w.heap.size]?=some (.cells zeroN 26 (0,0))∧E2.bb<wr.heap.size:=by
 have h1:=h.bi.foreign hk (fun j hj=>by
  have:j=rb:=hj
  subst this
  exact⟨h.exr,by rw[h.w0];omega,by rw[h.bb];exact hne⟩)
 exact⟨{E with ex:=fun j=>E.ex j∨(wr.heap.size≤j∧j<w'.heap.size)},h.bb,h.w0,.inl h.exr,.inl h.exo,fun j h2 h3=> .inr ⟨h2,h3⟩,h1,(hk.block _ (row_lt h.out) (by omega)).trans h.out,h.bi.bld.bm.lt⟩
end
theorem bmOf_len (x:Rd.MarkD):(bmOf x).attrs.length=x.attrs.length:=by simp[bmOf,Rd.attP]
theorem bmOf_ma {F:Nat→Prop} {u:World} {x:Rd.MarkD} {a:Option Addr} {c base:Nat} (ha:x.attrs= []) (hn:x.name.length≤1000) (ht:x.text.length≤100000000)
 (ho:u.ownsRow base 57 2 (.slice a (bmOf x).attrs.length c) (bmOf x).attrs.length (pairsV (bmOf x).attrs)) (hF: ∀j,base≤j→j<u.heap.size→ ¬F j):MA F u (bmOf x) a c:=by
 obtain⟨a',c',hv,q1,q2,q3,hat⟩:=own_at ho
 cases hv
 have he:(bmOf x).attrs= []:=by simp[bmOf,Rd.attP,ha]
 refine⟨AtF.of_new hat fun j o s e=> ?_,q3,by rw[bmOf_len,ha];decide,(fun p hp=>by rw[he]at hp;cases hp),?_,?_⟩
 ·obtain⟨h1,h2⟩:=ho.lt j (by rw[e];rfl)
  exact hF j h1 h2
 ·show(Rd.strB x.text).size≤_
  rw[Rd.strB_size]
  omega
 ·show(Rd.strB x.name).size≤_
  rw[Rd.strB_size]
  unfold maxLen
  omega
structure BT (w:World) (rb bb0:Nat) (Q:NT×Int) (k:Nat) (E:BE) (n:Nat) (m:Rd.MkM) (b:BuD) (x:Rd.MarkD) (a:Option Addr) (c:Nat) (u:World):Prop where
 bi:BI E u n b u
 bb:E.bb=bb0
 w0:E.w0=w
 exr:E.ex rb
 exo:E.ex w.heap.size
 rd:RdAt u rb m
 out:u.heap[w.heap.size]?=some (.cells zeroN 26 (0,0))
 ma:MA (OB E) u (bmOf x) a c
 bu:n+(bmOf x).text.size+100000000*k≤4611686018427387904
 q:litR k {m with cdata:=(b.DoF (bmOf x)).tops !=0} (b.DoF (bmOf x))=some Q
section
variable {w wr w' u:World} {rb bb0 k n:Nat} {Q:NT×Int} {E:BE} {ws:World} {m:Rd.MkM} {b:BuD} {x:Rd.MarkD} {a:Option Addr} {c:Nat}
theorem BR.told (h:BR w rb bb0 Q (k+1) E ws n m b wr) (hrb:w.heap.size<rb) (hne:rb≠bb0) (hk:Keeps (fun j=>j=rb) wr w') (hr:RdAt w' rb (Rd.readF m).2) (e:(Rd.readF m).1=some x)
 (ho:w'.ownsRow wr.heap.size 57 2 (.slice a (bmOf x).attrs.length c) (bmOf x).attrs.length (pairsV (bmOf x).attrs)): ∃E2,BT w rb bb0 Q k E2 n (Rd.readF m).2 b x a c w':=by
 obtain⟨E2,h1,h2,h3,h4,h5,h6,h7,h8⟩:=h.next hrb hne hk hr
 obtain⟨g1,g2,g3,g4,g5,g6,g7⟩:=litR_some h.q e
 refine⟨E2,h6,h1,h2,h3,h4,hr,h7,bmOf_ma g1 g3 g4 ho fun j hj hj' hx=> ?_,?_,g7⟩
 ·rcases hx with hx|hx
  ·exact hx.2 (h5 j hj hj')
  ·have:j=E2.bb:=hx
   omega
 ·have:(bmOf x).text.size=x.text.length:=Rd.strB_size _
  rw[this]
  have:=h.bu
  omega
theorem BT.do (h:BT w rb bb0 Q k E n m b x a c u) (hne:rb≠bb0) (hno:w.heap.size≠bb0) (hb:Below u.heap.size u w'):Calls Tryz.prog 21 #[.pointer (some ⟨bb0,0,none⟩),markA (bmOf x).kind (bmOf x).name a (bmOf x).attrs.length c (bmOf x).self (bmOf x).text] w' fun r v=>r= .returned (.int .i64 (b.DoF (bmOf x)).err) ∧
 BI E u (n+(bmOf x).text.size) (b.DoF (bmOf x)) v∧RdAt v rb m∧v.heap[w.heap.size]?=some (.cells zeroN 26 (0,0)):=by
 have h1:=Do_bi (h.bi.world hb) (h.ma.world hb) (by have:=h.bu;omega)
 rw[h.bb]at h1
 refine h1.mono fun r v ⟨hr,hv⟩=>⟨hr,hv,?_,?_⟩
 ·exact h.rd.kept (h.bi.other hv.bld.keep h.exr (by rw[h.bb];exact hne))
 ·exact(h.bi.other hv.bld.keep h.exo (by rw[h.bb];exact hno)).trans h.out
theorem BT.again (h:BT w rb bb0 Q k E n m b x a c u) (hrb:w.heap.size<rb) (hne:rb≠bb0) {v v1:World} (hv:BI E u (n+(bmOf x).text.size) (b.DoF (bmOf x)) v) (ho:v.heap[w.heap.size]?=some (.cells zeroN 26 (0,0)))
 (hk:Keeps (fun j=>j=rb) v v1) (hr:RdAt v1 rb {m with cdata:=(b.DoF (bmOf x)).tops !=0}): ∃E2 ws2,BR w rb bb0 Q k E2 ws2 (n+(bmOf x).text.size) {m with cdata:=(b.DoF (bmOf x)).tops !=0} (b.DoF (bmOf x)) v1:=by
 have h1:=hv.foreign hk (fun j hj=>by
  have:j=rb:=hj
  subst this
  exact⟨h.exr,by rw[h.w0];omega,by rw[h.bb];exact hne⟩)
 exact⟨{E with ex:=fun j=>E.ex j∨(v.heap.size≤j∧j<v1.heap.size)},_,h1,h.bb,h.w0,.inl h.exr,.inl h.exo,hr,(hk.block _ (row_lt ho) (by omega)).trans ho,h.q,h.bu⟩
end
theorem zero_row {u:World} {R:Nat} (h:u.heap[R]?=some (.cells zeroN 26 (0,0))):u.heap[R]?=some (.cells #[.int .i64 0,.int .i64 0,.string ⟨#[]⟩,.slice none 0 0,.string ⟨#[]⟩,.slice none 0 0] 26 (0,0)):=h
theorem build_done {w u:World} (hb:Below w.heap.size w u) (x0 x1 x2 x3 x4 x5:Value):Below w.heap.size w (set6 u w.heap.size 0 x0 x1 x2 x3 x4 x5) :=
 (((((hb.setCell (p:=⟨w.heap.size,0,none⟩) (Nat.le_refl _) x0).setCell (p:=⟨w.heap.size,1,none⟩) (Nat.le_refl _) x1).setCell (p:=⟨w.heap.size,2,none⟩) (Nat.le_refl _) x2).setCell (p:=⟨w.heap.size,3,none⟩) (Nat.le_refl _) x3).setCell (p:=⟨w.heap.size,4,none⟩) (Nat.le_refl _) x4).setCell (p:=⟨w.heap.size,5,none⟩) (Nat.le_refl _) x5
theorem Build_lite (s:ByteArray) (Q:NT×Int) (hQ:litR 100 (Rd.newP s.toList) newB=some Q) (w:World) (hs:s.size≤100000000) :
 Calls Tryz.prog 7 #[.string s] w fun r w'=> ∃cs,r= .returned (.tuple #[.agg cs.toArray,.int .i64 Q.2])∧NodeC (· <w.heap.size) w' cs Q.1∧Below w.heap.size w w':=by
 have hb0:=(Below.refl w.heap.size w).alloc (Nat.le_refl _) (.cells #[.int .i64 0,.int .i64 0,.string ⟨#[]⟩,.slice none 0 0,.string ⟨#[]⟩,.slice none 0 0] 26)
 have hr0:=heap_alloc_new w (.cells #[.int .i64 0,.int .i64 0,.string ⟨#[]⟩,.slice none 0 0,.string ⟨#[]⟩,.slice none 0 0] 26)
 have HNw:=Lib.hid (rd_new s (w.alloc (.cells #[.int .i64 0,.int .i64 0,.string ⟨#[]⟩,.slice none 0 0,.string ⟨#[]⟩,.slice none 0 0] 26)) hs)
 have HB0:=Lib.hid hb0
 have HR0:=Lib.hid hr0
 have HQ:=Lib.hid hQ
 clear hb0 hr0 hQ
 go_enter Tryz.func7,Tryz.ntmps7
 go_wp2_with (first
  |(go_at_call 17;go_must (refine HNw.out.mono ?_;rintro e w1 ⟨rfl,hr1,hb1⟩;have HR1:=Lib.hid hr1;have HB1:=Lib.hid (belowCall HB0.out hb1);have HO1:=Lib.hid ((hb1.block _ (row_lt HR0.out)).trans HR0.out);have HZ1:=Lib.hid hr1.lt;clear hr1 hb1))
  |(go_at_call 18;go_must (refine(New_bi w _ HB1.out).mono ?_;rintro e w2 ⟨E,he0,rfl,hbi,hb2,hex,hbb,hbl⟩;have HI:=Lib.hid hbi;have HB2:=Lib.hid hb2;have HEx:=Lib.hid hex;have HE0:=Lib.hid he0;have HZ2:Hid (w.heap.size+1<E.bb):=Lib.hid (by have h1:=HZ1.out;have h2:=hbb;simp at h1;omega);clear hbi hb2 hex he0 hbb hbl)))
 have HS:Hid (BR w (w.heap.size+1) E.bb Q 100 E w2 0 (Rd.newP s.toList) newB w2):=Lib.hid
  ⟨HI.out,rfl,HE0.out,HEx.out _ (by omega) (by have:=HZ1.out;simpa using this),HEx.out _ (by omega) (by have:=HZ1.out;simp at this;omega),by
   have h1:=HR1.out
   rw[World.size_alloc]at h1
   exact h1.kept (HB2.out.block _ h1.lt),(HB2.out.block _ (row_lt HO1.out)).trans HO1.out,HQ.out,by decide⟩
 obtain⟨bb0,hbb⟩: ∃bb0,bb0=E.bb:=⟨_,rfl⟩
 rw[←hbb]at HS HZ2 ⊢
 have hne:w.heap.size+1≠bb0:=by have:=HZ2.out;omega
 have hno:w.heap.size≠bb0:=by have:=HZ2.out;omega
 have hrb:w.heap.size<w.heap.size+1:=by omega
 clear HI HB2 HEx HE0 HZ2 HZ1 HR1 HB1 HO1 HNw HB0 HR0 HQ hbb
 go_loopg [] 100 (fun g wr=> ∃k E ws n m b,k≤g∧Hid (BR w (w.heap.size+1) bb0 Q k E ws n m b wr))
 case atStart=>exact⟨_,_,_,_,_,_,Nat.le_refl _,HS⟩
 case round =>
  clear HS
  obtain⟨k,E,ws,n,m,b,hkg,HR⟩:=hrel
  obtain⟨k,rfl,hlt,hbf⟩:=litR_pos HR.out.q
  have HNx:=Lib.hid (rd_next m (w.heap.size+1) wr HR.out.rd (by omega) hlt)
  clear hlt hbf
  cases hrd:(Rd.readF m).1 with
  |none =>
   have HN:Hid (∀r u,NextR wr.heap.size (Rd.readF m) r u→r= .returned (.tuple #[markA (if(Rd.readF m).2.err≠0 then 0 else 6) ⟨#[]⟩ none 0 0 false ⟨#[]⟩,.int .i64 (Rd.readF m).2.err])):=Lib.hid fun r u h=>by
    unfold NextR at h
    rw[hrd]at h
    exact h
   have HK:Hid (∀u,RdAt u (w.heap.size+1) (Rd.readF m).2→Keeps (fun j=>j=w.heap.size+1) wr u→ ∃E2:BE,E2.bb=bb0∧E2.w0=w∧BI E2 u n b u∧u.heap[w.heap.size]?=some (.cells zeroN 26 (0,0))∧E2.ex w.heap.size):=Lib.hid fun u h1 h2=>by
    obtain⟨E2,q1,q2, -,q4, -,q6,q7, -⟩:=HR.out.next hrb hne h2 h1
    exact⟨E2,q1,q2,q6,q7,q4⟩
   have hn0:n≤4611686018427387904:=by have:=HR.out.bu;omega
   obtain⟨her,hq⟩:=litR_none HR.out.q hrd
   rw[if_neg (fun h=>h her),her]at HN
   have HQ2:=Lib.hid hq
   clear HR her hrd hq
   go_wp2_with (first
    |(go_at_call 19;go_must (refine HNx.out.mono ?_;rintro e w3 ⟨hnx,hrd,hkp⟩;have hnx':=HN.out _ _ hnx;subst hnx';obtain⟨E2,hb2,hw2,hbi,hout,hex⟩:=HK.out _ hrd hkp;have HI:=Lib.hid (hbi.world ((Below.refl _ _).alloc (Nat.le_refl _) (.cells #[.int .i64 6,.string ⟨#[]⟩,.slice none 0 0,.bool false,.string ⟨#[]⟩] 38)));have HEn:=Lib.hid (End_bi HI.out hn0);rw[hb2,hw2]at HEn;have HO:=Lib.hid ((Below.heap_alloc w3 (.cells #[.int .i64 6,.string ⟨#[]⟩,.slice none 0 0,.bool false,.string ⟨#[]⟩] 38) w.heap.size (row_lt hout)).trans hout);have HX:=Lib.hid hex;have HB2:=Lib.hid hb2;clear hnx hrd hkp hbi hout hb2 hw2 hex))
    |(go_at_call 20;go_must (refine HEn.out.mono ?_;rintro e w4 ⟨cs,rfl,hnc,hbw,hkb⟩;obtain⟨g0,g1,g2,g3,g4,g5,g6,g7,g8,g9,rfl⟩:=nodeC_form hnc;have hrw:=(HI.out.other hkb HX.out (by rw[HB2.out];exact hno)).trans HO.out;obtain⟨⟨z0,z1,z2,z3,z4,z5⟩,t0,t1,t2,t3,t4,t5⟩:=cells6 (zero_row hrw);have HNC:=Lib.hid hnc;have HBW:=Lib.hid hbw;have HRW:=Lib.hid (fun x0 x1 x2 x3 x4 x5=>put6_heap x0 x1 x2 x3 x4 x5 (zero_row hrw));have HZ3:=Lib.hid (row_lt HO.out);unfold nodeV;clear hnc hbw hkb hrw)))
   refine bodyPost_ret (ret_node rfl _ _ w.heap.size _ _ _ _ (.int .i64 b.endE) (by rfl) (by rfl) (HRW.out _ _ _ _ _ _) Tryz.underlying26 rfl size_out) rfl ?_
   rw[HQ2.out]
   refine⟨_,rfl,?_,build_done HBW.out _ _ _ _ _ _⟩
   exact(HNC.out.kept (put6_keeps (F:=fun j=>j<(w3.alloc (.cells #[.int .i64 6,.string ⟨#[]⟩,.slice none 0 0,.bool false,.string ⟨#[]⟩] 38)).heap.size) (O:=w.heap.size) _ _ _ _ _ _ (Keeps.refl _ w4) (.inl HZ3.out))).other fun j _ hx=>by have h1:=HZ3.out;have h2:j<w.heap.size:=hx;show j<_;omega
  |some x =>
   have HN:Hid (∀r u,NextR wr.heap.size (Rd.readF m) r u→ ∃a c,r= .returned (.tuple #[markA (bmOf x).kind (bmOf x).name a (bmOf x).attrs.length c (bmOf x).self (bmOf x).text,.int .i64 0])∧u.ownsRow wr.heap.size 57 2 (.slice a (bmOf x).attrs.length c) (bmOf x).attrs.length (pairsV (bmOf x).attrs)):=Lib.hid fun r u h=>by
    unfold NextR at h
    rw[hrd]at h
    exact h
   have HT:Hid (∀u a c,RdAt u (w.heap.size+1) (Rd.readF m).2→Keeps (fun j=>j=w.heap.size+1) wr u→u.ownsRow wr.heap.size 57 2 (.slice a (bmOf x).attrs.length c) (bmOf x).attrs.length (pairsV (bmOf x).attrs)→ ∃E2,BT w (w.heap.size+1) bb0 Q k E2 n (Rd.readF m).2 b x a c u):=Lib.hid fun u a c h1 h2 h3=>HR.out.told hrb hne h2 h1 hrd h3
   obtain⟨-,hk6', -, -,her,hraw, -⟩:=litR_some HR.out.q hrd
   have hk6:((bmOf x).kind==6)=false:=beq_eq_false_iff_ne.2 hk6'
   obtain⟨m2,hm2⟩: ∃m2,m2=(Rd.readF m).2:=⟨_,rfl⟩
   rw[←hm2]at HT
   have HM2:Hid (∀u,RdAt u (w.heap.size+1) (Rd.readF m).2→RdAt u (w.heap.size+1) m2):=Lib.hid fun u h=>hm2▸h
   clear HR hk6' hrd hm2
   have HDo:=Lib.hid (fun E2 a c u (h:BT w (w.heap.size+1) bb0 Q k E2 n m2 b x a c u) (o:Obj)=>h.do hne hno ((Below.refl _ _).alloc (Nat.le_refl _) o))
   have HAg:=Lib.hid (fun E2 a c u (h:BT w (w.heap.size+1) bb0 Q k E2 n m2 b x a c u) v v1=>h.again (v:=v) (v1:=v1) hrb hne)
   have HW0:=Lib.hid (fun E2 a c u (h:BT w (w.heap.size+1) bb0 Q k E2 n m2 b x a c u)=>h.bb)
   obtain⟨X,hX⟩: ∃X,X=bmOf x:=⟨_,rfl⟩
   rw[←hX]at HN HT hk6 HDo HAg her hraw
   obtain⟨cc,hcc⟩: ∃cc,cc=b.DoF X:=⟨_,rfl⟩
   rw[←hcc]at HDo HAg her hraw
   clear hX hcc
   rw[her]at HDo
   have hraw2:(cc.raw !=0)=false:=by rw[hraw];rfl
   clear her hraw
   go_wp2_with (first
    |(go_at_call 19;go_must (refine HNx.out.mono ?_;rintro e w3 ⟨hnx,hrd,hkp⟩;obtain⟨a,c,rfl,how⟩:=HN.out _ _ hnx;obtain⟨E2,hbt⟩:=HT.out _ a c (HM2.out _ hrd) hkp how;have HBT:=Lib.hid hbt;have HBb:=Lib.hid (HW0.out _ _ _ _ hbt);clear hnx hrd hkp how hbt))
    |(go_at_call 21;go_must (refine(HDo.out _ _ _ _ HBT.out _).mono ?_;rintro e w4 ⟨rfl,hbi4,hrd4,hout4⟩;have hre:=Reads_bi hbi4;rw[HBb.out]at hre;have HRe:=Lib.hid hre;have HRd4:=Lib.hid hrd4;have HO4:=Lib.hid hout4;clear hbi4 hrd4 hout4 hre))
    |(go_at_call 22;go_must (refine HRe.out.mono ?_;rintro e w5 ⟨rfl,hbi5,hb5⟩;have HI5:=Lib.hid hbi5;have HRd5:=Lib.hid (HRd4.out.kept (hb5.block _ HRd4.out.lt));have HO5:=Lib.hid ((hb5.block _ (row_lt HO4.out)).trans HO4.out);clear hbi5 hb5))
    |(go_at_call 24;go_must (refine(rd_cdata _ (w.heap.size+1) _ _ HRd5.out).mono ?_;rintro e w7 ⟨rfl,hrd7,hk7⟩;have HRd7:=Lib.hid hrd7;have HK7:=Lib.hid hk7;clear hrd7 hk7)))
   go_roundg k
   case measure=>omega
   case rel =>
    obtain⟨E3,ws3,h3⟩:=HAg.out _ _ _ _ HBT.out _ _ HI5.out HO5.out HK7.out HRd7.out
    exact⟨_,_,_,_,_,_,Nat.le_refl _,Lib.hid h3⟩
end
def sh1:ByteArray:=(⟨#[60,98,62,49,60,112,62,50,60,47,98,62,51]⟩:ByteArray)
def sh2:ByteArray:=(⟨#[60,116,97,98,108,101,62,120,60,116,114,62,60,116,100,62,121]⟩:ByteArray)
def nE (nm:ByteArray) (l:List NT):NT:= .mk 1 0 nm [] ⟨#[]⟩ l
def nT (t:ByteArray):NT:= .mk 2 0 ⟨#[]⟩ [] t []
def tr1:NT:=nE (⟨#[104,116,109,108]⟩:ByteArray) [nE (⟨#[104,101,97,100]⟩:ByteArray) [],nE (⟨#[98,111,100,121]⟩:ByteArray) [nE (⟨#[98]⟩:ByteArray) [nT (⟨#[49]⟩:ByteArray)],nE (⟨#[112]⟩:ByteArray) [nE (⟨#[98]⟩:ByteArray) [nT (⟨#[50]⟩:ByteArray)],nT (⟨#[51]⟩:ByteArray)]]]
def tr2:NT:=nE (⟨#[104,116,109,108]⟩:ByteArray) [nE (⟨#[104,101,97,100]⟩:ByteArray) [],nE (⟨#[98,111,100,121]⟩:ByteArray) [nT (⟨#[120]⟩:ByteArray),nE (⟨#[116,97,98,108,101]⟩:ByteArray) [nE (⟨#[116,98,111,100,121]⟩:ByteArray) [nE (⟨#[116,114]⟩:ByteArray) [nE (⟨#[116,100]⟩:ByteArray) [nT (⟨#[121]⟩:ByteArray)]]]]]]
theorem ev1:litR 100 (Rd.newP sh1.toList) newB=some (tr1,0):=by kernel_rfl
theorem ev2:litR 100 (Rd.newP sh2.toList) newB=some (tr2,0):=by kernel_rfl
mutual
/-- a tree as a text -/
def toldF:NT→ByteArray
 | .mk k _ nm _ t kids=>if k=2 then t else(nm++(mkB [40]++toldsF kids))++mkB [41]
def toldsF:List NT→ByteArray
 | []=>⟨#[]⟩
 |x::r=>toldF x++toldsF r
end
theorem app_nil (b:ByteArray):b++(⟨#[]⟩:ByteArray)=b:=ByteArray.append_empty
theorem nil_app (b:ByteArray):(⟨#[]⟩:ByteArray)++b=b:=ByteArray.empty_append
theorem tolds_append: ∀(l r:List NT),toldsF (l++r)=toldsF l++toldsF r
 | [],r=>(nil_app _).symm
 |x::l,r=>by rw[List.cons_append,toldsF,toldsF,tolds_append l r,ByteArray.append_assoc]
theorem told_take (l:List NT) (j:Nat) (h:j<l.length):toldsF (l.take (j+1))=toldsF (l.take j)++toldF l[j]:=by
 have:l.take (j+1)=l.take j++ [l[j]]:=by rw[List.take_add_one];simp[h]
 rw[this,tolds_append,toldsF,toldsF,app_nil]
theorem told_le (l:List NT) (j:Nat) (_h:j≤l.length):(toldsF (l.take j)).size≤(toldsF l).size:=by
 conv=>rhs;rw[←List.take_append_drop j l,tolds_append]
 rw[ByteArray.size_append]
 omega
theorem told_mem: ∀(l:List NT) (x:NT),x∈l→(toldF x).size≤(toldsF l).size
 | [],_,h=>by simp at h
 |y::r,x,h=>by
  rw[toldsF,ByteArray.size_append]
  rcases List.mem_cons.1 h with h|h
  ·rw[h];omega
  ·have:=told_mem r x h
   omega
theorem told_start:(⟨#[40]⟩:ByteArray)=mkB [40]++toldsF (([]:List NT)):=by rw[toldsF,app_nil];rfl
theorem told_all {kind space:Int} {name text:ByteArray} {kids:List NT} (hk2:kind≠2) (h:(toldF (.mk kind space name [] text kids)).size≤1000000):(toldsF kids).size+2+name.size≤1000000:=by
 rw[toldF,if_neg hk2,ByteArray.size_append,ByteArray.size_append,ByteArray.size_append]at h
 have h1:(mkB [40]).size=1:=rfl
 have h2:(mkB [41]).size=1:=rfl
 omega
theorem told_step (kind space:Int) (name:ByteArray) (a:Option Addr) (an ac:Nat) (text:ByteArray) (ka:Option Addr) (kc:Nat) (kids:List NT) (css:List (List Value)) (w:World)
 (k1:kids.length≤kc) (k2:kc≤maxLen) (k4:AtF Non w ka css.flatten) (hl:css.length=kids.length) (hk: ∀i (h:i<css.length) (h':i<kids.length),NodeC Non w css[i] kids[i]) (hm:(toldF (.mk kind space name [] text kids)).size≤1000000) (hk2:kind≠2)
 (ih: ∀j (h:j<kids.length) (cs:List Value) (u:World),NodeC Non u cs kids[j]→Calls Tryz.prog 16 #[.agg cs.toArray] u fun e u'=>e= .returned (.string (toldF kids[j]))∧Below u.heap.size u u') :
 Calls Tryz.prog 16 #[.agg #[.int .i64 kind,.int .i64 space,.string name,.slice a an ac,.string text,.slice ka kids.length kc]] w fun e w'=>e= .returned (.string (toldF (.mk kind space name [] text kids)))∧Below w.heap.size w w':=by
 have HK4:=Lib.hid k4
 have HK:=Lib.hid hk
 have HIH:=Lib.hid ih
 have HL:=Lib.hid hl
 have hB:=heap_alloc_new w (.cells #[.int .i64 kind,.int .i64 space,.string name,.slice a an ac,.string text,.slice ka kids.length kc] 26)
 have hb:=(Below.refl w.heap.size w).alloc (Nat.le_refl _) (.cells #[.int .i64 kind,.int .i64 space,.string name,.slice a an ac,.string text,.slice ka kids.length kc] 26)
 unfold maxLen at k2
 have HM:=Lib.hid hm
 have hkb:(kind==2)=false:=beq_eq_false_iff_ne.2 hk2
 have HSz:=Lib.hid (told_all (kind:=kind) (space:=space) (name:=name) (text:=text) (kids:=kids) hk2 hm)
 have hkc:kids.length≤9223372036854775807:=by omega
 clear k4 hk ih hl hm
 go_enter Tryz.func16,Tryz.ntmps16
 go_wp2_with fail
 generalize w.alloc (.cells #[.int .i64 kind,.int .i64 space,.string name,.slice a an ac,.string text,.slice ka kids.length kc] 26)=w1 at *
 have HB:=Lib.hid hB
 have HB1:=Lib.hid hb
 clear hB hb
 go_loopw [4,3] (fun i s wr=> ∃j:Nat,j≤kids.length∧i= .int .i64 j∧(∃acc:ByteArray,Hid (acc=mkB [40]++toldsF (kids.take j))∧s= .string acc)∧Below w1.heap.size w1 wr) (fun i _ _=>kids.length-(intOf i).toNat)
 case atStart=>exact⟨0,Nat.zero_le _,rfl,⟨_,Lib.hid told_start,rfl⟩,Below.refl _ _⟩
 case round =>
  obtain⟨j,hj,rfl,⟨acc,HACC,rfl⟩,hbr⟩:=hrel
  have HBr:=Lib.hid hbr
  have HBw:=Lib.hid (HB1.out.trans (hbr.mono HB1.out.size))
  have hBr:=(hbr.block w.heap.size (row_lt HB.out)).trans HB.out
  obtain⟨⟨_,_,_,_,_,c5⟩,_⟩:=cells6 hBr
  have hsz:=told_le kids j hj
  clear hbr hBr
  by_cases hlt:j<kids.length
  ·have hlt':j<css.length:=by rw[HL.out];exact hlt
   have hkw:=Keeps.ofBelow (F:=Non) HBw.out
   have hnode:=(HK.out j hlt' hlt).kept hkw
   have h6: ∀c∈css,c.length=6:=by
    intro c hc
    obtain⟨i,hi,rfl⟩:=List.getElem_of_mem hc
    exact(HK.out i hi (by rw[←HL.out];exact hi)).len
   obtain⟨f0,f1,f2,f3,f4,f5,f6,f7,f8,f9,he⟩:=nodeC_form hnode
   obtain⟨b,o,rfl,e0,e1,e2,e3,e4,e5⟩:=kid_cells h6 (HK4.out.kept hkw) hlt' he
   rw[he]at hnode
   have HC:=Lib.hid (HIH.out j hlt _ wr hnode)
   unfold nodeV at HC
   have hc1:=told_take kids j hlt
   have hszn:=told_le kids (j+1) hlt
   obtain⟨d,hd⟩: ∃d,d=toldF kids[j]:=⟨_,rfl⟩
   rw[←hd]at HC hc1
   have HN:Hid (acc++d=mkB [40]++toldsF (kids.take (j+1))):=Lib.hid (by rw[HACC.out,hc1,ByteArray.append_assoc])
   have hsum:acc.size+d.size≤1000000:=by
    have h1:=congrArg ByteArray.size HN.out
    rw[ByteArray.size_append,ByteArray.size_append]at h1
    have h2:=HSz.out
    have h3:(mkB [40]).size=1:=rfl
    omega
   have hlim: ¬9223372036854775807<acc.size+d.size:=by omega
   clear hkw hnode h6 he hc1 hd hsz hszn hsum
   go_wp2_with fail
   refine HC.out.mono ?_
   rintro e w2 ⟨rfl,hb2⟩
   have HB2:=Lib.hid (belowCall HBr.out hb2)
   clear hb2
   go_wp2_with fail
   go_roundw
   case rel=>exact⟨j+1,by omega,by go_num,⟨_,HN,rfl⟩,HB2.out⟩
   case measure=>simp[intOf];omega
  ·have he:kids.take j=kids:=List.take_of_length_le (by omega)
   obtain⟨⟨_,_,c2,_,_,_⟩,_⟩:=cells6 ((HBr.out.block w.heap.size (row_lt HB.out)).trans HB.out)
   have hn:=HSz.out
   have HV:Hid (toldF (.mk kind space name [] text kids)=(name++acc)++mkB [41]):=Lib.hid (by rw[toldF,if_neg hk2,HACC.out,he])
   have h3:name.size+acc.size+1≤1000000:=by
    have h4:=HM.out
    rw[HV.out,ByteArray.size_append,ByteArray.size_append]at h4
    exact h4
   have hl1: ¬9223372036854775807<name.size+acc.size:=by omega
   have hl2: ¬9223372036854775807<name.size+acc.size+1:=by omega
   clear he hsz hn h3
   go_wp2_with fail
   go_ret
   rw[HV.out]
   exact⟨rfl,HBw.out⟩
theorem told_text (space:Int) (name:ByteArray) (a:Option Addr) (an ac:Nat) (text:ByteArray) (ka:Option Addr) (kn kc:Nat) (w:World) :
 Calls Tryz.prog 16 #[.agg #[.int .i64 2,.int .i64 space,.string name,.slice a an ac,.string text,.slice ka kn kc]] w fun e w'=>e= .returned (.string text)∧Below w.heap.size w w':=by
 go_enter Tryz.func16,Tryz.ntmps16
 go_wp2_with fail
 go_ret
 exact⟨rfl,(Below.refl _ _).alloc (Nat.le_refl _) _⟩
theorem told_any: ∀(m:Nat) (n:NT) (w:World) (cs:List Value),ntCount n≤m→(toldF n).size≤1000000→NodeC Non w cs n→Calls Tryz.prog 16 #[.agg cs.toArray] w fun e w'=>e= .returned (.string (toldF n))∧Below w.heap.size w w'
 |0,.mk _ _ _ _ _ _,_,_,h,_,_=>by
  rw[ntCount]at h
  omega
 |m+1,n,w,cs,h,hm,hn=>by
  cases hn with
  | @mk kind space name a c attrs text ka kc kids css h1 h2 h3 h4 k1 k2 k3 k4 hl hk =>
    rw[ntCount]at h
    by_cases hk2:kind=2
    ·subst hk2
     have e:toldF (.mk 2 space name attrs text kids)=text:=by rw[toldF,if_pos rfl]
     rw[e]
     exact told_text space name a attrs.length c text ka kids.length kc w
    ·have e:toldF (.mk kind space name attrs text kids)=toldF (.mk kind space name [] text kids):=by rw[toldF,toldF]
     rw[e]at hm ⊢
     refine told_step kind space name a attrs.length c text ka kc kids css w k1 k2 k4 hl hk hm hk2 ?_
     intro j hj cs u hc
     have h5:=counts_mem kids kids[j] (List.getElem_mem hj)
     have h6:=told_mem kids kids[j] (List.getElem_mem hj)
     have h7:=told_all (kind:=kind) (space:=space) (name:=name) (text:=text) (kids:=kids) hk2 hm
     exact told_any m kids[j] u cs (by omega) (by omega) hc
theorem told1:toldF tr1=(⟨#[104,116,109,108,40,104,101,97,100,40,41,98,111,100,121,40,98,40,49,41,112,40,98,40,50,41,51,41,41,41]⟩:ByteArray):=by kernel_rfl
theorem told2:toldF tr2=(⟨#[104,116,109,108,40,104,101,97,100,40,41,98,111,100,121,40,120,116,97,98,108,101,40,116,98,111,100,121,40,116,114,40,116,100,40,121,41,41,41,41,41,41]⟩:ByteArray):=by kernel_rfl
theorem cnt1:ntCount tr1=9:=by kernel_rfl
theorem cnt2:ntCount tr2≤20:=by decide +kernel
theorem dep1:ntDepth tr1=5:=by kernel_rfl
theorem build1 (w:World) :
 Calls Tryz.prog 7 #[.string (⟨#[60,98,62,49,60,112,62,50,60,47,98,62,51]⟩:ByteArray)] w fun r w'=> ∃f0 f1 f2 f3 f4 f5 f6 f7 f8 f9,r= .returned (.tuple #[.agg #[.int .i64 f0,.int .i64 f1,.string f2,.slice f3 f4 f5,.string f6,.slice f7 f8 f9],.int .i64 0])∧NodeC Non w' (nodeV f0 f1 f2 f3 f4 f5 f6 f7 f8 f9) tr1∧Below w.heap.size w w':=by
 have h:=Build_lite sh1 _ ev1 w (by decide)
 refine h.mono fun r w' ⟨cs,hr,hn,hb⟩=> ?_
 obtain⟨f0,f1,f2,f3,f4,f5,f6,f7,f8,f9,rfl⟩:=nodeC_form hn
 exact⟨f0,f1,f2,f3,f4,f5,f6,f7,f8,f9,hr,hn.other fun _ _ hx=>hx.elim,hb⟩
theorem build2 (w:World) :
 Calls Tryz.prog 7 #[.string (⟨#[60,116,97,98,108,101,62,120,60,116,114,62,60,116,100,62,121]⟩:ByteArray)] w fun r w'=> ∃f0 f1 f2 f3 f4 f5 f6 f7 f8 f9,r= .returned (.tuple #[.agg #[.int .i64 f0,.int .i64 f1,.string f2,.slice f3 f4 f5,.string f6,.slice f7 f8 f9],.int .i64 0])∧NodeC Non w' (nodeV f0 f1 f2 f3 f4 f5 f6 f7 f8 f9) tr2∧Below w.heap.size w w':=by
 have h:=Build_lite sh2 _ ev2 w (by decide)
 refine h.mono fun r w' ⟨cs,hr,hn,hb⟩=> ?_
 obtain⟨f0,f1,f2,f3,f4,f5,f6,f7,f8,f9,rfl⟩:=nodeC_form hn
 exact⟨f0,f1,f2,f3,f4,f5,f6,f7,f8,f9,hr,hn.other fun _ _ hx=>hx.elim,hb⟩
theorem shown17_any (w:World):Calls Tryz.prog 6 #[] w fun e w'=>e= .returned (.bool true)∧Below w.heap.size w w':=by
 have H1:=Lib.hid (build1 w)
 go_enter Tryz.func6,Tryz.ntmps6
 go_wp2_with fail
 refine H1.out.mono ?_
 rintro e w1 ⟨f0,f1,f2,f3,f4,f5,f6,f7,f8,f9,rfl,hn1,hb1⟩
 have HN1:=Lib.hid hn1
 have HB1:=Lib.hid (hb1.alloc hb1.size (.cells #[.int .i64 f0,.int .i64 f1,.string f2,.slice f3 f4 f5,.string f6,.slice f7 f8 f9] 26))
 have HR1:=Lib.hid (heap_alloc_new w1 (.cells #[.int .i64 f0,.int .i64 f1,.string f2,.slice f3 f4 f5,.string f6,.slice f7 f8 f9] 26))
 have H2:=Lib.hid build2
 clear hn1 hb1
 dsimp only
 go_wp2_with fail
 refine(H2.out _).mono ?_
 rintro e w2 ⟨g0,g1,g2,g3,g4,g5,g6,g7,g8,g9,rfl,hn2,hb2⟩
 obtain⟨W3,hW3⟩: ∃W3,W3=w2.alloc (.cells #[.int .i64 g0,.int .i64 g1,.string g2,.slice g3 g4 g5,.string g6,.slice g7 g8 g9] 26):=⟨_,rfl⟩
 have hb3:Below w.heap.size w W3:=by rw[hW3];exact(belowCall HB1.out hb2).alloc (belowCall HB1.out hb2).size _
 have hra:W3.heap[w1.heap.size]?=some (.cells #[.int .i64 f0,.int .i64 f1,.string f2,.slice f3 f4 f5,.string f6,.slice f7 f8 f9] 26 (0,0)):=by
  have h4:=(hb2.block _ (row_lt HR1.out)).trans HR1.out
  rw[hW3]
  exact(Below.heap_alloc w2 _ _ (row_lt h4)).trans h4
 have hrb:W3.heap[w2.heap.size]?=some (.cells #[.int .i64 g0,.int .i64 g1,.string g2,.slice g3 g4 g5,.string g6,.slice g7 g8 g9] 26 (0,0)):=by rw[hW3];exact heap_alloc_new _ _
 have hna:NodeC Non W3 (nodeV f0 f1 f2 f3 f4 f5 f6 f7 f8 f9) tr1:=by
  rw[hW3]
  exact(HN1.out.kept ((Keeps.refl _ _).alloc _)).kept ((Keeps.ofBelow hb2).alloc _)
 have hnb:NodeC Non W3 (nodeV g0 g1 g2 g3 g4 g5 g6 g7 g8 g9) tr2:=by
  rw[hW3]
  exact hn2.kept ((Keeps.refl _ _).alloc _)
 have CA:=Lib.hid (fun u (hu:Below W3.heap.size W3 u)=>(cells6 ((hu.block _ (row_lt hra)).trans hra)).1)
 have CB:=Lib.hid (fun u (hu:Below W3.heap.size W3 u)=>(cells6 ((hu.block _ (row_lt hrb)).trans hrb)).1)
 have HT1:=Lib.hid (fun u (hu:Below W3.heap.size W3 u)=>told_any 20 tr1 u _ (by decide +kernel) (by rw[told1];decide) (hna.kept (Keeps.ofBelow hu)))
 have HT2:=Lib.hid (fun u (hu:Below W3.heap.size W3 u)=>told_any 20 tr2 u _ cnt2 (by rw[told2];decide) (hnb.kept (Keeps.ofBelow hu)))
 have HC1:=Lib.hid (fun u (hu:Below W3.heap.size W3 u)=>bcount_any 20 tr1 u _ (by decide +kernel) (by decide) (hna.kept (Keeps.ofBelow hu)))
 have HD1:=Lib.hid (fun u (hu:Below W3.heap.size W3 u)=>bdepth_any 20 tr1 u _ (by decide +kernel) (by decide) (hna.kept (Keeps.ofBelow hu)))
 rw[told1]at HT1
 rw[told2]at HT2
 rw[cnt1]at HC1
 rw[dep1]at HD1
 unfold nodeV at HT1 HT2 HC1 HD1
 have HB3:=Lib.hid hb3
 have HW3:=Lib.hid hW3
 obtain⟨a0,a1,a2,a3,a4,a5⟩:=CA.out _ (Below.refl _ _)
 have hr0:=Lib.hid (Below.refl W3.heap.size W3)
 clear hb2 hn2 hra hrb hna hnb hb3 HN1 HB1 HR1 H2 H1 hW3
 dsimp only
 rw[HW3.out]at a0 a1 a2 a3 a4 a5
 go_wp2_with fail
 rw[←HW3.out]
 refine(HT1.out _ hr0.out).mono ?_
 rintro e w4 ⟨rfl,hb4⟩
 have H4:=Lib.hid hb4
 obtain⟨b0,b1,b2,b3,b4,b5⟩:=CB.out _ hb4
 clear a0 a1 a2 a3 a4 a5 hb4
 dsimp only
 go_wp2_with fail
 refine(HT2.out _ H4.out).mono ?_
 rintro e w5 ⟨rfl,hb5⟩
 have H5:=Lib.hid (belowCall H4.out hb5)
 obtain⟨a0,a1,a2,a3,a4,a5⟩:=CA.out _ H5.out
 clear b0 b1 b2 b3 b4 b5 hb5
 dsimp only
 go_wp2_with fail
 refine(HC1.out _ H5.out).mono ?_
 rintro e w6 ⟨rfl,hb6⟩
 have H6:=Lib.hid (belowCall H5.out hb6)
 clear a0 a1 a2 a3 a4 a5 hb6
 obtain⟨a0,a1,a2,a3,a4,a5⟩:=CA.out _ H6.out
 dsimp only
 go_wp2_with fail
 refine(HD1.out _ H6.out).mono ?_
 rintro e w7 ⟨rfl,hb7⟩
 have H7:=Lib.hid (belowCall H6.out hb7)
 clear a0 a1 a2 a3 a4 a5 hb7
 dsimp only
 go_wp2_with fail
 go_ret
 exact⟨rfl,belowCall HB3.out H7.out⟩
end Go.Proofs.YtgepobccoffnaaaGreatDoor
