/- oZ joined for a claim: FrR, FrY, FrS, FrZ: plain laws and contracts. No conditions beyond those that each lemma types. -/
import Derived.Test.YtnlbcifhedjbfaaGreatDoorU17
import Derived.Test.YtnlbcifhedjbfaaGreatDoorU23
import Derived.Test.YtnlbcifhedjbfaaGreatDoorU15
set_option linter.unusedVariables false
set_option linter.unusedSimpArgs false
set_option maxRecDepth 100000
set_option maxHeartbeats 8000000
open Go.Proofs.Tryz
namespace Go.Proofs.YtnlbcifhedjbfaaGreatDoor
open Go.RowKit Mem
def ig (x:Rd.pq):aO:=⟨x.aH,Rd.bA x.ah,Rd.wL x.aA,x.self,Rd.bA x.aL⟩
def CP (w:af) (b:Nat) (m:Rd.gP):Prop:=Row w b (Rd.eZ m)
def Qu (base:Nat) (o:Option Rd.pq×Rd.gP) (r:Ending) (w':af):Prop:=match o.1 with
 |some x=> ∃a c,r= .returned (.tuple #[nC (ig x).aH (ig x).ah a (ig x).aA.length c (ig x).self (ig x).aL,.int .i64 0])/\w'.ownsRow base 128 2 (.slice a (ig x).aA.length c) (ig x).aA.length (bz (ig x).aA)
 |none=>r= .returned (.tuple #[nC (if o.2.dJ≠0 then 0 else 6) ⟨#[]⟩ none 0 0 false ⟨#[]⟩,.int .i64 o.2.dJ])
theorem MB: ∀l:List dD,Rd.Mem.bz l=bz l
 | []=>rfl
 |p::r=>by rw[Rd.Mem.bz,bz,MB r]
theorem EY {F:Nat->Prop} {w w':af} (h:Rd.Mem.az F w w'):az F w w':=⟨h.os,h.tape,h.output,h.size,h.block⟩
theorem akj (s:ae) (w:af) (hs:s.size<=100000000) :
 Calls prog 10 #[.string s] w λr w'=>r= .returned (.pointer (some ⟨w.heap.size,0,none⟩))/\CP w' w.heap.size (Rd.Oq s.toList)/\Below w.heap.size w w':=Rd.agI s w hs
theorem ahN (m:Rd.gP) (b:Nat) (y:Int) (w:af) (hr:CP w b m) (hm:w.cell? ⟨0,0,none⟩=some (.int .i64 y)) (hl:m.bn.length<=4294967280) (hn:m.ah.length<=4294967280) :
 Calls prog 12 #[.pointer (some ⟨b,0,none⟩)] w λr w'=>Qu w.heap.size (Rd.fF m) r w'/\CP w' b (Rd.fF m).2/\az (λk=>k=b) w w':=by
 refine(Rd.adx m b y w hr hm hl hn).mono λr w' ⟨h1,h2,h3⟩=>⟨?_,h2,EY h3⟩
 unfold Rd.Tn at h1;unfold Qu;cases e:(Rd.fF m).1 with
 |some x =>
  rw[e]at h1;simp only at h1 |-;obtain⟨sl,hr,ho⟩:=h1;obtain⟨a,c,rfl, -⟩:=fJ ho;rw[MB]at ho;have hl:x.aA.length=(ig x).aA.length:=by simp[ig,Rd.wL]
  rw[hl]at hr ho;exact⟨a,c,hr,ho⟩
 |none =>
  rw[e]at h1;simp only at h1 |-;rw[h1];split <;>rfl
theorem ahO (m:Rd.gP) (b:Nat) (aD:Int) (s:ae) (w:af) (hr:CP w b m) (hs:s.size<=4294967280) :
 Calls prog 16 #[.pointer (some ⟨b,0,none⟩),.int .i64 aD,.string s] w λr w'=>r= .returned (.tuple #[])/\CP w' b (Rd.Br m aD s.toList)/\az (λk=>k=b) w w' :=
 (Rd.ady m b aD s w hr hs).mono λ_ _ ⟨h1,h2,h3⟩=>⟨h1,h2,EY h3⟩
theorem UK (m:Rd.gP) (b:Nat) (v:Bool) (w:af) (hr:CP w b m) :
 Calls prog 17 #[.pointer (some ⟨b,0,none⟩),.bool v] w λr w'=>r= .returned (.tuple #[])/\CP w' b {m with CG:=v}/\az (λk=>k=b) w w' :=
 (Rd.ZU m b v w hr).mono λ_ _ ⟨h1,h2,h3⟩=>⟨h1,h2,EY h3⟩
def ug (m:Rd.gP) (c:aC):Rd.gP:= {(if c.raw≠0 then Rd.Br m c.raw c.ah.toList else m)with CG:=c.qm !=0}
noncomputable def qK:Nat->Rd.gP->aC->NT×Int
 |0,_,_=>(lu,0)
 |k+1,m,b =>
  match(Rd.fF m).1 with
  |none=>if(Rd.fF m).2.dJ≠0 then(lu,(Rd.fF m).2.dJ)else(b.GN,b.AQ)
  |some x=>if(b.wF (ig x)).dJ≠0 then(lu,(b.wF (ig x)).dJ)else qK k (ug (Rd.fF m).2 (b.wF (ig x))) (b.wF (ig x))
noncomputable def Ju (s:ae):NT×Int:=qK (Rd.vJ (Rd.Oq s.toList)+1) (Rd.Oq s.toList) Aw
structure RdI (m:Rd.gP):Prop where
 inv:Rd.Bv m
 dJ:m.dJ=0
 bn:m.bn.length<=4294967280
 ah:m.ah.length<=4294967280
section
def LA:Array ak:= #[.int .i64 0,.int .i64 0,.string ⟨#[]⟩,.slice none 0 0,.string ⟨#[]⟩,.slice none 0 0]
structure BR (w:af) (rb bb0:Nat) (Q:NT×Int) (k:Nat) (E:BE) (ws:af) (n:Nat) (m:Rd.gP) (b:aC) (wr:af):Prop where
 bi:BI E ws n b wr
 bb:E.bb=bb0
 w0:E.w0=w
 exr:E.ex rb
 exo:E.ex w.heap.size
 rd:CP wr rb m
 o':wr.heap[w.heap.size]?=some (.cells LA 26 (0,0))
 ri:RdI m
 fu:Rd.vJ m<k
 bu:n+2*m.bn.length<=4611686018427387904
 nm:b.ah.size<=4294967280
 q:Q=qK k m b
section
variable {w wr w':af} {rb bb0 k n:Nat} {Q:NT×Int} {E:BE} {ws:af} {m:Rd.gP} {b:aC}
theorem BR.below (h:BR w rb bb0 Q k E ws n m b wr):Below w.heap.size w wr:=by
 have:=h.bi.below;rw[h.w0]at this;exact this
theorem BR.next (h:BR w rb bb0 Q k E ws n m b wr) (hrb:w.heap.size<rb) (hne:rb≠bb0) (hk:az (λj=>j=rb) wr w') {m2:Rd.gP} (hr:CP w' rb m2) :
 ∃E2:BE,E2.bb=bb0/\E2.w0=w/\E2.ex rb/\E2.ex w.heap.size/\(∀j,wr.heap.size<=j->j<w'.heap.size->E2.ex j)/\BI E2 w' n b w'/\w'.heap[w.heap.size]?=some (.cells LA 26 (0,0))/\E2.bb<wr.heap.size:=by
 have h1:=h.bi.dE hk (λj hj=>by
  have:j=rb:=hj;subst this
  exact⟨h.exr,by rw[h.w0];omega,by rw[h.bb];exact hne⟩)
 exact⟨{E with ex:=λj=>E.ex j\/(wr.heap.size<=j/\j<w'.heap.size)},h.bb,h.w0,.inl h.exr,.inl h.exo,λj h2 h3=> .inr ⟨h2,h3⟩,h1,(hk.block _ (fZ h.o') (by omega)).trans h.o',h.bi.Zo.bm.lt⟩
end
theorem agv (x:Rd.pq):(ig x).aA.length=x.aA.length:=by simp[ig,Rd.wL]
theorem aiR {F:Nat->Prop} {u:af} {x:Rd.pq} {a:Option Addr} {c base:Nat} (hg:Rd.vI x) (hn:x.ah.length<=2049) (ha: ∀p∈x.aA,p.2.length<=4098) (ht:x.aL.length<=8589934560)
 (ho:u.ownsRow base 128 2 (.slice a (ig x).aA.length c) (ig x).aA.length (bz (ig x).aA)) (hF: ∀j,base<=j->j<u.heap.size-> ¬F j):MA F u (ig x) a c:=by
 obtain⟨a',c',hv,q1,q2,q3,hat⟩:=fJ ho;cases hv;refine⟨rX.yS hat λj o s e=> ?_,q3,by rw[agv];have:=hg.few;omega,λp hp=> ?_,?_,?_⟩
 ·obtain⟨h1,h2⟩:=ho.lt j (by rw[e];rfl);exact hF j h1 h2
 ·simp only[ig,Rd.wL,Ip]at hp;obtain⟨q,hq,rfl⟩:=hp;have:=ha q hq;show(Rd.bA q.2).size<=maxLen;rw[Rd.bV];unfold maxLen;omega
 ·show(Rd.bA x.aL).size<=_;rw[Rd.bV];omega
 ·show(Rd.bA x.ah).size<=_;rw[Rd.bV];unfold maxLen;omega
theorem ael (m:Rd.gP) (k:Int) (s:Rd.Mem.bH):(Rd.Br m k s).bn=m.bn/\(Rd.Br m k s).gY=m.gY:=by
 unfold Rd.Br;split <;>exact⟨rfl,rfl⟩
theorem ahG (m:Rd.gP) (k:Int) (s:Rd.Mem.bH):(Rd.Br m k s).ah.length<=s.length:=by
 unfold Rd.Br;split
 ·exact ay _
 ·exact bD _
theorem agi {m m':Rd.gP} (h1:m'.bn=m.bn) (h2:m'.gY=m.gY):Rd.vJ m'=Rd.vJ m:=by
 unfold Rd.vJ;rw[h1,h2]
theorem Bc (m:Rd.gP) (c:aC):(ug m c).bn=m.bn/\(ug m c).gY=m.gY:=by
 unfold ug;by_cases h:c.raw≠0
 ·rw[au h];exact ael m _ _
 ·rw[aj h];exact⟨rfl,rfl⟩
theorem Qo {m:Rd.gP} {c:aC} (h:RdI m) (hc:c.ah.size<=4294967280):RdI (ug m c):=by
 have hb:=(Bc m c).1;have h1: ∀(u:Rd.gP) (v:Bool),Rd.Bv u->Rd.Bv {u with CG:=v}:=λu v hu=>⟨hu.bn,hu.ah,hu.gY⟩
 refine⟨?_,?_,by rw[hb];exact h.bn,?_⟩
 ·unfold ug;refine h1 _ _ ?_;split
  ·exact Rd.ahF h.inv _ _
  ·exact h.inv
 ·unfold ug;show(if c.raw≠0 then Rd.Br m c.raw c.ah.toList else m).dJ=0;split
  ·rw[Rd.aek];exact h.dJ
  ·exact h.dJ
 ·unfold ug;show(if c.raw≠0 then Rd.Br m c.raw c.ah.toList else m).ah.length<=_;split
  ·have:=ahG m c.raw c.ah.toList;rw[aR]at this;omega
  ·exact h.ah
theorem ZT {b:aC} {m:aO} (h:b.ah.size<=4294967280) (hm:m.ah.size<=4294967280):(b.wF m).ah.size<=4294967280:=by
 unfold aC.wF;split
 ·exact akn (P:=λs=>s.size<=4294967280) (by decide) (by decide) h hm
 ·exact h
theorem EA {m m2:Rd.gP} {x:Rd.pq} (h:RdI m) (e1:(Rd.fF m).1=some x) (e2:(Rd.fF m).2=m2):Rd.vI x/\RdI m2/\Rd.vJ m2<Rd.vJ m/\x.aL.length+2*m2.bn.length<=2*m.bn.length/\x.ah.length<=2049/\(∀p∈x.aA,p.2.length<=4098):=by
 have e:Rd.fF m=(some x,m2):=Prod.ext e1 e2;obtain⟨h1,h2,h3⟩:=Rd.UH _ m (ay _) h.inv (.inl h.dJ);obtain⟨h4,h5⟩:=h3 x e1;obtain⟨h6,h7⟩:=Rd.UI _ m (ay _);rw[e2]at h1 h5 h6 h7;have hb:=h.bn;refine⟨h4,⟨h1,h5,by omega,by rw[h6];exact h.ah⟩,Rd.abW _ m (ay _) x m2 e,Rd.Yb _ m (ay _) x m2 e,(Rd.Mj _ m (ay _) x m2 e).2,Rd.Yc _ m (ay _) x m2 e⟩
theorem aau (s:ae) (hs:s.size<=100000000):RdI (Rd.Oq s.toList)/\(Rd.Oq s.toList).bn.length<=3*s.size:=by
 have h1:(Rd.Oq s.toList).bn.length<=3*s.size:=by
  have:=Rd.qa s.toList false;rw[aR]at this;exact this
 exact⟨⟨⟨Rd.aai s.toList false,.inl rfl,λh=>by have:(0:Int)=1\/(0:Int)=2:=h;omega⟩,rfl,by omega,bD _⟩,h1⟩
theorem Kc {k:Nat} {m:Rd.gP} {b:aC} (e:(Rd.fF m).1=none) (h:(Rd.fF m).2.dJ≠0):qK (k+1) m b=(lu,(Rd.fF m).2.dJ):=by
 rw[qK];simp only[e];rw[au h]
theorem NH {k:Nat} {m:Rd.gP} {b:aC} (e:(Rd.fF m).1=none) (h:(Rd.fF m).2.dJ=0):qK (k+1) m b=(b.GN,b.AQ):=by
 rw[qK];simp only[e];rw[aj (λh'=>h' h)]
theorem Zj {k:Nat} {m:Rd.gP} {b:aC} {x:Rd.pq} (e:(Rd.fF m).1=some x) (h:(b.wF (ig x)).dJ≠0):qK (k+1) m b=(lu,(b.wF (ig x)).dJ):=by
 rw[qK];simp only[e];rw[au h]
theorem ac7 {k:Nat} {m:Rd.gP} {b:aC} {x:Rd.pq} (e:(Rd.fF m).1=some x) (h:(b.wF (ig x)).dJ=0):qK (k+1) m b=qK k (ug (Rd.fF m).2 (b.wF (ig x))) (b.wF (ig x)):=by
 rw[qK];simp only[e];rw[aj (λh'=>h' h)]
structure BT (w:af) (rb bb0:Nat) (Q:NT×Int) (k:Nat) (E:BE) (n:Nat) (m:Rd.gP) (b:aC) (x:Rd.pq) (a:Option Addr) (c:Nat) (u:af):Prop where
 bi:BI E u n b u
 bb:E.bb=bb0
 w0:E.w0=w
 exr:E.ex rb
 exo:E.ex w.heap.size
 rd:CP u rb m
 o':u.heap[w.heap.size]?=some (.cells LA 26 (0,0))
 ri:RdI m
 fu:Rd.vJ m<k
 good:Rd.vI x
 nl:x.ah.length<=2049
 ma:MA (OB E) u (ig x) a c
 bu:n+(ig x).aL.size+2*m.bn.length<=4611686018427387904
 nm:b.ah.size<=4294967280
 q:Q=(if(b.wF (ig x)).dJ≠0 then(lu,(b.wF (ig x)).dJ)else qK k (ug m (b.wF (ig x))) (b.wF (ig x)))
section
variable {w wr w' u:af} {rb bb0 k n:Nat} {Q:NT×Int} {E:BE} {ws:af} {m:Rd.gP} {b:aC} {x:Rd.pq} {a:Option Addr} {c:Nat}
theorem BR.told (h:BR w rb bb0 Q (k+1) E ws n m b wr) (hrb:w.heap.size<rb) (hne:rb≠bb0) (hk:az (λj=>j=rb) wr w') (hr:CP w' rb (Rd.fF m).2) (e:(Rd.fF m).1=some x)
 (ho:w'.ownsRow wr.heap.size 128 2 (.slice a (ig x).aA.length c) (ig x).aA.length (bz (ig x).aA)): ∃E2,BT w rb bb0 Q k E2 n (Rd.fF m).2 b x a c w':=by
 obtain⟨E2,h1,h2,h3,h4,h5,h6,h7,h8⟩:=h.next hrb hne hk hr;obtain⟨g1,g2,g3,g4,g5,g6⟩:=EA h.ri e rfl;have hb:=h.ri.bn;refine⟨E2,h6,h1,h2,h3,h4,hr,h7,g2,by have:=h.fu;omega,g1,g5,aiR g1 g5 g6 (by omega) ho λj hj hj' hx=> ?_,?_,h.nm,?_⟩
 ·rcases hx with hx|hx
  ·exact hx.2 (h5 j hj hj')
  ·have:j=E2.bb:=hx;omega
 ·have:(ig x).aL.size=x.aL.length:=Rd.bV _;rw[this];have:=h.bu;omega
 ·rw[h.q,qK];simp only[e]
theorem BT.do (h:BT w rb bb0 Q k E n m b x a c u) (hne:rb≠bb0) (hno:w.heap.size≠bb0) (hb:Below u.heap.size u w'):Calls prog 14 #[.pointer (some ⟨bb0,0,none⟩),nC (ig x).aH (ig x).ah a (ig x).aA.length c (ig x).self (ig x).aL] w' λr v=>r= .returned (.int .i64 (b.wF (ig x)).dJ) /\
 BI E u (n+(ig x).aL.size) (b.wF (ig x)) v/\CP v rb m/\v.heap[w.heap.size]?=some (.cells LA 26 (0,0)):=by
 have h1:=aog (h.bi.world hb) (h.ma.world hb) (by have:=h.bu;omega);rw[h.bb]at h1;refine h1.mono λr v ⟨hr,hv⟩=>⟨hr,hv,?_,?_⟩
 ·exact h.rd.kept (h.bi.other hv.Zo.keep h.exr (by rw[h.bb];exact hne))
 ·exact(h.bi.other hv.Zo.keep h.exo (by rw[h.bb];exact hno)).trans h.o'
theorem BT.again (h:BT w rb bb0 Q k E n m b x a c u) (hrb:w.heap.size<rb) (hne:rb≠bb0) {v v1:af} (hv:BI E u (n+(ig x).aL.size) (b.wF (ig x)) v) (ho:v.heap[w.heap.size]?=some (.cells LA 26 (0,0)))
 (hk:az (λj=>j=rb) v v1) (hr:CP v1 rb (ug m (b.wF (ig x)))) (he:(b.wF (ig x)).dJ=0): ∃E2 ws2,BR w rb bb0 Q k E2 ws2 (n+(ig x).aL.size) (ug m (b.wF (ig x))) (b.wF (ig x)) v1:=by
 have h1:=hv.dE hk (λj hj=>by
  have:j=rb:=hj;subst this
  exact⟨h.exr,by rw[h.w0];omega,by rw[h.bb];exact hne⟩)
 have hnm:(b.wF (ig x)).ah.size<=4294967280:=ZT h.nm (by show(Rd.bA x.ah).size<=_;rw[Rd.bV];have:=h.nl;omega);obtain⟨a1,a2⟩:=Bc m (b.wF (ig x));refine⟨{E with ex:=λj=>E.ex j\/(v.heap.size<=j/\j<v1.heap.size)},_,h1,h.bb,h.w0,.inl h.exr,.inl h.exo,hr,(hk.block _ (fZ ho) (by omega)).trans ho,Qo h.ri hnm,by rw[agi a1 a2];exact h.fu,by rw[a1];exact h.bu,hnm,?_⟩;rw[h.q,aj (λh'=>h' he)]
end
theorem BR.ahW {w wr:af} {rb bb0 k n:Nat} {Q:NT×Int} {E:BE} {ws:af} {m:Rd.gP} {b:aC} (h:BR w rb bb0 Q k E ws n m b wr):n<=4611686018427387904:=by have:=h.bu;omega
theorem zh {u:af} {R:Nat} (h:u.heap[R]?=some (.cells LA 26 (0,0))):u.heap[R]?=some (.cells #[.int .i64 0,.int .i64 0,.string ⟨#[]⟩,.slice none 0 0,.string ⟨#[]⟩,.slice none 0 0] 26 (0,0)):=h
theorem Fs {w u:af} (hb:Below w.heap.size w u) (x0 x1 x2 x3 x4 x5:ak):Below w.heap.size w (uA u w.heap.size 0 x0 x1 x2 x3 x4 x5) :=
 (((((hb.setCell (p:=⟨w.heap.size,0,none⟩) (ay _) x0).setCell (p:=⟨w.heap.size,1,none⟩) (ay _) x1).setCell (p:=⟨w.heap.size,2,none⟩) (ay _) x2).setCell (p:=⟨w.heap.size,3,none⟩) (ay _) x3).setCell (p:=⟨w.heap.size,4,none⟩) (ay _) x4).setCell (p:=⟨w.heap.size,5,none⟩) (ay _) x5
theorem JK (s:ae) (y:Int) (w:af) (hs:s.size<=100000000) (hm:w.cell? ⟨0,0,none⟩=some (.int .i64 y)) :
 Calls prog 5 #[.string s] w λr w'=> ∃cs,r= .returned (.tuple #[.agg cs.toArray,.int .i64 (Ju s).2])/\gq (· <w.heap.size) w' cs (Ju s).1/\Below w.heap.size w w':=by
 have hb0:=(aQ w.heap.size w).alloc (ay _) (.cells #[.int .i64 0,.int .i64 0,.string ⟨#[]⟩,.slice none 0 0,.string ⟨#[]⟩,.slice none 0 0] 26);have hr0:=eU w (.cells #[.int .i64 0,.int .i64 0,.string ⟨#[]⟩,.slice none 0 0,.string ⟨#[]⟩,.slice none 0 0] 26);obtain⟨hri,hbl⟩:=aau s hs;have HMx:=hd' (λu (hu:Below w.heap.size w u)=>aM hu hm);have HNw:=hd' (akj s (w.alloc (.cells #[.int .i64 0,.int .i64 0,.string ⟨#[]⟩,.slice none 0 0,.string ⟨#[]⟩,.slice none 0 0] 26)) hs);have HB0:=hd' hb0;have Tx:=hd' hr0;have HRI:=hd' hri;have HBL:=hd' hbl;obtain⟨Q,hQ⟩: ∃Q,Q=Ju s:=⟨_,rfl⟩;have HQ:=hd' hQ;rw[<-hQ];clear hb0 hr0 hm hri hbl hQ;go_enter func5,ntmps5
 go_wp2_with (first
  |(go_at_call 10;refine HNw.o'.mono ?_;rintro e w1 ⟨rfl,hr1,hb1⟩;have HR1:=hd' hr1;have HB1:=hd' (aK HB0.o' hb1);have HO1:=hd' ((hb1.block _ (fZ Tx.o')).trans Tx.o');have HZ1:=hd' hr1.lt;clear hr1 hb1)
  |(go_at_call 11;refine(ala w _ HB1.o').mono ?_;rintro e w2 ⟨E,he0,rfl,hbi,hb2,hex,hbb,hbl⟩;have HI:=hd' hbi;have HB2:=hd' hb2;have HEx:=hd' hex;have HE0:=hd' he0;have HZ2:Hid (w.heap.size+1<E.bb):=hd' (by have h1:=HZ1.o';have h2:=hbb;simp at h1;omega);clear hbi hb2 hex he0 hbb hbl))
 have HS:Hid (BR w (w.heap.size+1) E.bb Q (Rd.vJ (Rd.Oq s.toList)+1) E w2 0 (Rd.Oq s.toList) Aw w2):=hd'
  ⟨HI.o',rfl,HE0.o',HEx.o' _ (by omega) (by have:=HZ1.o';simpa using this),HEx.o' _ (by omega) (by have:=HZ1.o';simp at this;omega),by
   have h1:=HR1.o';rw[zY]at h1
   exact h1.kept (HB2.o'.block _ h1.lt),(HB2.o'.block _ (fZ HO1.o')).trans HO1.o',HRI.o',Im _,by have:=HBL.o';omega,by decide,HQ.o'⟩
 obtain⟨bb0,hbb⟩: ∃bb0,bb0=E.bb:=⟨_,rfl⟩;rw[<-hbb]at HS HZ2 |-;have hne:w.heap.size+1≠bb0:=by have:=HZ2.o';omega
 have hno:w.heap.size≠bb0:=by have:=HZ2.o';omega
 have hrb:w.heap.size<w.heap.size+1:=by omega
 clear HI HB2 HEx HE0 HZ2 HZ1 HR1 HB1 HO1 HNw HB0 Tx HRI HBL HQ hbb;go_loopg [] (Rd.vJ (Rd.Oq s.toList)+1) (λg wr=> ∃k E ws n m b,k<=g/\Hid (BR w (w.heap.size+1) bb0 Q k E ws n m b wr))
 case atStart=>exact⟨_,_,_,_,_,_,ay _,HS⟩
 case round =>
  clear HS;obtain⟨k,E,ws,n,m,b,hkg,HR⟩:=hrel;obtain⟨k,rfl⟩: ∃j,k=j+1:=⟨k-1,by have:=HR.o'.fu;omega⟩;have HNx:=hd' (ahN m (w.heap.size+1) y wr HR.o'.rd (HMx.o' _ HR.o'.below) HR.o'.ri.bn HR.o'.ri.ah);cases hrd:(Rd.fF m).1 with
  |none =>
   have HE:=hd' hrd
   have HN:Hid (∀r u,Qu wr.heap.size (Rd.fF m) r u->r= .returned (.tuple #[nC (if(Rd.fF m).2.dJ≠0 then 0 else 6) ⟨#[]⟩ none 0 0 false ⟨#[]⟩,.int .i64 (Rd.fF m).2.dJ])):=hd' λr u h=>by
    unfold Qu at h;rw[hrd]at h;exact h
   have HK:Hid (∀u,CP u (w.heap.size+1) (Rd.fF m).2->az (λj=>j=w.heap.size+1) wr u-> ∃E2:BE,E2.bb=bb0/\E2.w0=w/\BI E2 u n b u/\u.heap[w.heap.size]?=some (.cells LA 26 (0,0))/\E2.ex w.heap.size):=hd' λu h1 h2=>by
    obtain⟨E2,q1,q2, -,q4, -,q6,q7, -⟩:=HR.o'.next hrb hne h2 h1;exact⟨E2,q1,q2,q6,q7,q4⟩
   have hn0:=HR.o'.ahW;have HQ:=hd' HR.o'.q;clear hrd;by_cases her:(Rd.fF m).2.dJ=0
   ·rw[aj (λh=>h her),her]at HN;have HQ2:Hid (Q=(b.GN,b.AQ)):=hd' (by rw[HQ.o',NH HE.o' her]);clear HR HQ HE her HMx
    go_wp2_with (first
     |(go_at_call 12;refine HNx.o'.mono ?_;rintro e w3 ⟨hnx,hrd,hkp⟩;have akE:=HN.o' _ _ hnx;subst akE;obtain⟨E2,hb2,hw2,hbi,hout,hex⟩:=HK.o' _ hrd hkp;have HI:=hd' (hbi.world ((aQ _ _).alloc (ay _) (.cells #[.int .i64 6,.string ⟨#[]⟩,.slice none 0 0,.bool false,.string ⟨#[]⟩] 39)));have ZN:=hd' (alE HI.o' hn0);rw[hb2,hw2]at ZN;have HO:=hd' ((pU w3 (.cells #[.int .i64 6,.string ⟨#[]⟩,.slice none 0 0,.bool false,.string ⟨#[]⟩] 39) w.heap.size (fZ hout)).trans hout);have HX:=hd' hex;have HB2:=hd' hb2;clear hnx hrd hkp hbi hout hb2 hw2 hex)
     |(go_at_call 13;refine ZN.o'.mono ?_;rintro e w4 ⟨cs,rfl,hnc,hbw,hkb⟩;obtain⟨g0,g1,g2,g3,g4,g5,g6,g7,g8,g9,rfl⟩:=kV hnc;have hrw:=(HI.o'.other hkb HX.o' (by rw[HB2.o'];exact hno)).trans HO.o';obtain⟨⟨z0,z1,z2,z3,z4,z5⟩,t0,t1,t2,t3,t4,t5⟩:=kZ (zh hrw);have HNC:=hd' hnc;have HBW:=hd' hbw;have HRW:=hd' (λx0 x1 x2 x3 x4 x5=>qp x0 x1 x2 x3 x4 x5 (zh hrw));have HZ3:=hd' (fZ HO.o');unfold iF;clear hnc hbw hkb hrw))
    refine bU (tu rfl _ _ w.heap.size _ _ _ _ (.int .i64 b.AQ) (by rfl) (by rfl) (HRW.o' _ _ _ _ _ _) yD rfl qQ) rfl ?_;rw[HQ2.o'];refine⟨_,rfl,?_,Fs HBW.o' _ _ _ _ _ _⟩;exact(HNC.o'.kept (kU (F:=λj=>j<(w3.alloc (.cells #[.int .i64 6,.string ⟨#[]⟩,.slice none 0 0,.bool false,.string ⟨#[]⟩] 39)).heap.size) (O:=w.heap.size) _ _ _ _ _ _ (az.refl _ w4) (.inl HZ3.o'))).other λj _ hx=>by have h1:=HZ3.o';have h2:j<w.heap.size:=hx;show j<_;omega
   ·rw[au her]at HN;have heb:((Rd.fF m).2.dJ !=0)=true:=jJ.2 her;have HQ2:Hid (Q=(lu,(Rd.fF m).2.dJ)):=hd' (by rw[HQ.o',Kc HE.o' her]);clear HR HQ HE HMx her;generalize (Rd.fF m).2.dJ=er at *
    go_wp2_with (first
     |(go_at_call 12;refine HNx.o'.mono ?_;rintro e w3 ⟨hnx,hrd,hkp⟩;have akE:=HN.o' _ _ hnx;subst akE;obtain⟨E2,hb2,hw2,hbi,hout,hex⟩:=HK.o' _ hrd hkp;have hrw:=(pU w3 (.cells #[.int .i64 0,.string ⟨#[]⟩,.slice none 0 0,.bool false,.string ⟨#[]⟩] 39) w.heap.size (fZ hout)).trans hout;have hbw:=hbi.below;rw[hw2]at hbw;have HBW:=hd' (hbw.alloc hbw.size (.cells #[.int .i64 0,.string ⟨#[]⟩,.slice none 0 0,.bool false,.string ⟨#[]⟩] 39));obtain⟨⟨z0,z1,z2,z3,z4,z5⟩,t0,t1,t2,t3,t4,t5⟩:=kZ (zh hrw);have HRW:=hd' (λx0 x1 x2 x3 x4 x5=>qp x0 x1 x2 x3 x4 x5 (zh hrw));clear hnx hrd hkp hbi hout hb2 hw2 hex hrw hbw))
    refine bU (tu rfl _ _ w.heap.size _ _ _ _ (.int .i64 er) (by rfl) (by rfl) (HRW.o' _ _ _ _ _ _) yD rfl qQ) rfl ?_;rw[HQ2.o'];exact⟨_,rfl,xN,Fs HBW.o' _ _ _ _ _ _⟩
  |some x =>
   have HN:Hid (∀r u,Qu wr.heap.size (Rd.fF m) r u-> ∃a c,r= .returned (.tuple #[nC (ig x).aH (ig x).ah a (ig x).aA.length c (ig x).self (ig x).aL,.int .i64 0])/\u.ownsRow wr.heap.size 128 2 (.slice a (ig x).aA.length c) (ig x).aA.length (bz (ig x).aA)):=hd' λr u h=>by
    unfold Qu at h;rw[hrd]at h;exact h
   have HT:Hid (∀u a c,CP u (w.heap.size+1) (Rd.fF m).2->az (λj=>j=w.heap.size+1) wr u->u.ownsRow wr.heap.size 128 2 (.slice a (ig x).aA.length c) (ig x).aA.length (bz (ig x).aA)-> ∃E2,BT w (w.heap.size+1) bb0 Q k E2 n (Rd.fF m).2 b x a c u):=hd' λu a c h1 h2 h3=>HR.o'.told hrb hne h2 h1 hrd h3
   obtain⟨hgood, -⟩:=EA HR.o'.ri hrd rfl;have hk6:((ig x).aH==6)=false:=aV.2 (by have:=hgood.aH;show x.aH≠6;omega);obtain⟨m2,hm2⟩: ∃m2,m2=(Rd.fF m).2:=⟨_,rfl⟩;rw[<-hm2]at HT;have HM2:Hid (∀u,CP u (w.heap.size+1) (Rd.fF m).2->CP u (w.heap.size+1) m2):=hd' λu h=>hm2▸h
   clear HR HMx hgood hrd hm2;have HDo:=hd' (λE2 a c u (h:BT w (w.heap.size+1) bb0 Q k E2 n m2 b x a c u) (o:Obj)=>h.do hne hno ((aQ _ _).alloc (ay _) o));have HAg:=hd' (λE2 a c u (h:BT w (w.heap.size+1) bb0 Q k E2 n m2 b x a c u) v v1=>h.again (v:=v) (v1:=v1) hrb hne);have HW0:=hd' (λE2 a c u (h:BT w (w.heap.size+1) bb0 Q k E2 n m2 b x a c u)=>(⟨h.w0,h.bb,h.q,h.nl,h.nm⟩:E2.w0=w/\E2.bb=bb0/\Q=(if(b.wF (ig x)).dJ≠0 then(lu,(b.wF (ig x)).dJ)else qK k (ug m2 (b.wF (ig x))) (b.wF (ig x)))/\x.ah.length<=2049/\b.ah.size<=4294967280));have HNm:Hid (b.ah.size<=4294967280->x.ah.length<=2049->(b.wF (ig x)).ah.size<=4294967280):=hd' λh1 h2=>ZT h1 (by show(Rd.bA x.ah).size<=_;rw[Rd.bV];omega)
   have HAf:=hd' (ug.eq_1 m2 (b.wF (ig x)));obtain⟨X,hX⟩: ∃X,X=ig x:=⟨_,rfl⟩;rw[<-hX]at HN HT hk6 HDo HAg HW0 HNm HAf;obtain⟨cc,hcc⟩: ∃cc,cc=b.wF X:=⟨_,rfl⟩;rw[<-hcc]at HDo HAg HW0 HNm HAf;clear hX hcc;by_cases her:cc.dJ=0
   ·have ani:=hd' her;rw[her]at HDo;clear her;by_cases hraw:cc.raw=0
    ·have amI:(cc.raw !=0)=false:=by rw[hraw];rfl
     go_wp2_with (first
      |(go_at_call 12;refine HNx.o'.mono ?_;rintro e w3 ⟨hnx,hrd,hkp⟩;obtain⟨a,c,rfl,how⟩:=HN.o' _ _ hnx;obtain⟨E2,hbt⟩:=HT.o' _ a c (HM2.o' _ hrd) hkp how;have HBT:=hd' hbt;have HBb:=hd' (HW0.o' _ _ _ _ hbt).2.1;have HNs:=hd' (HNm.o' (HW0.o' _ _ _ _ hbt).2.2.2.2 (HW0.o' _ _ _ _ hbt).2.2.2.1);clear hnx hrd hkp how hbt)
      |(go_at_call 14;refine(HDo.o' _ _ _ _ HBT.o' _).mono ?_;rintro e w4 ⟨rfl,VS,YW,GH⟩;have hre:=WT VS;rw[HBb.o']at hre;have HRe:=hd' hre;have agU:=hd' YW;have HO4:=hd' GH;clear VS YW GH hre)
      |(go_at_call 15;refine HRe.o'.mono ?_;rintro e w5 ⟨rfl,afV,hb5⟩;have HI5:=hd' afV;have aln:=hd' (agU.o'.kept (hb5.block _ agU.o'.lt));have HO5:=hd' ((hb5.block _ (fZ HO4.o')).trans HO4.o');clear afV hb5)
      |(go_at_call 17;refine(UK _ (w.heap.size+1) _ _ aln.o').mono ?_;rintro e w7 ⟨rfl,afK,hk7⟩;have alm:=hd' afK;have HK7:=hd' hk7;clear afK hk7))
     go_roundg k
     case measure=>omega
     case rel =>
      rw[aj (λh=>h hraw)]at HAf;obtain⟨E3,ws3,h3⟩:=HAg.o' _ _ _ _ HBT.o' _ _ HI5.o' HO5.o' HK7.o' (by rw[HAf.o'];exact alm.o') ani.o';exact⟨_,_,_,_,_,_,ay _,hd' h3⟩
    ·have amJ:=hd' hraw;have amI:(cc.raw !=0)=true:=jJ.2 hraw;clear hraw
     go_wp2_with (first
      |(go_at_call 12;refine HNx.o'.mono ?_;rintro e w3 ⟨hnx,hrd,hkp⟩;obtain⟨a,c,rfl,how⟩:=HN.o' _ _ hnx;obtain⟨E2,hbt⟩:=HT.o' _ a c (HM2.o' _ hrd) hkp how;have HBT:=hd' hbt;have HBb:=hd' (HW0.o' _ _ _ _ hbt).2.1;have HNs:=hd' (HNm.o' (HW0.o' _ _ _ _ hbt).2.2.2.2 (HW0.o' _ _ _ _ hbt).2.2.2.1);clear hnx hrd hkp how hbt)
      |(go_at_call 14;refine(HDo.o' _ _ _ _ HBT.o' _).mono ?_;rintro e w4 ⟨rfl,VS,YW,GH⟩;have hre:=WT VS;rw[HBb.o']at hre;have HRe:=hd' hre;have agU:=hd' YW;have HO4:=hd' GH;clear VS YW GH hre)
      |(go_at_call 15;refine HRe.o'.mono ?_;rintro e w5 ⟨rfl,afV,hb5⟩;have HI5:=hd' afV;have aln:=hd' (agU.o'.kept (hb5.block _ agU.o'.lt));have HO5:=hd' ((hb5.block _ (fZ HO4.o')).trans HO4.o');clear afV hb5)
      |(go_at_call 16;refine(ahO m2 (w.heap.size+1) cc.raw cc.ah _ aln.o' HNs.o').mono ?_;rintro e w6 ⟨rfl,amH,amU⟩;have aq2:=hd' amH;have HK6:=hd' amU;clear amH amU)
      |(go_at_call 17;refine(UK _ (w.heap.size+1) _ _ aq2.o').mono ?_;rintro e w7 ⟨rfl,afK,hk7⟩;have alm:=hd' afK;have HK7:=hd' hk7;clear afK hk7))
     go_roundg k
     case measure=>omega
     case rel =>
      rw[au amJ.o']at HAf;obtain⟨E3,ws3,h3⟩:=HAg.o' _ _ _ _ HBT.o' _ _ HI5.o' HO5.o' (HK6.o'.trans HK7.o') (by rw[HAf.o'];exact alm.o') ani.o';exact⟨_,_,_,_,_,_,ay _,hd' h3⟩
   ·have heb:(cc.dJ !=0)=true:=jJ.2 her;have HER:=hd' her;clear her;generalize hce:cc.dJ=er at heb HDo;have HCE:=hd' hce;clear hce
    go_wp2_with (first
     |(go_at_call 12;refine HNx.o'.mono ?_;rintro e w3 ⟨hnx,hrd,hkp⟩;obtain⟨a,c,rfl,how⟩:=HN.o' _ _ hnx;obtain⟨E2,hbt⟩:=HT.o' _ a c (HM2.o' _ hrd) hkp how;have HBT:=hd' hbt;clear hnx hrd hkp how hbt)
     |(go_at_call 14;refine(HDo.o' _ _ _ _ HBT.o' _).mono ?_;rintro e w4 ⟨rfl,VS,YW,GH⟩;have hbw:=VS.below;rw[(HW0.o' _ _ _ _ HBT.o').1]at hbw;have HBW:=hd' hbw;obtain⟨⟨z0,z1,z2,z3,z4,z5⟩,t0,t1,t2,t3,t4,t5⟩:=kZ (zh GH);have HRW:=hd' (λx0 x1 x2 x3 x4 x5=>qp x0 x1 x2 x3 x4 x5 (zh GH));clear VS YW GH hbw))
    refine bU (tu rfl _ _ w.heap.size _ _ _ _ (.int .i64 er) (by rfl) (by rfl) (HRW.o' _ _ _ _ _ _) yD rfl qQ) rfl ?_;have hq:=(HW0.o' _ _ _ _ HBT.o').2.2.1;rw[au HER.o',HCE.o']at hq;rw[hq];exact⟨_,rfl,xN,Fs HBW.o' _ _ _ _ _ _⟩
end
def sh1:ae:=(⟨#[60,98,62,49,60,112,62,50,60,47,98,62,51]⟩:ae)
def sh2:ae:=(⟨#[60,116,97,98,108,101,62,120,60,116,114,62,60,116,100,62,121]⟩:ae)
def nE (nm:ae) (l:List NT):NT:= .mk 1 0 nm [] ⟨#[]⟩ l
def nT (t:ae):NT:= .mk 2 0 ⟨#[]⟩ [] t []
def tr1:NT:=nE (⟨#[104,116,109,108]⟩:ae) [nE (⟨#[104,101,97,100]⟩:ae) [],nE (⟨#[98,111,100,121]⟩:ae) [nE (⟨#[98]⟩:ae) [nT (⟨#[49]⟩:ae)],nE (⟨#[112]⟩:ae) [nE (⟨#[98]⟩:ae) [nT (⟨#[50]⟩:ae)],nT (⟨#[51]⟩:ae)]]]
def tr2:NT:=nE (⟨#[104,116,109,108]⟩:ae) [nE (⟨#[104,101,97,100]⟩:ae) [],nE (⟨#[98,111,100,121]⟩:ae) [nT (⟨#[120]⟩:ae),nE (⟨#[116,97,98,108,101]⟩:ae) [nE (⟨#[116,98,111,100,121]⟩:ae) [nE (⟨#[116,114]⟩:ae) [nE (⟨#[116,100]⟩:ae) [nT (⟨#[121]⟩:ae)]]]]]]
theorem ev1:Ju sh1=(tr1,0):=by kernel_rfl
theorem ev2:Ju sh2=(tr2,0):=by kernel_rfl
mutual
/-- a tree as a aL -/
def qM:NT->ae
 | .mk k _ nm _ t aP=>if k=2 then t else(nm++(Vq [40]++nk aP))++Vq [41]
def nk:List NT->ae
 | []=>⟨#[]⟩
 |x::r=>qM x++nk r
end
theorem aa7 (b:ae):b++(⟨#[]⟩:ae)=b:=ByteArray.append_empty
theorem ahY (b:ae):(⟨#[]⟩:ae)++b=b:=ByteArray.empty_append
theorem Aj: ∀(l r:List NT),nk (l++r)=nk l++nk r
 | [],r=>(ahY _).symm
 |x::l,r=>by rw[mq,nk,nk,Aj l r,ByteArray.append_assoc]
theorem abB (l:List NT) (j:Nat) (h:j<l.length):nk (l.take (j+1))=nk (l.take j)++qM l[j]:=by
 have:l.take (j+1)=l.take j++ [l[j]]:=by rw[QN];simp[h]
 rw[this,Aj,nk,nk,aa7]
theorem Z6 (l:List NT) (j:Nat) (_h:j<=l.length):(nk (l.take j)).size<=(nk l).size:=by
 conv=>rhs;rw[<-nQ j l,Aj]
 rw[xk];omega
theorem Ud: ∀(l:List NT) (x:NT),x∈l->(qM x).size<=(nk l).size
 | [],_,h=>by simp at h
 |y::r,x,h=>by
  rw[nk,xk];rcases dS.1 h with h|h
  ·rw[h];omega
  ·have:=Ud r x h;omega
theorem XA:(⟨#[40]⟩:ae)=Vq [40]++nk (([]:List NT)):=by rw[nk,aa7];rfl
theorem Ue {aH aN:Int} {ah aL:ae} {aP:List NT} (hk2:aH≠2) (h:(qM (.mk aH aN ah [] aL aP)).size<=1000000):(nk aP).size+2+ah.size<=1000000:=by
 rw[qM,aj hk2,xk,xk,xk]at h;have h1:(Vq [40]).size=1:=rfl;have h2:(Vq [41]).size=1:=rfl;omega
theorem abC (aH aN:Int) (ah:ae) (a:Option Addr) (an ac:Nat) (aL:ae) (ka:Option Addr) (kc:Nat) (aP:List NT) (css:List (List ak)) (w:af)
 (k1:aP.length<=kc) (k2:kc<=maxLen) (k4:rX pG w ka css.flatten) (hl:css.length=aP.length) (hk: ∀i (h:i<css.length) (h':i<aP.length),gq pG w css[i] aP[i]) (hm:(qM (.mk aH aN ah [] aL aP)).size<=1000000) (hk2:aH≠2)
 (ih: ∀j (h:j<aP.length) (cs:List ak) (u:af),gq pG u cs aP[j]->Calls prog 9 #[.agg cs.toArray] u λe u'=>e= .returned (.string (qM aP[j]))/\Below u.heap.size u u') :
 Calls prog 9 #[.agg #[.int .i64 aH,.int .i64 aN,.string ah,.slice a an ac,.string aL,.slice ka aP.length kc]] w λe w'=>e= .returned (.string (qM (.mk aH aN ah [] aL aP)))/\Below w.heap.size w w':=by
 have Bw:=hd' k4;have HK:=hd' hk;have HIH:=hd' ih;have HL:=hd' hl;have hB:=eU w (.cells #[.int .i64 aH,.int .i64 aN,.string ah,.slice a an ac,.string aL,.slice ka aP.length kc] 26);have hb:=(aQ w.heap.size w).alloc (ay _) (.cells #[.int .i64 aH,.int .i64 aN,.string ah,.slice a an ac,.string aL,.slice ka aP.length kc] 26);unfold maxLen at k2;have HM:=hd' hm;have hkb:(aH==2)=false:=aV.2 hk2;have HSz:=hd' (Ue (aH:=aH) (aN:=aN) (ah:=ah) (aL:=aL) (aP:=aP) hk2 hm);have hkc:aP.length<=9223372036854775807:=by omega
 clear k4 hk ih hl hm;go_enter func9,ntmps9
 go_wp2_with fail
 generalize w.alloc (.cells #[.int .i64 aH,.int .i64 aN,.string ah,.slice a an ac,.string aL,.slice ka aP.length kc] 26)=w1 at *;have HB:=hd' hB;have HB1:=hd' hb;clear hB hb;go_loopw [4,3] (λi s wr=> ∃j:Nat,j<=aP.length/\i= .int .i64 j/\(∃acc:ae,Hid (acc=Vq [40]++nk (aP.take j))/\s= .string acc)/\Below w1.heap.size w1 wr) (λi _ _=>aP.length-(intOf i).toNat)
 case atStart=>exact⟨0,bD _,rfl,⟨_,hd' XA,rfl⟩,aQ _ _⟩
 case round =>
  obtain⟨j,hj,rfl,⟨acc,TA,rfl⟩,hbr⟩:=hrel;have nJ:=hd' hbr;have Od:=hd' (HB1.o'.trans (hbr.mono HB1.o'.size));have hBr:=(hbr.block w.heap.size (fZ HB.o')).trans HB.o';obtain⟨⟨_,_,_,_,_,c5⟩,_⟩:=kZ hBr;have hsz:=Z6 aP j hj;clear hbr hBr;by_cases hlt:j<aP.length
  ·have hlt':j<css.length:=by rw[HL.o'];exact hlt
   have Fw:=az.bC (F:=pG) Od.o';have qg:=(HK.o' j hlt' hlt).kept Fw
   have h6: ∀c∈css,c.length=6:=by
    intro c hc;obtain⟨i,hi,rfl⟩:=pR hc;exact(HK.o' i hi (by rw[<-HL.o'];exact hi)).len
   obtain⟨f0,f1,f2,f3,f4,f5,f6,f7,f8,f9,he⟩:=kV qg;obtain⟨b,o,rfl,e0,e1,e2,e3,e4,e5⟩:=uG h6 (Bw.o'.kept Fw) hlt' he;rw[he]at qg;have HC:=hd' (HIH.o' j hlt _ wr qg);unfold iF at HC;have hc1:=abB aP j hlt;have aps:=Z6 aP (j+1) hlt;obtain⟨d,hd⟩: ∃d,d=qM aP[j]:=⟨_,rfl⟩;rw[<-hd]at HC hc1;have HN:Hid (acc++d=Vq [40]++nk (aP.take (j+1))):=hd' (by rw[TA.o',hc1,ByteArray.append_assoc])
   have hsum:acc.size+d.size<=1000000:=by
    have h1:=aW ByteArray.size HN.o';rw[xk,xk]at h1;have h2:=HSz.o';have h3:(Vq [40]).size=1:=rfl;omega
   have hlim: ¬9223372036854775807<acc.size+d.size:=by omega
   clear Fw qg h6 he hc1 hd hsz aps hsum;go_wp2_with fail
   refine HC.o'.mono ?_;rintro e w2 ⟨rfl,hb2⟩;have HB2:=hd' (aK nJ.o' hb2);clear hb2;go_wp2_with fail
   go_roundw
   case rel=>exact⟨j+1,by omega,by go_num,⟨_,HN,rfl⟩,HB2.o'⟩
   case measure=>simp[intOf];omega
  ·have he:aP.take j=aP:=iH (by omega);obtain⟨⟨_,_,c2,_,_,_⟩,_⟩:=kZ ((nJ.o'.block w.heap.size (fZ HB.o')).trans HB.o');have hn:=HSz.o';have HV:Hid (qM (.mk aH aN ah [] aL aP)=(ah++acc)++Vq [41]):=hd' (by rw[qM,aj hk2,TA.o',he])
   have h3:ah.size+acc.size+1<=1000000:=by
    have h4:=HM.o';rw[HV.o',xk,xk]at h4;exact h4
   have hl1: ¬9223372036854775807<ah.size+acc.size:=by omega
   have hl2: ¬9223372036854775807<ah.size+acc.size+1:=by omega
   clear he hsz hn h3;go_wp2_with fail
   go_ret;rw[HV.o'];exact⟨rfl,Od.o'⟩
theorem abA (aN:Int) (ah:ae) (a:Option Addr) (an ac:Nat) (aL:ae) (ka:Option Addr) (kn kc:Nat) (w:af) :
 Calls prog 9 #[.agg #[.int .i64 2,.int .i64 aN,.string ah,.slice a an ac,.string aL,.slice ka kn kc]] w λe w'=>e= .returned (.string aL)/\Below w.heap.size w w':=by
 go_enter func9,ntmps9
 go_wp2_with fail
 go_ret;exact⟨rfl,(aQ _ _).alloc (ay _) _⟩
theorem LK: ∀(m:Nat) (n:NT) (w:af) (cs:List ak),fT n<=m->(qM n).size<=1000000->gq pG w cs n->Calls prog 9 #[.agg cs.toArray] w λe w'=>e= .returned (.string (qM n))/\Below w.heap.size w w'
 |0,.mk _ _ _ _ _ _,_,_,h,_,_=>by
  rw[fT]at h;omega
 |m+1,n,w,cs,h,hm,hn=>by
  cases hn with
  | @mk aH aN ah a c aA aL ka kc aP css h1 h2 h3 h4 k1 k2 k3 k4 hl hk =>
    rw[fT]at h;by_cases hk2:aH=2
    ·subst hk2;have e:qM (.mk 2 aN ah aA aL aP)=aL:=by rw[qM,au rfl]
     rw[e];exact abA aN ah a aA.length c aL ka aP.length kc w
    ·have e:qM (.mk aH aN ah aA aL aP)=qM (.mk aH aN ah [] aL aP):=by rw[qM,qM]
     rw[e]at hm |-;refine abC aH aN ah a aA.length c aL ka kc aP css w k1 k2 k4 hl hk hm hk2 ?_;intro j hj cs u hc;have h5:=uL aP aP[j] (kH hj);have h6:=Ud aP aP[j] (kH hj);have h7:=Ue (aH:=aH) (aN:=aN) (ah:=ah) (aL:=aL) (aP:=aP) hk2 hm;exact LK m aP[j] u cs (by omega) (by omega) hc
theorem ajx:qM tr1=(⟨#[104,116,109,108,40,104,101,97,100,40,41,98,111,100,121,40,98,40,49,41,112,40,98,40,50,41,51,41,41,41]⟩:ae):=by kernel_rfl
theorem ajw:qM tr2=(⟨#[104,116,109,108,40,104,101,97,100,40,41,98,111,100,121,40,120,116,97,98,108,101,40,116,98,111,100,121,40,116,114,40,116,100,40,121,41,41,41,41,41,41]⟩:ae):=by kernel_rfl
theorem cnt1:fT tr1=9:=by kernel_rfl
theorem cnt2:fT tr2<=20:=by decide +kernel
theorem aqc:mW tr1=5:=by kernel_rfl
theorem ak3 (w:af) (y:Int) (hm:w.cell? ⟨0,0,none⟩=some (.int .i64 y)) :
 Calls prog 5 #[.string (⟨#[60,98,62,49,60,112,62,50,60,47,98,62,51]⟩:ae)] w λr w'=> ∃f0 f1 f2 f3 f4 f5 f6 f7 f8 f9,r= .returned (.tuple #[.agg #[.int .i64 f0,.int .i64 f1,.string f2,.slice f3 f4 f5,.string f6,.slice f7 f8 f9],.int .i64 0])/\gq pG w' (iF f0 f1 f2 f3 f4 f5 f6 f7 f8 f9) tr1/\Below w.heap.size w w':=by
 have h:=JK sh1 y w (by decide) hm;rw[ev1]at h;refine h.mono λr w' ⟨cs,hr,hn,hb⟩=> ?_
 obtain⟨f0,f1,f2,f3,f4,f5,f6,f7,f8,f9,rfl⟩:=kV hn;exact⟨f0,f1,f2,f3,f4,f5,f6,f7,f8,f9,hr,hn.other λ_ _ hx=>hx.elim,hb⟩
theorem ak2 (w:af) (y:Int) (hm:w.cell? ⟨0,0,none⟩=some (.int .i64 y)) :
 Calls prog 5 #[.string (⟨#[60,116,97,98,108,101,62,120,60,116,114,62,60,116,100,62,121]⟩:ae)] w λr w'=> ∃f0 f1 f2 f3 f4 f5 f6 f7 f8 f9,r= .returned (.tuple #[.agg #[.int .i64 f0,.int .i64 f1,.string f2,.slice f3 f4 f5,.string f6,.slice f7 f8 f9],.int .i64 0])/\gq pG w' (iF f0 f1 f2 f3 f4 f5 f6 f7 f8 f9) tr2/\Below w.heap.size w w':=by
 have h:=JK sh2 y w (by decide) hm;rw[ev2]at h;refine h.mono λr w' ⟨cs,hr,hn,hb⟩=> ?_
 obtain⟨f0,f1,f2,f3,f4,f5,f6,f7,f8,f9,rfl⟩:=kV hn;exact⟨f0,f1,f2,f3,f4,f5,f6,f7,f8,f9,hr,hn.other λ_ _ hx=>hx.elim,hb⟩
theorem Ur (w:af) (y:Int) (hm:w.cell? ⟨0,0,none⟩=some (.int .i64 y)):Calls prog 4 #[] w λe w'=>e= .returned (.bool true)/\Below w.heap.size w w':=by
 have H1:=hd' (ak3 w y hm);have H2:=hd' (λu (hu:Below w.heap.size w u)=>ak2 u y (aM hu hm));clear hm;go_enter func4,ntmps4
 go_wp2_with fail
 refine H1.o'.mono ?_;rintro e w1 ⟨f0,f1,f2,f3,f4,f5,f6,f7,f8,f9,rfl,hn1,hb1⟩;have HN1:=hd' hn1;have HB1:=hd' (hb1.alloc hb1.size (.cells #[.int .i64 f0,.int .i64 f1,.string f2,.slice f3 f4 f5,.string f6,.slice f7 f8 f9] 26));have HR1:=hd' (eU w1 (.cells #[.int .i64 f0,.int .i64 f1,.string f2,.slice f3 f4 f5,.string f6,.slice f7 f8 f9] 26));clear hn1 hb1;dsimp only;go_wp2_with fail
 refine(H2.o' _ HB1.o').mono ?_;rintro e w2 ⟨g0,g1,g2,g3,g4,g5,g6,g7,g8,g9,rfl,hn2,hb2⟩;obtain⟨W3,hW3⟩: ∃W3,W3=w2.alloc (.cells #[.int .i64 g0,.int .i64 g1,.string g2,.slice g3 g4 g5,.string g6,.slice g7 g8 g9] 26):=⟨_,rfl⟩;have hb3:Below w.heap.size w W3:=by rw[hW3];exact(aK HB1.o' hb2).alloc (aK HB1.o' hb2).size _
 have hra:W3.heap[w1.heap.size]?=some (.cells #[.int .i64 f0,.int .i64 f1,.string f2,.slice f3 f4 f5,.string f6,.slice f7 f8 f9] 26 (0,0)):=by
  have h4:=(hb2.block _ (fZ HR1.o')).trans HR1.o';rw[hW3];exact(pU w2 _ _ (fZ h4)).trans h4
 have hrb:W3.heap[w2.heap.size]?=some (.cells #[.int .i64 g0,.int .i64 g1,.string g2,.slice g3 g4 g5,.string g6,.slice g7 g8 g9] 26 (0,0)):=by rw[hW3];exact eU _ _
 have hna:gq pG W3 (iF f0 f1 f2 f3 f4 f5 f6 f7 f8 f9) tr1:=by
  rw[hW3];exact(HN1.o'.kept ((az.refl _ _).alloc _)).kept ((az.bC hb2).alloc _)
 have hnb:gq pG W3 (iF g0 g1 g2 g3 g4 g5 g6 g7 g8 g9) tr2:=by
  rw[hW3];exact hn2.kept ((az.refl _ _).alloc _)
 have CA:=hd' (λu (hu:Below W3.heap.size W3 u)=>(kZ ((hu.block _ (fZ hra)).trans hra)).1);have CB:=hd' (λu (hu:Below W3.heap.size W3 u)=>(kZ ((hu.block _ (fZ hrb)).trans hrb)).1);have HT1:=hd' (λu (hu:Below W3.heap.size W3 u)=>LK 20 tr1 u _ (by decide +kernel) (by rw[ajx];decide) (hna.kept (az.bC hu)));have HT2:=hd' (λu (hu:Below W3.heap.size W3 u)=>LK 20 tr2 u _ cnt2 (by rw[ajw];decide) (hnb.kept (az.bC hu)));have ZP:=hd' (λu (hu:Below W3.heap.size W3 u)=>Fv 20 tr1 u _ (by decide +kernel) (by decide) (hna.kept (az.bC hu)));have HD1:=hd' (λu (hu:Below W3.heap.size W3 u)=>xS 20 tr1 u _ (by decide +kernel) (by decide) (hna.kept (az.bC hu)));rw[ajx]at HT1;rw[ajw]at HT2;rw[cnt1]at ZP;rw[aqc]at HD1;unfold iF at HT1 HT2 ZP HD1;have HB3:=hd' hb3;have HW3:=hd' hW3;obtain⟨a0,a1,a2,a3,a4,a5⟩:=CA.o' _ (aQ _ _);have hr0:=hd' (aQ W3.heap.size W3);clear hb2 hn2 hra hrb hna hnb hb3 HN1 HB1 HR1 H2 H1 hW3;dsimp only;rw[HW3.o']at a0 a1 a2 a3 a4 a5;go_wp2_with fail
 rw[<-HW3.o'];refine(HT1.o' _ hr0.o').mono ?_;rintro e w4 ⟨rfl,hb4⟩;have H4:=hd' hb4;obtain⟨b0,b1,b2,b3,b4,b5⟩:=CB.o' _ hb4;clear a0 a1 a2 a3 a4 a5 hb4;dsimp only;go_wp2_with fail
 refine(HT2.o' _ H4.o').mono ?_;rintro e w5 ⟨rfl,hb5⟩;have H5:=hd' (aK H4.o' hb5);obtain⟨a0,a1,a2,a3,a4,a5⟩:=CA.o' _ H5.o';clear b0 b1 b2 b3 b4 b5 hb5;dsimp only;go_wp2_with fail
 refine(ZP.o' _ H5.o').mono ?_;rintro e w6 ⟨rfl,hb6⟩;have H6:=hd' (aK H5.o' hb6);clear a0 a1 a2 a3 a4 a5 hb6;obtain⟨a0,a1,a2,a3,a4,a5⟩:=CA.o' _ H6.o';dsimp only;go_wp2_with fail
 refine(HD1.o' _ H6.o').mono ?_;rintro e w7 ⟨rfl,hb7⟩;have H7:=hd' (aK H6.o' hb7);clear a0 a1 a2 a3 a4 a5 hb7;dsimp only;go_wp2_with fail
 go_ret;exact⟨rfl,aK HB3.o' H7.o'⟩
theorem aiF (b:aC):(b.qj.dJ≠0/\b.AQ=b.qj.dJ)\/(b.qj.dJ=0/\b.AQ=44)\/(b.qj.dJ=0/\b.AQ=0/\mW b.qj.vo<=32):=by
 unfold aC.AQ;by_cases he:b.qj.dJ=0
 ·rw[aj (show ¬b.qj.dJ≠0 from λx=>x he)];by_cases hd:32<mW b.qj.vo
  ·rw[au hd];exact .inr (.inl ⟨he,rfl⟩)
  ·rw[aj hd];exact .inr (.inr ⟨he,rfl,by omega⟩)
 ·rw[au he];exact .inl ⟨he,rfl⟩
theorem IN.iO {b:aC} (h:IN 1 b):ZQ (b.GN,b.AQ):=by
 obtain⟨h1,h2,h3⟩:=h.gZ;have hno:b.AQ≠0->b.GN=lu:=λhe=>aj he
 rcases aiF b with⟨he,e⟩|⟨he,e⟩|⟨he,e,hd⟩
 ·have h4:=e.trans (h2.resolve_left he);exact .inr ⟨hno (by rw[h4];decide),.inr (.inr (.inl h4))⟩
 ·exact .inr ⟨hno (by rw[e];decide),.inr (.inr (.inr e))⟩
 ·refine .inl ⟨e,?_⟩;have hN:b.GN=b.qj.vo:=au e;show ag6 b.GN;rw[hN];obtain⟨z,hf⟩:=h1 he;obtain⟨k1,k2,k3,k4,k5⟩:=hf.frame;refine⟨k1,k2,k3,k4,k5,?_,hd⟩;have hk:EX b.qj.S.T=1:=by unfold EX;rw[hf.tr.k0];rfl
  unfold aC.vo;rw[hk];exact Zf hf.tr.wf h3.1 hf.tr.two
theorem aaW: ∀(k:Nat) (m:Rd.gP) (b:aC),Rd.vJ m<k->RdI m->IN 1 b->b.ah.size<=4294967280->ZQ (qK k m b)
 |0,_,_,h,_,_,_=>by omega
 |k+1,m,b,h,hr,hi,hn=>by
  cases e:(Rd.fF m).1 with
  |none =>
   by_cases he:(Rd.fF m).2.dJ=0
   ·rw[NH e he];exact hi.iO
   ·rw[Kc e he];have:=(Rd.UH _ m (ay _) hr.inv (.inl hr.dJ)).2.1;right;refine⟨rfl,?_⟩;rcases this with q|q|q
    ·exact absurd q he
    ·exact .inl q
    ·exact .inr (.inl q)
  |some x =>
   have hd:=hi.done (ig x);obtain⟨g1,g2,g3,g4,g5,g6⟩:=EA hr e rfl
   have hn2:(b.wF (ig x)).ah.size<=4294967280:=ZT hn (by
    show(Rd.bA x.ah).size<=_;rw[Rd.bV]
    omega)
   by_cases he:(b.wF (ig x)).dJ=0
   ·rw[ac7 e he];refine aaW k _ _ ?_ (Qo g2 hn2) hd hn2;rw[agi (Bc _ _).1 (Bc _ _).2];omega
   ·rw[Zj e he];exact .inr ⟨rfl,.inr (.inr (.inl (hd.dJ.resolve_left he)))⟩
theorem Ot (s:ae) (w:af) (hs:s.size<=1048576) (y:Int) (hm:w.cell? ⟨0,0,none⟩=some (.int .i64 y)) :
 Calls prog 3 #[.string s] w λe w'=>e= .returned (.bool true)/\Below w.heap.size w w':=by
 refine I8 s w (Ur w y hm) λu hu=>(JK s y u (by omega) (aM hu hm)).mono λr u' ⟨cs,hr,hn,hb⟩=>⟨cs,Ju s,hr,hn,?_,hb⟩
 exact aaW _ _ _ (Im _) (aau s (by omega)).1 aaw (by decide)
end Go.Proofs.YtnlbcifhedjbfaaGreatDoor
