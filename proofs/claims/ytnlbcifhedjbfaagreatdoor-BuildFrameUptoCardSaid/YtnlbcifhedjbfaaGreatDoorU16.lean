/- oZ joined for a claim: awX, FrL, FrM, FrN, FrW: plain laws and contracts. No conditions beyond those that each lemma types. -/
import Derived.Test.YtnlbcifhedjbfaaGreatDoorU15
import Derived.Test.YtnlbcifhedjbfaaGreatDoorU09
import Derived.Test.YtnlbcifhedjbfaaGreatDoorU12
import Derived.Test.YtnlbcifhedjbfaaGreatDoorU11
set_option linter.unusedVariables false
set_option linter.unusedSimpArgs false
set_option maxRecDepth 100000
set_option maxHeartbeats 8000000
open Go.Proofs.Tryz
namespace Go.Proofs.YtnlbcifhedjbfaaGreatDoor
open Go.RowKit Mem
section
theorem Vd {T:aB} (hw:WF T) {r:Int->Nat} (hr: ∀i:Nat,i<T.ai.length->1<=aJ T i->r (aJ T i)<r i): ∀(k:Nat) (i:Int),1<=i->i<T.ai.length-> ¬Deep k T i ->
 ∃L:List Int,L.length=k+1/\L.Nodup/\ ∀x∈L,0<=x/\x<T.ai.length/\r i<=r x
 |0,i,h1,h2,_=>⟨[i],rfl,by simp,λx hx=>by rw[dG.1 hx];exact⟨by omega,h2,ay _⟩⟩
 |k+1,i,h1,h2,h=>by
  have h3: ∃x∈aG T i,¬Deep k T x:=Xl λhn=>h λx hx=>Xl λhd=>hn ⟨x,hx,hd⟩
  obtain⟨x,hx,hd⟩:=h3;obtain⟨j,rfl⟩:=bQ (by omega:0<=i);obtain⟨p1,p2,p3⟩:=hw.kid j (by omega) x hx;obtain⟨y,rfl⟩:=bQ (by omega:0<=x);have hlt:=hr y (by omega) (by rw[p3];omega);rw[p3]at hlt;obtain⟨L,q1,q2,q3⟩:=Vd hw hr k y (by omega) (by omega) hd;refine⟨(j:Int)::L,by rw[dB,q1],mh.2 ⟨λhm=> ?_,q2⟩,λz hz=> ?_⟩
  ·have:=(q3 _ hm).2.2;omega
  ·rcases dS.1 hz with hz|hz
   ·rw[hz];exact⟨by omega,h2,ay _⟩
   ·obtain⟨a,b,c⟩:=q3 z hz;exact⟨a,b,by omega⟩
theorem AX {T:aB} (hw:WF T) (i:Nat) (h1:1<=i) (h2:i<T.ai.length):Deep T.ai.length T i:=by
 obtain⟨r,hr⟩:=hw.rank;refine Xl λhn=> ?_
 obtain⟨L,q1,q2,q3⟩:=Vd hw hr T.ai.length i (by omega) (by omega) hn;have:=Nu T.ai.length L q2 λx hx=>⟨(q3 x hx).1,(q3 x hx).2.1⟩
 omega
def xy (T:aB) (n:Int):NT:=jg T.ai.length T n
theorem Pk (F:Nat->Prop) (T:aB): ∀(d:Nat) (n:Int),jg d (ja F T) n=jg d T n
 |0,_=>rfl
 |d+1,n=>by
  have h3:jg d (ja F T)=jg d T:=funext (Pk F T d);simp only[jg,h3];rfl
theorem Mi {T:aB} (ha: ∀i (h:i<T.ai.length),T.ai[i].aA.length<=1048576): ∀(d:Nat) (n:Int),IW (jg d T n)
 |0,_=>by rw[jg];exact⟨bD _,trivial⟩
 |d+1,n=>by
  have hl: ∀l:List Int,Gd (l.map (jg d T)):=λl=>by
   induction l with
   |nil=>trivial
   |cons x r ih=>exact⟨Mi ha d x,ih⟩
  rw[jg];cases e:T.ai[n.toNat]? with
  |none=>exact⟨bD _,trivial⟩
  |some x =>
   obtain⟨hi,hx⟩:=En.1 e;have:=ha _ hi;rw[hx]at this;simp only;split
   ·exact⟨this,hl _⟩
   ·exact⟨bD _,trivial⟩
section
variable {w0 w:af} {B tb sb lb:Nat} {ex:Nat->Prop} {T:aB} {l aF:List Int} {on:Bool}
theorem ai1 (h:LI w0 B tb sb lb ex T l aF on w) (i:Nat) (h1:1<=i) (hi:i<T.ai.length) :
 Calls prog 24 #[.pointer (some ⟨tb,0,none⟩),.int .i64 i] w λe w'=> ∃cs,e= .returned (.tuple #[.agg cs.toArray,.int .i64 0])/\gq (· <w.heap.size) w' cs (xy T i)/\Below w.heap.size w w':=by
 have hwf:=h.wf;have hat:=h.Bz;have hlen:=h.len;obtain⟨g,jV,hT⟩:=h.tree
 have h2:=Pj T.ai.length (ja jV T) tb g w i (Y8 hwf) hlen (λd hd=>by
  obtain⟨j,hj,rfl⟩:=pR hd
  exact hat j hj) h1 hi (by
   have:=AX (Y8 (F:=jV) hwf) i h1 hi
   exact this) hT
 rw[Pk]at h2;exact h2
theorem UG (hw:WF T) (i:Nat) (h1:1<=i) (hi:i<T.ai.length):fT (xy T i)<=T.ai.length:=by
 unfold xy;rw[Fp T.ai.length T hw i h1 hi (AX hw i h1 hi)];exact aiP T i
end
def xM:aO:=⟨6,⟨#[]⟩,[],false,⟨#[]⟩⟩
def EX (T:aB):Int:=(aG T 0).headD 0
def aC.vo (b:aC):NT:=xy b.S.T (EX b.S.T)
noncomputable def aC.qj (b:aC):aC:=b.wF xM
noncomputable def aC.AQ (b:aC):Int:=if b.qj.dJ≠0 then b.qj.dJ else if 32<mW b.qj.vo then 44 else 0
noncomputable def aC.GN (b:aC):NT:=if b.AQ=0 then b.qj.vo else lu
section
variable {E:BE} {ws w w':af} {c c':Nat} {s s':Int} {b b':aC} {m m':aO} {a:Option Addr} {ac:Nat}
def BE.also (E:BE) (g:Nat):BE:= {E with ex:=λk=>E.ex k\/k=g}
theorem sG.also (h:sG E ws c s b w) (o:Obj):sG (E.also w.heap.size) (w.alloc o) c s b (w.alloc o) :=
 ⟨⟨h.bm.li.lay o,h.bm.row.kept (pU w o _ h.bm.lt),.inl h.bm.exb,h.bm.b0⟩,az.refl _ _,h.ok⟩
def OE (E:BE) (w:af):Nat->Prop:=λk=>OB E k\/w.heap.size<=k
theorem Ga {u:af} (h:az (OE E w) w u):az (OB E) w u:=⟨h.os,h.tape,h.output,h.size,λk hk hx=>h.block k hk λhy=>hy.elim hx λhz=>by omega⟩
theorem aiV {o:Obj} {u:af} (h:az (OB (E.also w.heap.size)) (w.alloc o) u):az (OE E w) w u:=by
 have k1:az (OE E w) w (w.alloc o):=(az.refl _ _).alloc o;refine k1.trans (h.mono λk hk hx=> ?_);rcases hx with hx|hx
 ·exact .inl (.inl ⟨hx.1,λhe=>hx.2 (.inl he)⟩)
 ·exact .inl (.inr hx)
theorem agB {o:Obj} {u:af} (hlt:E.bb<w.heap.size) (h:az (OB (E.also w.heap.size)) (w.alloc o) u):u.heap[w.heap.size]?=(w.alloc o).heap[w.heap.size]?:=by
 have hs:=zY w o;refine h.block _ (by omega) λhx=> ?_
 rcases hx with hx|hx
 ·exact hx.2 (.inr rfl)
 ·have:w.heap.size=E.bb:=hx;omega
theorem sG.ams (h:sG E ws c s b w) (j:Nat) (v:ak):sG {E with pg:=E.pg.set j v} ws c s b (w.setCell ⟨E.bb,11+j,none⟩ v):=by
 obtain⟨⟨h1,h2,h3,h4⟩,h5,h6⟩:=h;have hk1:az (λk=>k=E.bb) w (w.setCell ⟨E.bb,11+j,none⟩ v):=az.set (F:=λk=>k=E.bb) (az.refl _ w) (p:=⟨E.bb,11+j,none⟩) (.inl rfl) _;refine⟨⟨h1.dE (ex':=E.ex) hk1 (λk hx=>by subst hx;exact⟨h3,h4⟩) λk hx=>⟨.inl hx,fA (h1.Bu k hx) hk1.size⟩,?_,h3,h4⟩,h5.trans (hk1.mono λk _ hx=> .inr hx),h6⟩;have h7:=h2.set (11+j) v
 have e:(buV E b).set (11+j) v=buV {E with pg:=E.pg.set j v} b:=by
  unfold buV;rw[show 11+j=j+11 by omega];rfl
 rw[e]at h7;exact h7
theorem xN {F:Nat->Prop} {u:af}:gq F u (iF 0 0 ⟨#[]⟩ none 0 0 ⟨#[]⟩ none 0 0) lu :=
 .mk (aA:= []) (aP:= []) [] (ay _) (bD _) (λ_=>rfl) (λj u hj=>by simp[bz]at hj) (ay _) (bD _) (λ_=>rfl) (λj u hj=>by simp at hj) rfl (λi h=>by simp at h)
theorem Pp {w4:af} {O:Nat} {a0 a1 a2 a3 a4 a5:ak} {t:TypeId} (u0 u1 u2 u3 u4 u5:ak) (h:w4.heap[O]?=some (.cells #[a0,a1,a2,a3,a4,a5] t (0,0))) :
 (((((((w4.setCell ⟨O,0,none⟩ u0).setCell ⟨O,1,none⟩ u1).setCell ⟨O,2,none⟩ u2).setCell ⟨O,3,none⟩ u3).setCell ⟨O,4,none⟩ u4).setCell ⟨O,5,none⟩ u5).drew).heap[O]?=some (.cells #[u0,u1,u2,u3,u4,u5] t (0,0)):=by
 have e: ∀u:af,u.drew.heap=u.heap:=λ_=>rfl
 rw[e];exact qp u0 u1 u2 u3 u4 u5 h
theorem Bi {F:Nat->Prop} {w2 w4:af} {O:Nat} (u0 u1 u2 u3 u4 u5:ak) (hk:az F w2 w4) (hO:F O\/w2.heap.size<=O):az F w2 (((((((w4.setCell ⟨O,0,none⟩ u0).setCell ⟨O,1,none⟩ u1).setCell ⟨O,2,none⟩ u2).setCell ⟨O,3,none⟩ u3).setCell ⟨O,4,none⟩ u4).setCell ⟨O,5,none⟩ u5).drew):=(kU u0 u1 u2 u3 u4 u5 hk hO).drew
theorem ajo (h:sG E ws c 0 b w) {v0 v1 v2 v3 v4 v5:ak} (_hp:E.pg= [.bool false,v0,v1,v2,v3,v4,v5]) (he:b.dJ≠0) :
 Calls prog 13 #[.pointer (some ⟨E.bb,0,none⟩)] w λr w'=>r= .returned (.tuple #[.agg (iF 0 0 ⟨#[]⟩ none 0 0 ⟨#[]⟩ none 0 0).toArray,.int .i64 b.dJ])/\az (OB E) w w':=by
 have hb1:=(aQ w.heap.size w).alloc (ay _) (.cells #[.int .i64 0,.int .i64 0,.string ⟨#[]⟩,.slice none 0 0,.string ⟨#[]⟩,.slice none 0 0] 26);have h1:=h.world hb1;obtain⟨-, -, -,d10,hpg⟩:=h1.cells;have hef:(b.dJ==0)=false:=aV.2 he;have hne:(b.dJ !=0)=true:=jJ.2 he;have HR:=eU w (.cells #[.int .i64 0,.int .i64 0,.string ⟨#[]⟩,.slice none 0 0,.string ⟨#[]⟩,.slice none 0 0] 26);have HK:=hd' (az.bC (F:=OE E w) hb1);obtain⟨⟨z0,z1,z2,z3,z4,z5⟩,t0,t1,t2,t3,t4,t5⟩:=kZ HR;have HR1:=hd' HR;clear h h1 hpg he HR hb1;generalize b.dJ=er at *;go_enter func13,ntmps13
 go_wp2_with fail
 go_region
 all_goals
  go_wp2_with fail
  refine bU (tu rfl _ _ w.heap.size _ _ _ _ (.int .i64 er) (by rfl) (by rfl) HR1.o' yD rfl qQ) rfl ?_;exact⟨rfl,Ga HK.o'.drew⟩
theorem aaH {T:aB} (hw:WF T) (h:aG T 0≠ []): ∃i:Nat,EX T=i/\1<=i/\i<T.ai.length/\(bB (aG T 0))[0]?=some (.int .i64 i)/\vD T 0=aG T 0/\1<=(aG T 0).length:=by
 have hp:=hw.pos;have hk:=hw.kid 0 hp;have hq:vD T 0=aG T 0:=by unfold vD;rw[au ⟨by omega,by omega⟩]
 unfold EX;have e0:((0:Nat):Int)=0:=rfl;rw[e0]at hk;cases e:aG T 0 with
 |nil=>exact absurd e h
 |cons x r =>
  rw[e]at hk;obtain⟨h1,h2, -⟩:=hk x dR;obtain⟨i,rfl⟩:=bQ (by omega:0<=x);exact⟨i,rfl,by omega,by omega,rfl,by rw[hq,e],by rw[dB];omega⟩
theorem akZ (h:sG E ws c 0 b w) (hc:c<=1001) (hl:uw b<=4611686018427387904) (hmd:MD b) :
 Calls prog 23 #[.pointer (some ⟨E.bb,0,none⟩),.agg #[.int .i64 6,.string ⟨#[]⟩,.slice none 0 0,.bool false,.string ⟨#[]⟩]] w λr w'=>r= .returned (.tuple #[])/\sG E ws 10100 0 (b.GU xM) w' :=
 agh (m:=xM) (a:=none) (ac:=0) h ⟨λj u hj=>by simp[xM,bz]at hj,λ_=>rfl,bD _,λp hp=>by simp[xM]at hp,bD _,bD _⟩ hc hl hmd
theorem ab9 (h:sG E ws c s b w) {i:Nat} (i4:(bB (aG b.S.T 0))[0]?=some (.int .i64 i)) (i5:vD b.S.T 0=aG b.S.T 0) (i6:1<=(aG b.S.T 0).length) :
 Calls prog 25 #[.pointer (some ⟨E.tb,0,none⟩),.int .i64 0] w λr u'=> ∃kb ko kn kc,r= .returned (.slice (some ⟨kb,ko,none⟩) kn kc)/\1<=kn/\kn<=kc/\kc<=9223372036854775807/\u'.cell? ⟨kb,ko,none⟩=some (.int .i64 i)/\Below w.heap.size w u':=by
 refine(ajf h.bm.li 0).mono ?_;rintro e u' ⟨v,rfl,ho,hb⟩;rw[i5]at ho;obtain⟨ka,kc,rfl,q1,q2, -,hat⟩:=fJ ho;obtain⟨kb,ko,rfl,hc⟩:=hat 0 (.int .i64 i) i4;unfold maxLen at q2;exact⟨kb,ko,_,kc,rfl,i6,q1,by omega,hc,hb⟩
theorem ab8 (h:sG E ws c s b w) {i:Nat} (i1:EX b.S.T=i) (i2:1<=i) (i3:i<b.S.T.ai.length) :
 Calls prog 24 #[.pointer (some ⟨E.tb,0,none⟩),.int .i64 i] w λr u'=> ∃cs,r= .returned (.tuple #[.agg cs.toArray,.int .i64 0])/\gq (· <w.heap.size) u' cs b.vo/\Below w.heap.size w u':=by
 have hpn:b.vo=xy b.S.T i:=by unfold aC.vo;rw[i1]
 rw[hpn];exact ai1 h.bm.li i i2 i3
theorem Yp (h:sG E ws c s b w) (hk:aG b.S.T 0≠ []):fT b.vo<=1000000/\IW b.vo:=by
 obtain⟨i,i1,i2,i3, -⟩:=aaH h.bm.li.wf hk;have hpn:b.vo=xy b.S.T i:=by unfold aC.vo;rw[i1]
 rw[hpn];exact⟨bY (UG h.bm.li.wf i i2 i3) h.bm.li.len,Mi h.bm.li.Bz _ _⟩
theorem sG.akf {bb0:Nat} (h:sG E ws c s b w) (hbb:E.bb=bb0) (j:Nat) (v:ak): ∃E3:BE,E3.bb=bb0/\E3.pg=E.pg.set j v/\E3.tb=E.tb/\OB E3=OB E/\sG E3 ws c s b (w.setCell ⟨bb0,11+j,none⟩ v):=by
 subst hbb;exact⟨{E with pg:=E.pg.set j v},rfl,rfl,rfl,rfl,h.ams j v⟩
structure PG (E3:BE) (wz:af) (bb0 tb:Nat) (q:aC) (i:Nat) (vs:List ak) (W:af):Prop where
 Zo:sG E3 wz 10100 0 q W
 bb:E3.bb=bb0
 pg:E3.pg=vs
 tb':E3.tb=tb
 i1:EX q.S.T=i
 i2:1<=i
 i3:i<q.S.T.ai.length
 i4:(bB (aG q.S.T 0))[0]?=some (.int .i64 i)
 i5:vD q.S.T 0=aG q.S.T 0
 i6:1<=(aG q.S.T 0).length
theorem PG.world {E3:BE} {wz W:af} {bb0 tb i:Nat} {q:aC} {vs:List ak} (h:PG E3 wz bb0 tb q i vs W) {u:af} (hb:Below W.heap.size W u):PG E3 wz bb0 tb q i vs u:=⟨h.Zo.world hb,h.bb,h.pg,h.tb',h.i1,h.i2,h.i3,h.i4,h.i5,h.i6⟩
theorem PG.cell0 {E3:BE} {wz W:af} {bb0 tb i:Nat} {q:aC} {vs:List ak} (h:PG E3 wz bb0 tb q i vs W):W.cell? ⟨bb0,0,none⟩=some (.pointer (some ⟨tb,0,none⟩))/\W.cell? ⟨bb0,10,none⟩=some (.int .i64 q.dJ)/\(∀j v,vs[j]?=some v->W.cell? ⟨bb0,11+j,none⟩=some v)/\ ∀j,j<11+vs.length->W.frozen? ⟨bb0,j,none⟩=false:=by
 obtain⟨h1,h2,h3,h4, -⟩:=h;subst h2 h3 h4;exact⟨h1.cells.1,h1.cells.2.2.2.1,h1.cells.2.2.2.2,λj hj=>h1.frozen j hj⟩
theorem PG.aP {E3:BE} {wz W:af} {bb0 tb i:Nat} {q:aC} {vs:List ak} (h:PG E3 wz bb0 tb q i vs W):Calls prog 25 #[.pointer (some ⟨tb,0,none⟩),.int .i64 0] W λr u'=> ∃kb ko kn kc,r= .returned (.slice (some ⟨kb,ko,none⟩) kn kc)/\1<=kn/\kn<=kc/\kc<=9223372036854775807/\u'.cell? ⟨kb,ko,none⟩=some (.int .i64 i)/\Below W.heap.size W u'/\PG E3 wz bb0 tb q i vs u':=by
 rw[<-h.tb'];exact(ab9 h.Zo h.i4 h.i5 h.i6).mono λ_ _ ⟨kb,ko,kn,kc,a,b,c,d,e,hb⟩=>⟨kb,ko,kn,kc,a,b,c,d,e,hb,h.tb'▸h.world hb⟩
theorem PG.read {E3:BE} {wz W:af} {bb0 tb i:Nat} {q:aC} {vs:List ak} (h:PG E3 wz bb0 tb q i vs W):Calls prog 24 #[.pointer (some ⟨tb,0,none⟩),.int .i64 i] W λr u'=> ∃f0 f1 f2 f3 f4 f5 f6 f7 f8 f9,r= .returned (.tuple #[.agg #[.int .i64 f0,.int .i64 f1,.string f2,.slice f3 f4 f5,.string f6,.slice f7 f8 f9],.int .i64 0])/\gq (· <W.heap.size) u' (iF f0 f1 f2 f3 f4 f5 f6 f7 f8 f9) q.vo/\Below W.heap.size W u'/\PG E3 wz bb0 tb q i vs u':=by
 rw[<-h.tb'];refine(ab8 h.Zo h.i1 h.i2 h.i3).mono λ_ _ ⟨cs,a,b,hb⟩=> ?_
 obtain⟨f0,f1,f2,f3,f4,f5,f6,f7,f8,f9,rfl⟩:=kV b;exact⟨f0,f1,f2,f3,f4,f5,f6,f7,f8,f9,a,b,hb,h.tb'▸h.world hb⟩
theorem sG.page {bb0:Nat} {E2:BE} {wz:af} {q:aC} (h:sG E2 wz 10100 0 q w) (hbb:E2.bb=bb0) {v0 v1 v2 v3 v4 v5:ak} (hpg:E2.pg= [.bool false,v0,v1,v2,v3,v4,v5]) (hk:aG q.S.T 0≠ []) :
 ∃E3 i,OB E3=OB E2/\PG E3 wz bb0 E2.tb q i [.bool true,v0,v1,v2,v3,v4,v5] (w.setCell ⟨bb0,11,none⟩ (.bool true)):=by
 obtain⟨i,i1,i2,i3,i4,i5,i6⟩:=aaH h.bm.li.wf hk;obtain⟨E3,e1,e2,e3,e4,e5⟩:=h.akf hbb 0 (.bool true);rw[hpg]at e2;exact⟨E3,i,e4,e5,e1,e2,e3,i1,i2,i3,i4,i5,i6⟩
theorem PG.after {E3:BE} {wz W u:af} {bb0 tb i:Nat} {q:aC} {y0 y1 y2 y3 y4 y5 y6 u0 u1 u2 u3 u4 u5:ak} (h:PG E3 wz bb0 tb q i [y0,y1,y2,y3,y4,y5,y6] W) (hb:Below (uA W bb0 12 u0 u1 u2 u3 u4 u5).heap.size (uA W bb0 12 u0 u1 u2 u3 u4 u5) u) :
 u.cell? ⟨bb0,10,none⟩=some (.int .i64 q.dJ)/\u.frozen? ⟨bb0,10,none⟩=false/\u.cell? ⟨bb0,12,none⟩=some u0/\u.cell? ⟨bb0,13,none⟩=some u1/\u.cell? ⟨bb0,14,none⟩=some u2/\u.cell? ⟨bb0,15,none⟩=some u3/\u.cell? ⟨bb0,16,none⟩=some u4/\u.cell? ⟨bb0,17,none⟩=some u5:=by
 have hr:=h.Zo.bm.row;unfold buV at hr;rw[h.pg,h.bb]at hr;have hr6:=(((((hr.set 12 u0).set 13 u1).set 14 u2).set 15 u3).set 16 u4).set 17 u5
 have hr7:=hr6.kept (hb.block _ hr6.lt);exact⟨hr7.cell (j:=10) rfl,hr7.frozen (by simp),hr7.cell (j:=12) rfl,hr7.cell (j:=13) rfl,hr7.cell (j:=14) rfl,hr7.cell (j:=15) rfl,hr7.cell (j:=16) rfl,hr7.cell (j:=17) rfl⟩
theorem af9 (bb0:Nat) (e:Int) (u:af) (h:u.cell? ⟨bb0,10,none⟩=some (.int .i64 0)) (hf:u.frozen? ⟨bb0,10,none⟩=false):Calls prog 26 #[.pointer (some ⟨bb0,0,none⟩),.int .i64 e] u λr w'=>r= .returned (.tuple #[])/\w'=u.setCell ⟨bb0,10,none⟩ (.int .i64 e):=by
 go_enter func26,ntmps26
 go_wp2_with fail
 (go_end0)
 exact⟨rfl,rfl⟩
theorem ajp (h:sG E ws c 0 b w) {v0 v1 v2 v3 v4 v5:ak} (hp:E.pg= [.bool false,v0,v1,v2,v3,v4,v5]) (hl:uw b<=4611686018427387904) (hmd:MD b) (hk:b.qj.dJ=0->aG b.qj.S.T 0≠ []) :
 Calls prog 13 #[.pointer (some ⟨E.bb,0,none⟩)] w λr w'=> ∃cs,r= .returned (.tuple #[.agg cs.toArray,.int .i64 b.AQ])/\gq (· <w.heap.size) w' cs b.GN/\az (OB E) w w':=by
 by_cases he:b.dJ=0
 case neg =>
  have e1:b.qj=b:=by unfold aC.qj aC.wF;rw[aj he]
  have e2:b.AQ=b.dJ:=by unfold aC.AQ;rw[e1,au he]
  have e3:b.GN=lu:=by unfold aC.GN;rw[e2,aj he]
  rw[e2,e3];exact(ajo h hp he).mono λ_ _ ⟨hr,hk⟩=>⟨_,hr,xN,hk⟩
 have e1:b.qj=b.GU xM:=by unfold aC.qj aC.wF;rw[au he]
 obtain⟨E2,wz,hbb,aiq,hA,hrow,hoe⟩: ∃E2 wz,E2.bb=E.bb/\E2.pg=E.pg/\sG E2 wz c 0 b (w.alloc (.cells #[.int .i64 0,.int .i64 0,.string ⟨#[]⟩,.slice none 0 0,.string ⟨#[]⟩,.slice none 0 0] 26)) /\
  (∀u,az (OB E2) wz u->u.heap[w.heap.size]?=some (.cells #[.int .i64 0,.int .i64 0,.string ⟨#[]⟩,.slice none 0 0,.string ⟨#[]⟩,.slice none 0 0] 26 (0,0)))/\(∀u,az (OB E2) wz u->az (OE E w) w u) :=
  ⟨E.also w.heap.size,_,rfl,rfl,h.also _,λu hu=>(agB h.bm.lt hu).trans (eU w _),λu hu=>aiV hu⟩
 obtain⟨-, -, -,d10,hpg⟩:=hA.cells;have d11:=hpg 0 (.bool false) (by rw[aiq,hp];rfl);rw[pM,hbb]at d11;rw[he,hbb]at d10;have hD:=akZ (hA.fresh he) (ay _) hl hmd;rw[hbb]at hD;have HD:=hd' hD;have agT:=hd' hrow;have HOe:=hd' hoe
 have HCe:=hd' (λu cc bb' (hu:sG E2 wz cc 0 bb' u)=>(show u.cell? ⟨E.bb,10,none⟩=some (.int .i64 bb'.dJ)/\(∀j v,E.pg[j]?=some v->u.cell? ⟨E.bb,11+j,none⟩=some v)/\(∀j,j<11+E.pg.length->u.frozen? ⟨E.bb,j,none⟩=false)from by
  rw[<-hbb,<-aiq];exact⟨hu.cells.2.2.2.1,hu.cells.2.2.2.2,λj hj=>hu.frozen j hj⟩))
 have hE3:=hd' (aC.AQ.eq_1 b);have hN3:=hd' (aC.GN.eq_1 b);rw[e1]at hE3 hN3 hk;have hne: ¬w.heap.size=E.bb:=by have:=h.bm.lt;omega
 have hne2: ¬E.bb=w.heap.size:=λe=>hne e.symm
 have hlt:E.bb<w.heap.size:=h.bm.lt;generalize b.GU xM=q at *;have HPG:Hid (E.pg= [.bool false,v0,v1,v2,v3,v4,v5]):=hd' hp;clear h hA hpg hp he e1 hl hmd hrow hoe hD;by_cases hq:q.dJ=0
 case neg =>
  have hef:(q.dJ==0)=false:=aV.2 hq;have hnf:(q.dJ !=0)=true:=jJ.2 hq;have HQ1:Hid (b.AQ=q.dJ):=hd' (by rw[hE3.o',au hq]);have HQ2:Hid (b.GN=lu):=hd' (by rw[hN3.o',HQ1.o',aj hq]);rw[HQ1.o',HQ2.o'];have HL:=hd' hlt;clear hq hk hE3 hN3 HQ1 HQ2 hlt;generalize hqe:q.dJ=er at hef hnf;have HQE:=hd' hqe;clear hqe;go_enter func13,ntmps13
  go_wp2_with (go_at_call 23;refine HD.o'.mono ?_;rintro e wd ⟨rfl,hd⟩;obtain⟨x10,xpg,yf⟩:=HCe.o' _ _ _ hd;have x11:=xpg 0 (.bool false) (by rw[HPG.o'];rfl);rw[pM]at x11;rw[HQE.o']at x10;have y11:=yf 11 (by rw[HPG.o'];simp);have hrw:=agT.o' _ hd.keep;have hrw2:=(eG wd ⟨E.bb,11,none⟩ w.heap.size (.bool true) hne).trans hrw;obtain⟨⟨z0,z1,z2,z3,z4,z5⟩,t0,t1,t2,t3,t4,t5⟩:=kZ hrw2;have HR3:=hd' (Pp (.int .i64 0) (.int .i64 0) (.string ⟨#[]⟩) (.slice none 0 0) (.string ⟨#[]⟩) (.slice none 0 0) hrw2);have Qx:=hd' (Bi (O:=w.heap.size) (.int .i64 0) (.int .i64 0) (.string ⟨#[]⟩) (.slice none 0 0) (.string ⟨#[]⟩) (.slice none 0 0) ((HOe.o' _ hd.keep).set (p:=⟨E.bb,11,none⟩) (.inl (.inl (.inr rfl))) (.bool true)) (.inr (ay _)));have HK:=hd' ((HOe.o' _ hd.keep).set (p:=⟨E.bb,11,none⟩) (.inl (.inl (.inr rfl))) (.bool true));clear hd xpg yf hrw hrw2)
  go_region
  all_goals
   go_wp2_with fail
   refine bU (tu rfl _ _ w.heap.size _ _ _ _ (.int .i64 er) (by rfl) (by rfl) HR3.o' yD rfl qQ) rfl ?_;exact⟨_,rfl,xN,Ga Qx.o'⟩
 have hk':=hk hq;have hE4:b.AQ=if 32<mW q.vo then 44 else 0:=by rw[hE3.o',aj (λh=>h hq)]
 have hN4:b.GN=if b.AQ=0 then q.vo else lu:=hN3.o'
 rw[hE4]at hN4;rw[hN4,hE4];clear hk hE3 hN3 hE4 hN4;obtain⟨tb,htb⟩: ∃tb,tb=E2.tb:=⟨_,rfl⟩
 have HPg:Hid (∀wd,sG E2 wz 10100 0 q wd-> ∃E3 i,OB E3=OB E2/\PG E3 wz E.bb tb q i [.bool true,v0,v1,v2,v3,v4,v5] (wd.setCell ⟨E.bb,11,none⟩ (.bool true))):=hd' λwd hd=>by
  rw[htb];exact hd.page hbb (aiq.trans HPG.o') hk'
 have HSm:=hd' (λwd (hd:sG E2 wz 10100 0 q wd)=>Yp hd hk');have HBE:Hid (E2.bb=E.bb):=hd' hbb;clear hk' htb hbb aiq;have HQE:=hd' hq;clear hq;obtain⟨pn,hpn⟩: ∃pn,pn=q.vo:=⟨_,rfl⟩;have HPN:=hd' hpn;rw[<-hpn];obtain⟨d,hdd⟩: ∃d,d=mW pn:=⟨_,rfl⟩;have HDD:=hd' hdd;rw[<-hdd];clear hpn hdd;have hdi:(32:Int)<(d:Int)↔32<d:=by omega
 have HDI:=hd' hdi;clear hdi;by_cases hdp:32<d
 ·have hdi:(32:Int)<(d:Int):=by omega
  rw[au hdp,aj (by decide)];go_enter func13,ntmps13
  go_wp2_with (go_at_call 23;refine HD.o'.mono ?_;rintro e wd ⟨rfl,hd⟩;obtain⟨E3,i,hOB,hPG⟩:=HPg.o' _ hd;obtain⟨x10,xpg,yf⟩:=HCe.o' _ _ _ hd;have x11:=xpg 0 (.bool false) (by rw[HPG.o'];rfl);rw[pM]at x11;rw[HQE.o']at x10;have y11:=yf 11 (by rw[HPG.o'];simp);have HP:=hd' hPG;have HW:=hd' hd;have HOB:=hd' hOB;obtain⟨c0, -⟩:=hPG.cell0;have HD0:=hd' (hPG.world (aQ _ _).drew);have HRW:=hd' ((eG wd ⟨E.bb,11,none⟩ w.heap.size (.bool true) hne).trans (agT.o' _ hd.keep));have HKW:=hd' ((HOe.o' _ hd.keep).set (p:=⟨E.bb,11,none⟩) (.inl (.inl (.inr rfl))) (.bool true));have ZK:=hd' (HSm.o' _ hd);rw[<-HPN.o']at ZK;clear hd xpg yf hPG hOB)
  go_region_law (first
   |(go_simp;go_at_call 25;refine HD0.o'.aP.mono ?_
     rintro e wk ⟨kb,ko,kn,kc,rfl,kn1,kn2,kn3,k0,hbk,hpk⟩;have HPk:=hd' hpk;have HBk:=hd' (aK (aQ _ _).drew hbk);obtain⟨ck, -⟩:=hpk.cell0;have kn0:(0:Int)<(kn:Int):=by omega
     have kn4:0<kn:=kn1
     clear hpk hbk)
   |(go_simp;go_at_call 24;refine HPk.o'.read.mono ?_
     rintro e w3 ⟨f0,f1,f2,f3,f4,f5,f6,f7,f8,f9,rfl,hnc,hb3,hp3⟩;have alD:=hd' (aK HBk.o' hb3);rw[<-HPN.o']at hnc;have HN3:=hd' (hnc.other (G:=λk=>k<=w.heap.size) λk _ hx=>by have h1:=fZ HRW.o';have h2:=HBk.o'.size;have h3:k<=w.heap.size:=hx;omega);have HR3:=hd' ((alD.o'.block _ (fZ HRW.o')).trans HRW.o');have HP3:=hd' hp3;have HB3:=hd' (aK HBk.o' hb3);have HZ3:=hd' hb3.size;obtain⟨c3,g10,Y3,gf⟩:=hp3.cell0;have g12:=Y3 1 _ rfl;have g13:=Y3 2 _ rfl;have g14:=Y3 3 _ rfl;have g15:=Y3 4 _ rfl;have g16:=Y3 5 _ rfl;have g17:=Y3 6 _ rfl;have p12:=gf 12 (by simp);have p13:=gf 13 (by simp);have p14:=gf 14 (by simp);have p15:=gf 15 (by simp);have p16:=gf 16 (by simp);have p17:=gf 17 (by simp)
     clear hnc hb3 hp3 Y3 gf))
  all_goals
   rw[HQE.o']at g10;have p10:=HP3.o'.cell0.2.2.2 10 (by simp);have Bw:=hd' (Am (F:=λk=>k=E.bb) (g:=E.bb) (o:=12) (.int .i64 f0) (.int .i64 f1) (.string f2) (.slice f3 f4 f5) (.string f6) (.slice f7 f8 f9) (az.refl _ w3) (.inl rfl));have HKo:=hd' ((HKW.o'.trans (az.bC HB3.o')).trans (Bw.o'.mono λk _ hx=> .inl (.inr hx)));have HR4:=hd' ((Bw.o'.block _ (fZ HR3.o') hne).trans HR3.o');have HN4:=hd' (HN3.o'.kept (Bw.o'.mono λk _ hx=>by have h1:k=E.bb:=hx;show k<=w.heap.size;omega));have HDp:=hd' (xS 1000000 pn _ _ ZK.o'.1 (by decide) (HN4.o'.other λ_ _ hx=>hx.elim));unfold iF at HDp;rw[<-HDD.o']at HDp;clear HD0 HP HPk HPg HSm HCe HBE agT HOe HOB d10 d11 g10;have HAf:=hd' (λu (hb:Below (uA w3 E.bb 12 (.int .i64 f0) (.int .i64 f1) (.string f2) (.slice f3 f4 f5) (.string f6) (.slice f7 f8 f9)).heap.size (uA w3 E.bb 12 (.int .i64 f0) (.int .i64 f1) (.string f2) (.slice f3 f4 f5) (.string f6) (.slice f7 f8 f9)) u)=>HQE.o'▸HP3.o'.after hb);have alu:=hd' (λu (hb:Below (uA w3 E.bb 12 (.int .i64 f0) (.int .i64 f1) (.string f2) (.slice f3 f4 f5) (.string f6) (.slice f7 f8 f9)).heap.size (uA w3 E.bb 12 (.int .i64 f0) (.int .i64 f1) (.string f2) (.slice f3 f4 f5) (.string f6) (.slice f7 f8 f9)) u)=>HKo.o'.trans (az.bC hb));have HR5:=hd' (λu (hb:Below (uA w3 E.bb 12 (.int .i64 f0) (.int .i64 f1) (.string f2) (.slice f3 f4 f5) (.string f6) (.slice f7 f8 f9)).heap.size (uA w3 E.bb 12 (.int .i64 f0) (.int .i64 f1) (.string f2) (.slice f3 f4 f5) (.string f6) (.slice f7 f8 f9)) u)=>(hb.block _ (fZ HR4.o')).trans HR4.o');have HN5:=hd' (λu (hb:Below (uA w3 E.bb 12 (.int .i64 f0) (.int .i64 f1) (.string f2) (.slice f3 f4 f5) (.string f6) (.slice f7 f8 f9)).heap.size (uA w3 E.bb 12 (.int .i64 f0) (.int .i64 f1) (.string f2) (.slice f3 f4 f5) (.string f6) (.slice f7 f8 f9)) u)=>HN4.o'.kept (az.bC hb));clear HP3 HKo HR4 HN4 Bw HR3 HN3
   go_wp2_with (first
    |(go_at_call 8;refine HDp.o'.mono ?_;rintro e w5 ⟨rfl,hb5⟩;obtain⟨x10,y10, -⟩:=HAf.o' _ hb5;have HF:=hd' (af9 E.bb 44 w5 x10 y10);have hrw2:=(eG w5 ⟨E.bb,10,none⟩ w.heap.size (.int .i64 44) hne).trans (HR5.o' _ hb5);obtain⟨⟨z0,z1,z2,z3,z4,z5⟩,t0,t1,t2,t3,t4,t5⟩:=kZ hrw2;have HR6:=hd' (Pp (.int .i64 0) (.int .i64 0) (.string ⟨#[]⟩) (.slice none 0 0) (.string ⟨#[]⟩) (.slice none 0 0) hrw2);have HK6:=hd' (Bi (O:=w.heap.size) (.int .i64 0) (.int .i64 0) (.string ⟨#[]⟩) (.slice none 0 0) (.string ⟨#[]⟩) (.slice none 0 0) ((alu.o' _ hb5).set (p:=⟨E.bb,10,none⟩) (.inl (.inl (.inr rfl))) (.int .i64 44)) (.inr (ay _)));clear hb5 hrw2)
    |(go_at_call 26;refine HF.o'.mono ?_;rintro e w6 ⟨rfl,rfl⟩))
   go_region
   all_goals
    go_wp2_with fail
    refine bU (tu rfl _ _ w.heap.size _ _ _ _ (.int .i64 44) (by rfl) (by rfl) HR6.o' yD rfl qQ) rfl ?_;exact⟨_,rfl,xN,Ga HK6.o'⟩
 ·have hdi: ¬(32:Int)<(d:Int):=by omega
  rw[aj hdp,au rfl];go_enter func13,ntmps13
  go_wp2_with (go_at_call 23;refine HD.o'.mono ?_;rintro e wd ⟨rfl,hd⟩;obtain⟨E3,i,hOB,hPG⟩:=HPg.o' _ hd;obtain⟨x10,xpg,yf⟩:=HCe.o' _ _ _ hd;have x11:=xpg 0 (.bool false) (by rw[HPG.o'];rfl);rw[pM]at x11;rw[HQE.o']at x10;have y11:=yf 11 (by rw[HPG.o'];simp);have HP:=hd' hPG;have HW:=hd' hd;have HOB:=hd' hOB;obtain⟨c0, -⟩:=hPG.cell0;have HD0:=hd' (hPG.world (aQ _ _).drew);have HRW:=hd' ((eG wd ⟨E.bb,11,none⟩ w.heap.size (.bool true) hne).trans (agT.o' _ hd.keep));have HKW:=hd' ((HOe.o' _ hd.keep).set (p:=⟨E.bb,11,none⟩) (.inl (.inl (.inr rfl))) (.bool true));have ZK:=hd' (HSm.o' _ hd);rw[<-HPN.o']at ZK;clear hd xpg yf hPG hOB)
  go_region_law (first
   |(go_simp;go_at_call 25;refine HD0.o'.aP.mono ?_
     rintro e wk ⟨kb,ko,kn,kc,rfl,kn1,kn2,kn3,k0,hbk,hpk⟩;have HPk:=hd' hpk;have HBk:=hd' (aK (aQ _ _).drew hbk);obtain⟨ck, -⟩:=hpk.cell0;have kn0:(0:Int)<(kn:Int):=by omega
     have kn4:0<kn:=kn1
     clear hpk hbk)
   |(go_simp;go_at_call 24;refine HPk.o'.read.mono ?_
     rintro e w3 ⟨f0,f1,f2,f3,f4,f5,f6,f7,f8,f9,rfl,hnc,hb3,hp3⟩;have alD:=hd' (aK HBk.o' hb3);rw[<-HPN.o']at hnc;have HN3:=hd' (hnc.other (G:=λk=>k<=w.heap.size) λk _ hx=>by have h1:=fZ HRW.o';have h2:=HBk.o'.size;have h3:k<=w.heap.size:=hx;omega);have HR3:=hd' ((alD.o'.block _ (fZ HRW.o')).trans HRW.o');have HP3:=hd' hp3;have HB3:=hd' (aK HBk.o' hb3);have HZ3:=hd' hb3.size;obtain⟨c3,g10,Y3,gf⟩:=hp3.cell0;have g12:=Y3 1 _ rfl;have g13:=Y3 2 _ rfl;have g14:=Y3 3 _ rfl;have g15:=Y3 4 _ rfl;have g16:=Y3 5 _ rfl;have g17:=Y3 6 _ rfl;have p12:=gf 12 (by simp);have p13:=gf 13 (by simp);have p14:=gf 14 (by simp);have p15:=gf 15 (by simp);have p16:=gf 16 (by simp);have p17:=gf 17 (by simp)
     clear hnc hb3 hp3 Y3 gf))
  all_goals
   rw[HQE.o']at g10;have p10:=HP3.o'.cell0.2.2.2 10 (by simp);have Bw:=hd' (Am (F:=λk=>k=E.bb) (g:=E.bb) (o:=12) (.int .i64 f0) (.int .i64 f1) (.string f2) (.slice f3 f4 f5) (.string f6) (.slice f7 f8 f9) (az.refl _ w3) (.inl rfl));have HKo:=hd' ((HKW.o'.trans (az.bC HB3.o')).trans (Bw.o'.mono λk _ hx=> .inl (.inr hx)));have HR4:=hd' ((Bw.o'.block _ (fZ HR3.o') hne).trans HR3.o');have HN4:=hd' (HN3.o'.kept (Bw.o'.mono λk _ hx=>by have h1:k=E.bb:=hx;show k<=w.heap.size;omega));have HDp:=hd' (xS 1000000 pn _ _ ZK.o'.1 (by decide) (HN4.o'.other λ_ _ hx=>hx.elim));unfold iF at HDp;rw[<-HDD.o']at HDp;clear HD0 HP HPk HPg HSm HCe HBE agT HOe HOB d10 d11 g10;have HAf:=hd' (λu (hb:Below (uA w3 E.bb 12 (.int .i64 f0) (.int .i64 f1) (.string f2) (.slice f3 f4 f5) (.string f6) (.slice f7 f8 f9)).heap.size (uA w3 E.bb 12 (.int .i64 f0) (.int .i64 f1) (.string f2) (.slice f3 f4 f5) (.string f6) (.slice f7 f8 f9)) u)=>HQE.o'▸HP3.o'.after hb);have alu:=hd' (λu (hb:Below (uA w3 E.bb 12 (.int .i64 f0) (.int .i64 f1) (.string f2) (.slice f3 f4 f5) (.string f6) (.slice f7 f8 f9)).heap.size (uA w3 E.bb 12 (.int .i64 f0) (.int .i64 f1) (.string f2) (.slice f3 f4 f5) (.string f6) (.slice f7 f8 f9)) u)=>HKo.o'.trans (az.bC hb));have HR5:=hd' (λu (hb:Below (uA w3 E.bb 12 (.int .i64 f0) (.int .i64 f1) (.string f2) (.slice f3 f4 f5) (.string f6) (.slice f7 f8 f9)).heap.size (uA w3 E.bb 12 (.int .i64 f0) (.int .i64 f1) (.string f2) (.slice f3 f4 f5) (.string f6) (.slice f7 f8 f9)) u)=>(hb.block _ (fZ HR4.o')).trans HR4.o');have HN5:=hd' (λu (hb:Below (uA w3 E.bb 12 (.int .i64 f0) (.int .i64 f1) (.string f2) (.slice f3 f4 f5) (.string f6) (.slice f7 f8 f9)).heap.size (uA w3 E.bb 12 (.int .i64 f0) (.int .i64 f1) (.string f2) (.slice f3 f4 f5) (.string f6) (.slice f7 f8 f9)) u)=>HN4.o'.kept (az.bC hb));have HCl:=hd' (λu (hn:gq (λk=>k<=w.heap.size) u (iF f0 f1 f2 f3 f4 f5 f6 f7 f8 f9) pn)=>Qh 1000000 pn u _ ZK.o'.1 (by decide) ZK.o'.2 (hn.other λ_ _ hx=>hx.elim));unfold iF at HCl;clear HP3 HKo HR4 HN4 Bw HR3 HN3
   go_wp2_with (first
    |(go_at_call 8;refine HDp.o'.mono ?_;rintro e w5 ⟨rfl,hb5⟩;obtain⟨x10,y10,x12,x13,x14,x15,x16,x17⟩:=HAf.o' _ hb5;have Xb:=hd' hb5;have HN6:=hd' (HN5.o' _ hb5);clear hb5)
    |(go_at_call 27;refine(HCl.o' _ HN6.o').mono ?_;rintro e w6 ⟨ds,rfl,hnd,hb6⟩;obtain⟨g0,g1,g2,g3,g4,g5,g6,g7,g8,g9,rfl⟩:=kV hnd;have HN7:=hd' hnd;have hrw2:=(hb6.block _ (fZ (HR5.o' _ Xb.o'))).trans (HR5.o' _ Xb.o');obtain⟨⟨z0,z1,z2,z3,z4,z5⟩,t0,t1,t2,t3,t4,t5⟩:=kZ hrw2;have HR6:=hd' (λx0 x1 x2 x3 x4 x5=>qp x0 x1 x2 x3 x4 x5 hrw2);have HK6:=hd' (λx0 x1 x2 x3 x4 x5=>kU (O:=w.heap.size) x0 x1 x2 x3 x4 x5 ((alu.o' _ Xb.o').trans (az.bC hb6)) (.inr (ay _)));have HZ6:=hd' (fZ (HR5.o' _ Xb.o'));unfold iF;clear hb6 hrw2 hnd))
   refine bU (tu rfl _ _ w.heap.size _ _ _ _ (.int .i64 0) (by rfl) (by rfl) (HR6.o' _ _ _ _ _ _) yD rfl qQ) rfl ?_;refine⟨_,rfl,?_,Ga (HK6.o' _ _ _ _ _ _)⟩;exact(HN7.o'.kept (kU (F:=λk=>k<w5.heap.size) (O:=w.heap.size) _ _ _ _ _ _ (az.refl _ w6) (.inl HZ6.o'))).other λk _ hx=>by have h1:=HZ6.o';have h2:k<w.heap.size:=hx;show k<w5.heap.size;omega
end
end
section
section
variable {b:aC} {m:aO} {H:List Int} {o c:Bool} {V nm:ae} {x n k q:Int} {t:Bool}
theorem MF {T:aB} (h:aX T x≠0):nI T x=false:=by
 unfold nI aI;rw[aV.2 h,Ew,jd]
theorem JF.jQ (h:JF H o V c b) (hb:b.dJ=0): ∀r:List Int,(∃A,b.S.l.reverse=A++r/\ ∀y∈A,aX b.S.T y≠0)->JF H o V c (aC.jQ b r)
 | [],hl=>by
   obtain⟨A,e,h2⟩:=hl;obtain⟨r,hr⟩:=(h.fa hb).fr.hd;exact absurd (h.fa hb).fr.tr.s1 (h2 1 (by rw[kI]at e;rw[<-e,hr];simp))
 |x::r,hl=>by
  rw[aC.jQ];refine .eX (λ_=> ?_) λhc=>h.jQ hb r ?_
  ·obtain⟨A,e,h2⟩:=hl;exact h.GX λ_=>⟨A,e,yN _ _,λ_ y hy=>MF (h2 y hy)⟩
  ·obtain⟨A,e,h2⟩:=hl;refine⟨A++ [x],by rw[e];simp,λy hy=> ?_⟩;rcases fB.1 hy with hy|hy
   ·exact h2 y hy
   ·rw[dG.1 hy];intro h0;rw[h0]at hc;exact hc rfl
theorem GM.leaves (h:GM H V c b) (hV:m.aH≠1->V=⟨#[]⟩) (h5:b.aD≠5): ∀r:List Int,(∃A,b.S.l.reverse=A++r/\ ∀y∈A,aX b.S.T y≠0)->SG H m.aH (aC.gX m b r)
 | [],_=>⟨⟨V,c,h,hV⟩,rfl⟩
 | [_],_=>⟨⟨V,c,h,hV⟩,rfl⟩
 |x::y::r,hl=>by
  have hm:=h.md.resolve_right λq=>h5 q.1
  rw[aC.gX];obtain⟨A,e,h2⟩:=hl;refine .eX (λ_=>h.fE hV h5) λhx=> .eX (λ_=> ?_) λ_=>h.leaves hV h5 (y::r) ?_
  ·refine JF.sg (t:=false) (b:=b.ui x) ?_ hV hm;by_cases hb:b.dJ=0
   ·have hxA:x∉A:=by
     have h4:b.S.l.reverse.Nodup:=List.pairwise_reverse.2 ((uD (h.jf.fa hb).fr.pt).imp λhh=>Ne.symm hh);rw[e,oK]at h4;exact λhx=>h4.2.2 x hx x (by simp) rfl
    have hd: ∀L:List Int,x∉L->((L++x::y::r).dropWhile λy=>y !=x).drop 1=y::r:=λL=>by
     induction L with
     |nil=>intro _;simp
     |cons z L ih =>
      intro hy;rw[mq,Ep,au (by simp;exact λe=>hy (e▸dR)),ih λhh=>hy (gm _ hh)]
    have e2:b.ui x=b.oP (y::r).reverse:=by
     show b.oP ((b.S.l.reverse.dropWhile λy=>y !=x).drop 1).reverse=_;rw[e,hd A hxA]
    rw[e2];refine h.jf.GX λ_=>⟨A++ [x],by rw[e];simp,yN _ _,λ_ z hz=> ?_⟩
    rcases fB.1 hz with hz|hz
    ·exact MF (h2 z hz)
    ·rw[dG.1 hz];exact MF hx
   ·exact⟨h.jf.hH,h.jf.on,h.jf.wt,λhx=>absurd hx hb,λhx=>absurd hx hb,h.jf.er,h.jf.lm⟩
  ·refine⟨A++ [x],by rw[e];simp,λz hz=> ?_⟩;rcases fB.1 hz with hz|hz
   ·exact h2 z hz
   ·rw[dG.1 hz];exact hx
theorem Sv {p:Int} {a d:ae}:iA p 0 a k d=false:=by
 unfold iA qh;simp
theorem GM.dE (h:GM H V c b) (hV:m.aH≠1->V=⟨#[]⟩) (h5:b.aD≠5) (hb:b.dJ=0) (hs:b.qm≠0):SG H m.aH (b.dE m b.qm):=by
 have hm:=h.md.resolve_right λq=>h5 q.1
 rw[aC.dE.eq_1];refine .eX (λ_=>(h.jf.put _).sg hV (ae' hm (vT _ _))) λ_=> .eX (λ_=> ?_) λ_=> .eX (λ_=>(h.jf.uk m hs).sg hV (ae' hm (Cj _ _ _).1)) λ_=> .eX (λ_=>h.leaves hV h5 _ ⟨[],rfl,λy hy=>by cases hy⟩) λ_=>h.jf.sg hV hm
 have e:=(zG b b.S.l.reverse).1;have:GM H V c (aC.jQ b b.S.l.reverse):=⟨h.jf.jQ hb _ ⟨[],rfl,λy hy=>by cases hy⟩,.inl (ae' hm e)⟩;exact this.fE hV (by rw[e];exact h5)
theorem R5.put (h:JF H o V c b) (h5:R5 b) (s:ae):R5 (b.iq s):=λhe=>by
 obtain⟨-,e2⟩:=aC.ou he;obtain⟨k1,k2,k3⟩:=h5 e2;have hN:=Ug b.S.T (aZ b.S.T b.S.l b.on 0).1 (aZ b.S.T b.S.l b.on 0).2 s;have hS:(b.iq s).S=⟨(iG b.S.T (aZ b.S.T b.S.l b.on 0).1 (aZ b.S.T b.S.l b.on 0).2 s).1,b.S.l,b.S.aF⟩:=aC.vW _ _;have ht:(b.iq s).top=b.top:=by unfold aC.top;rw[hS]
 have hel:=(h.fa e2).fr.el _ (h.Rc e2);unfold aC.qm;rw[ht,hS];exact⟨k1,(hN.sp _ hel).trans k2,(hN.named (eP hel).2 _).trans k3⟩
theorem JF.amw (h:JF H o V c b) (h5:R5 b):JF H o V c b.pop:=h.pop λhb=>⟨(h5 hb).1,λ_=>(h5 hb).2.2⟩
theorem Ja (h5:b.aD=5):b.fE m=b.qf m:=by
 rw[aC.fE.eq_1,h5];rfl
theorem GM.aL (h:GM H V c b) (hV:m.aH≠1->V=⟨#[]⟩) (h5:b.aD=5):SG H m.aH (b.fE m):=by
 obtain⟨-,b1,b2,b3,b4,b5⟩:=h.md.resolve_left λq=>q.2.1 h5
 rw[Ja h5,aC.qf.eq_1];refine .eX (λ_=>⟨⟨V,c,⟨h.jf.put _,.inr ⟨(vT _ _).trans h5,?_,?_,?_,b4.put h.jf _,b5⟩⟩,hV⟩,rfl⟩) λ_=>JF.sg ((h.jf.amw b4).goto b.mV) hV ⟨b1,b2,b3⟩
 ·rw[show(b.iq m.aL).mV=b.mV from tJ _ _];exact b1
 ·rw[show(b.iq m.aL).mV=b.mV from tJ _ _];exact b2
 ·rw[show(b.iq m.aL).mV=b.mV from tJ _ _];exact b3
theorem GM.once (h:GM H V c b) (hV:m.aH≠1->V=⟨#[]⟩) (hb:b.dJ=0):SG H m.aH (b.once m):=by
 rw[aC.once.eq_1];by_cases h5:b.aD=5
 ·obtain⟨-, -, -, -,b4, -⟩:=h.md.resolve_left λq=>q.2.1 h5
  rw[(b4 hb).2.1,Sv,aj (by decide)];exact h.aL hV h5
 ·refine .eX (λq=>h.dE hV h5 hb λh0=> ?_) λ_=>h.fE hV h5
  rw[h0,Sv]at q;cases q
def qI (at':List dD):aB:=⟨[{ve with aP:= [1]},{fQ 0 (⟨#[104,116,109,108]⟩:ae) at' with parent:=0}],1000,MJ⟩
theorem abQ (at':List dD):aU ⟨[ve],1000,MJ⟩ [] false 0 (⟨#[104,116,109,108]⟩:ae) at'=(qI at',[1],1,0):=by kernel_rfl
theorem aei (at':List dD):FR [] (qI at') [1]:=by
 have k0:aG (qI at') 0= [1]:=rfl;have k1:aG (qI at') 1= []:=rfl;have p0:aJ (qI at') 0= -1:=rfl;have p1:aJ (qI at') 1=0:=rfl;have e1:aY (qI at') 1=true:=rfl;have hl:(qI at').ai.length=2:=rfl;have two: ∀ {i:Nat},i<2->i=0\/i=1:=λh=>by omega
 have apc: ∀ {i:Int},0<=i->i<2->i=0\/i=1:=λh h2=>by omega
 have nm1:bq (qI at') 1=(⟨#[104,116,109,108]⟩:ae):=rfl;have sp1:aX (qI at') 1=0:=rfl;refine⟨⟨⟨by rw[hl];decide,p0,λi hi=> ?_,λi hi k hk=> ?_,λi hi h0=> ?_,λi hi=> ?_,⟨λx=>x.toNat,λi hi h1=> ?_⟩,λi hi hne=> ?_⟩,λp q0 q1 A j k B e=> ?_,λj j1 j2 he=> ?_,k0,nm1,e1,sp1,by rw[k1];rfl,.inl ⟨rfl,k1⟩,λz hz=>(by cases hz),λx hx=> ?_⟩,λx hx=> ?_,λA y B e=> ?_,⟨[],rfl⟩,λx hx=>by cases hx⟩
 ·rw[hl]at hi |-;rcases two hi with rfl|rfl
  ·rw[show((0:Nat):Int)=0 from rfl,p0];decide
  ·rw[show((1:Nat):Int)=1 from rfl,p1];decide
 ·rw[hl]at hi;rcases two hi with rfl|rfl
  ·rw[show aG (qI at') ((0:Nat):Int)= [1]from k0]at hk;rw[dG.1 hk,hl];exact⟨by decide,by decide,p1⟩
  ·rw[show aG (qI at') ((1:Nat):Int)= []from k1]at hk;cases hk
 ·rw[hl]at hi;rcases two hi with rfl|rfl
  ·rw[show aJ (qI at') ((0:Nat):Int)= -1 from p0]at h0;exact absurd h0 (by decide)
  ·show(1:Int)∈([1]:List Int);decide
 ·rw[hl]at hi;rcases two hi with rfl|rfl
  ·show([1]:List Int).Nodup;decide
  ·exact Le
 ·rw[hl]at hi;rcases two hi with rfl|rfl
  ·rw[show aJ (qI at') ((0:Nat):Int)= -1 from p0]at h1;exact absurd h1 (by decide)
  ·show(0:Nat)<1;decide
 ·rw[hl]at hi;rcases two hi with rfl|rfl
  ·rfl
  ·exact absurd k1 hne
 ·rw[hl]at q1;have:=aW List.length e;rcases apc q0 q1 with rfl|rfl
  ·rw[k0,fC]at this;simp only[dB,kQ]at this;omega
  ·rw[k1,fC]at this;simp only[dB,kQ]at this;omega
 ·rw[hl]at j2;obtain rfl:j=1:=by omega
  rw[e1]at he;cases he
 ·have:=(eP (kC hx).1);rw[hl]at this;omega
 ·rw[dG.1 hx];exact e1
 ·have hA:A= []/\y=1:=by
   cases A with
   |nil=>exact⟨rfl,(dH e).1.symm⟩
   |cons a A=>have:=aW List.length e;simp at this
  obtain⟨rfl,rfl⟩:=hA;refine⟨⟨λz=>z=1,rfl,λd hd k hk=> ?_,λx hx=>by cases hx⟩,by rw[p1];decide,λ_ x hx=>(by cases hx),λhr=> ?_,λA' x e=> ?_⟩
  ·rw[hd,k1]at hk;cases hk
  ·have h3:=(kC hr).2.2;rw[nm1,show fU [⟨#[116,98,111,100,121]⟩,⟨#[116,102,111,111,116]⟩,⟨#[116,104,101,97,100]⟩,⟨#[116,114]⟩] (⟨#[104,116,109,108]⟩:ae)=false by kernel_rfl]at h3;cases h3
  ·have:=aW List.length e;simp at this
theorem FR.amC {T:aB} {l:List Int} (h:FR H T l) (hl:l= [1]) (nm:ae) (at':List dD) (hn:nm=hnm T.ai.length) :
 ((aU T l false 0 nm at').2.2.2=0/\FR (H++ [(T.ai.length:Int)]) (aU T l false 0 nm at').1 (aU T l false 0 nm at').2.1/\(aU T l false 0 nm at').2.1=l++ [(T.ai.length:Int)]/\(aU T l false 0 nm at').2.2.1=T.ai.length/\BA T (aU T l false 0 nm at').1)\/(aU T l false 0 nm at').2.2.2=43:=by
 by_cases hm:(T.ai.length:Int)-1<T.gy
 ·left;have hmk:qz T (fQ 0 nm at')=(bL T (fQ 0 nm at'),(T.ai.length:Int),0):=by unfold qz;rw[au hm]
  have e:aU T l false 0 nm at'=((fe (bL T (fQ 0 nm at')) (aZ (bL T (fQ 0 nm at')) l false 0).1 (aZ (bL T (fQ 0 nm at')) l false 0).2 T.ai.length).1,l++ [(T.ai.length:Int)],(T.ai.length:Int),0):=by
   unfold aU;simp only[hmk,dY]
  rw[e];have hp1:1<=T.ai.length:=by have:=h.tr.two;omega
  obtain⟨q1,q2⟩:=Dh (T:=T) (d:=fQ 0 nm at') hp1 rfl;have q2':bq (bL T (fQ 0 nm at')) T.ai.length=hnm T.ai.length:=q2.trans hn
  have hnn: ∀N,aI (bL T (fQ 0 nm at')) T.ai.length N=fU N (hnm T.ai.length):=λN=>by
   unfold aI;rw[q1,q2',(kG T (fQ 0 nm at') hp1).trans rfl];rfl
  have two: ∀N:List ae,fU N (⟨#[104,101,97,100]⟩:ae)=fU N (⟨#[98,111,100,121]⟩:ae)->fU N (hnm T.ai.length)=fU N (⟨#[98,111,100,121]⟩:ae):=λN hN=>by
   unfold hnm;split
   ·exact hN
   ·rfl
  refine⟨rfl,h.new (d:=fQ 0 nm at') false rfl rfl rfl (λhh=> ?_) (λ_=>rfl) (.inr ⟨?_,rfl,hl,rfl,q2'⟩),rfl,rfl,(kJ _ _).trans (F5 _ _ _ _)⟩
  ·unfold xw at hh;rw[hnn,two _ (by kernel_rfl)]at hh;rw[show fU [⟨#[116,98,111,100,121]⟩,⟨#[116,102,111,111,116]⟩,⟨#[116,104,101,97,100]⟩,⟨#[116,114]⟩] (⟨#[98,111,100,121]⟩:ae)=false by kernel_rfl]at hh;cases hh
  ·unfold uh;rw[hnn,two _ (by kernel_rfl)]
   kernel_rfl
 ·right;rw[mK hm]
theorem Tr.Sg {T:aB} (h:Tr [2] T):aI T 2 [⟨#[104,101,97,100]⟩]=true/\2<T.ai.length:=by
 have hz:(2:Int)∈([2]:List Int):=by simp
 have e:=h.hel hz;have hb:uh T 2=true:=by rw[<-h.hb]at hz;exact(qE.1 hz).2
 obtain⟨-,s2, -⟩:=kC hb;have n2:=h.hm 2 hz;refine⟨?_,by have:=(eP e).2;omega⟩;unfold aI;rw[e,s2,n2]
 kernel_rfl
theorem FR.amv {T:aB} (h:FR [2] T [1]):FR [2] T [1,2]:=by
 obtain⟨hn,h2⟩:=h.tr.Sg;have hw:=h.tr.wf
 have h2k:(2:Int)∈aG T 1:=by
  have hz:(2:Int)∈([2]:List Int):=by simp
  rw[<-h.tr.hb]at hz;exact(qE.1 hz).1
 have hp2:=xC hw (by decide) h2k;have p1:aJ T 1=0:=xC hw (by decide) (show(1:Int)∈aG T 0 by rw[h.tr.k0];simp);refine⟨h.tr,λx hx=> ?_,λA y B e=> ?_,⟨[2],rfl⟩,λx hx=>by cases hx⟩
 ·rcases dS.1 hx with rfl|hx
  ·exact h.tr.e1
  ·rw[dG.1 hx];exact(kC hn).1
 ·cases A with
  |nil=>exact h.pt [] y [] (by rw[(dH e).1];rfl)
  |cons a A =>
   obtain⟨rfl,e2⟩:=dH e;cases A with
   |cons a A=>have:=aW List.length e2;simp at this
   |nil =>
    obtain rfl:=(dH e2).1;refine⟨⟨λz=>2<=z,vQ _,λd hd k hk=> ?_,λx hx=> ?_⟩,by rw[hp2];decide,λht=> ?_,λhr=> ?_,λA' x e b1 _=> ?_⟩
    ·have hk1:=(dW hw hk (by have:(2:Int)<=d:=hd;omega)).1;have hkp:=xC hw (by have:(2:Int)<=d:=hd;omega) hk;show(2:Int)<=k;rcases mZ k 2 with q|q
     ·obtain rfl:k=1:=by omega
      rw[p1]at hkp;have:(2:Int)<=d:=hd;omega
     ·exact q
    ·rw[dG.1 hx];decide
    ·exact absurd ((Di hn (by kernel_rfl)).symm.trans ht) (by decide)
    ·exact absurd ((Di hn (by kernel_rfl)).symm.trans hr) (by decide)
    ·have hx1:x=1:=by
      cases A' with
      |nil=>exact(dH e).1.symm
      |cons a A'=>have:=aW List.length e;simp at this
     rw[hx1,Av h.tr]at b1;cases b1
theorem afR {T:aB} (h:aI T 2 [⟨#[104,101,97,100]⟩]=true):lD T 2=false:=by
 obtain⟨h1,h2,h3⟩:=kC h;unfold lD sZ iY;rw[h2,au rfl,au rfl,GA (N:= [⟨#[104,101,97,100]⟩]) (by kernel_rfl) h3,jd]
theorem JF.rm2 (h:JF [2] o V c b) {B:List Int} (hl:b.dJ=0-> ∃x,b.S.l= [1]++2::x) (hc:c=false):JF [2] o V c (b.ll 2)/\ ∀B,b.dJ=0->b.S.l= [1]++2::B->(b.ll 2).S.l=1::B:=by
 have key: ∀B,b.dJ=0->b.S.l= [1]++2::B->vg b.S.l 2=1::B:=λB hb e=>Md e (uD (h.fa hb).fr.pt)
 refine⟨⟨h.hH,h.on,h.wt,λhb=>⟨?_,(h.fa hb).en⟩,λ_ hh=>(by rw[hc]at hh;cases hh),h.er,h.lm⟩,key⟩;obtain⟨B,e⟩:=hl hb;have hf:=(h.fa hb).fr;have hh:=hf.tr.Sg.1;show FR [2] b.S.T (vg b.S.l 2);rw[key B hb e];rw[e]at hf;exact hf.rm (by simp) (Di hh (by kernel_rfl)) (afR hh)
end
end
section
def hdL (q:Int):List Int:=if q=2 then [1,2]else [1]
inductive IN (k:Int) (b:aC):Prop where
 |m0 (h:b.aD=0/\b.S=Aw.S/\b.on=false/\b.iJ=⟨#[]⟩/\b.dJ=0)
 |m1 (h:b.aD=1/\b.on=false/\b.iJ=⟨#[]⟩/\(b.dJ=0\/b.dJ=43)/\(b.dJ=0->FR [] b.S.T [1]/\b.S.l= [1]/\b.S.aF= []/\b.S.T.ai.length=2)/\Lm 1000 b.S.T)
 |m2 (q:Int) (hq:q=2\/q=3) (hm:b.aD=q) (h:JF [2] false ⟨#[]⟩ false b) (h2:b.dJ=0->b.head=2/\b.S.l=hdL q)
 |m5 (q:Int) (hq:q=2\/q=3) (hm:b.aD=5) (hb:b.mV=q) (h:JF [2] false ⟨#[]⟩ false b) (h5:R5 b) (h2:b.dJ=0->b.head=2/\ ∃x,b.S.l=hdL q++ [x])
 |m4 (z:Int) (h:GPk [2,z] k b)
structure SN (k:Int) (r:aC×aO×Bool):Prop where
 st:IN k r.1
 kd:r.2.1.aH=k
section
variable {b:aC} {m:aO} {H:List Int} {o c:Bool} {V nm:ae} {x n k q z:Int} {t:Bool}
theorem SN.eX {p:Prop} [Decidable p] {r s:aC×aO×Bool} (h1:p->SN k r) (h2: ¬p->SN k s):SN k (if p then r else s):=by
 by_cases h:p
 ·rw[au h];exact h1 h
 ·rw[aj h];exact h2 h
theorem SG.si {r:aC×aO×Bool} (h:SG [2,z] k r):SN k r:=⟨.m4 z h.pg,h.kd⟩
theorem Si (b:aC) (e:Int):(b.keep e).head=b.head:=(b.tL e).2.2.2.1
theorem aaI (b:aC) (e:Int):(b.keep e).on=b.on/\(b.keep e).iJ=b.iJ:=⟨(b.tL e).1,(b.tL e).2.2.2.2.1⟩
theorem aaJ (b:aC) {e:Int} (hb:b.dJ=0\/b.dJ=43) (he:b.dJ=0->e=0\/e=43):(b.keep e).dJ=0\/(b.keep e).dJ=43:=by
 unfold aC.keep aC.fail;by_cases h0:e=0
 ·rw[au h0];exact hb
 ·rw[aj h0];by_cases h1:b.dJ=0
  ·rw[au h1];exact he h1
  ·rw[aj h1];exact hb
theorem aey (b:aC) (s:ae):(b.iq s).S.l=b.S.l/\(b.iq s).head=b.head:=by
 refine⟨?_,Si _ _⟩;unfold aC.iq;simp only;rw[aC.vW]
theorem aa3 (b:aC) (m:aO):(b.eQ m).S.l=b.S.l/\(b.eQ m).head=b.head/\((b.eQ m).dJ=0->b.dJ=0):=by
 unfold aC.eQ;split
 ·split
  ·exact⟨rfl,rfl,id⟩
  ·exact⟨(aey b _).1,(aey b _).2,λh=>(aC.ou h).2⟩
 ·exact⟨rfl,rfl,id⟩
theorem aaM (h:b.aD=0/\b.S=Aw.S/\b.on=false/\b.iJ=⟨#[]⟩/\b.dJ=0) (at':List dD):IN k ((b.goto 1).ins (⟨#[104,116,109,108]⟩:ae) at'):=by
 obtain⟨h0,hS,ho,hw,he⟩:=h
 have e:aU (b.goto 1).S.T (b.goto 1).S.l (b.goto 1).on 0 (⟨#[104,116,109,108]⟩:ae) at'=(qI at',[1],1,0):=by
  show aU b.S.T b.S.l b.on 0 (⟨#[104,116,109,108]⟩:ae) at'=_;rw[hS,ho];exact abQ at'
 have e2:(b.goto 1).ins (⟨#[104,116,109,108]⟩:ae) at'= {b.goto 1 with S:=⟨qI at',[1],b.S.aF⟩}:=by
  unfold aC.ins aC.jv;simp only;rw[e,aC.wR];rfl
 rw[e2];exact .m1 ⟨rfl,ho,hw,.inl he,λ_=>⟨aei at',rfl,(by show b.S.aF= [];rw[hS];rfl),rfl⟩,⟨show(2:Int)<=1001 by decide,rfl⟩⟩
theorem afB (h:b.aD=0/\b.S=Aw.S/\b.on=false/\b.iJ=⟨#[]⟩/\b.dJ=0) (m:aO):SN m.aH (b.oh m):=by
 rw[aC.oh.eq_1];have hk:=uM m;exact .eX (λ_=>⟨.m0 h,hk⟩) λ_=> .eX (λ_=>⟨.m0 h,hk⟩) λ_=> .eX (λ_=>⟨aaM h _,hk⟩) λ_=>⟨aaM h _,hk⟩
theorem P7 (h:b.aD=1/\b.on=false/\b.iJ=⟨#[]⟩/\(b.dJ=0\/b.dJ=43)/\(b.dJ=0->FR [] b.S.T [1]/\b.S.l= [1]/\b.S.aF= []/\b.S.T.ai.length=2)/\Lm 1000 b.S.T) (at':List dD):IN k ((b.goto 2).Cu at'):=by
 obtain⟨h1,ho,hw,he,hf,hlm⟩:=h
 have key:=λhb:b.dJ=0=>by
  obtain⟨k1,k2,k3,k4⟩:=hf hb;exact k1.amC rfl (⟨#[104,101,97,100]⟩:ae) at' (by rw[k4];rfl)
 have e:aU b.S.T b.S.l b.on 0 (⟨#[104,101,97,100]⟩:ae) at'=aU b.S.T b.S.l false 0 (⟨#[104,101,97,100]⟩:ae) at':=by rw[ho]
 have hS:((b.goto 2).Cu at').S=⟨(aU b.S.T b.S.l false 0 (⟨#[104,101,97,100]⟩:ae) at').1,(aU b.S.T b.S.l false 0 (⟨#[104,101,97,100]⟩:ae) at').2.1,b.S.aF⟩:=by
  rw[<-e];exact aC.vW _ _
 have hkeep:=aaI ({b.goto 2 with S:=⟨(aU b.S.T b.S.l b.on 0 (⟨#[104,101,97,100]⟩:ae) at').1,(aU b.S.T b.S.l b.on 0 (⟨#[104,101,97,100]⟩:ae) at').2.1,b.S.aF⟩}:aC) (aU b.S.T b.S.l b.on 0 (⟨#[104,101,97,100]⟩:ae) at').2.2.2
 have her:((b.goto 2).Cu at').dJ=0->(aU b.S.T b.S.l false 0 (⟨#[104,101,97,100]⟩:ae) at').2.2.2=0/\b.dJ=0:=λhh=>by
  have hh':((b.goto 2).ins (⟨#[104,101,97,100]⟩:ae) at').dJ=0:=hh;obtain⟨e1,e2⟩:=aC.ou hh';rw[<-e];exact⟨e1,e2⟩
 refine .m2 2 (.inl rfl) (iB (b.goto 2) (⟨#[104,101,97,100]⟩:ae) at') ⟨by simp,hkeep.1.trans ho,hkeep.2.trans hw,λhb=> ?_,λ_ hh=>(by cases hh),?_,(by rw[hS];exact rR hlm _ _ _ _ _)⟩ λhb=> ?_
 ·obtain⟨e1,e2⟩:=her hb;obtain⟨k1,k2,k3,k4⟩:=hf e2;rcases key e2 with⟨-,q2, -⟩|q2
  ·rw[hS];rw[k2];refine⟨by rw[k4]at q2;exact q2,λx hx=> ?_⟩;have hx':x∈b.S.aF:=hx;rw[k3]at hx';cases hx'
  ·rw[<-k2]at q2;rw[q2]at e1;exact absurd e1 (by decide)
 ·show(((b.goto 2).ins (⟨#[104,101,97,100]⟩:ae) at').dJ=0\/((b.goto 2).ins (⟨#[104,101,97,100]⟩:ae) at').dJ=43);refine aaJ _ he λhe=> ?_
  show(aU b.S.T b.S.l b.on 0 (⟨#[104,101,97,100]⟩:ae) at').2.2.2=0\/(aU b.S.T b.S.l b.on 0 (⟨#[104,101,97,100]⟩:ae) at').2.2.2=43;rw[e,(hf he).2.1];exact(key he).imp (λq=>q.1) id
 ·obtain⟨e1,e2⟩:=her hb;obtain⟨k1,k2,k3,k4⟩:=hf e2;rcases key e2 with⟨-, -,q3,q4, -⟩|q2
  ·refine⟨?_,?_⟩
   ·show(aU b.S.T b.S.l b.on 0 (⟨#[104,101,97,100]⟩:ae) at').2.2.1=2;rw[e,k2,q4,k4];rfl
   ·rw[hS];show(aU b.S.T b.S.l false 0 (⟨#[104,101,97,100]⟩:ae) at').2.1=_;rw[k2,q3,k4];rfl
  ·rw[<-k2]at q2;rw[q2]at e1;exact absurd e1 (by decide)
theorem afC (h:b.aD=1/\b.on=false/\b.iJ=⟨#[]⟩/\(b.dJ=0\/b.dJ=43)/\(b.dJ=0->FR [] b.S.T [1]/\b.S.l= [1]/\b.S.aF= []/\b.S.T.ai.length=2)/\Lm 1000 b.S.T) (m:aO):SN m.aH (b.om m):=by
 rw[aC.om.eq_1];have hk:=uM m;exact .eX (λ_=>⟨.m1 h,hk⟩) λ_=> .eX (λ_=>⟨.m1 h,hk⟩) λ_=> .eX (λ_=>⟨P7 h _,hk⟩) λ_=>⟨P7 h _,hk⟩
theorem JF.afO (h:JF H o V c b) (m:aO):(b.gV m).1.head=b.head/\((b.gV m).1.dJ=0->b.dJ=0)/\(((b.gV m).1.aD=b.aD/\((b.gV m).1.dJ=0->(b.gV m).1.S.l=b.S.l))\/((b.gV m).1.aD=5/\(b.gV m).1.mV=b.aD/\R5 (b.gV m).1/\((b.gV m).1.dJ=0-> ∃x,(b.gV m).1.S.l=b.S.l++ [x]))):=by
 have hr: ∀k:Int,fU Oz m.ah=false->fU oW m.ah=false->(b.pE m k).head=b.head/\((b.pE m k).dJ=0->b.dJ=0)/\(((b.pE m k).aD=b.aD/\((b.pE m k).dJ=0->(b.pE m k).S.l=b.S.l))\/((b.pE m k).aD=5/\(b.pE m k).mV=b.aD/\R5 (b.pE m k)/\((b.pE m k).dJ=0-> ∃x,(b.pE m k).S.l=b.S.l++ [x]))):=λk n1 n2=>by
  refine⟨Si _ _,λhh=>(aC.ou hh).2,.inr ⟨rfl,iB b _ _,?_,λhh=> ?_⟩⟩
  ·obtain⟨h1,h2⟩:=h.R8 (nm:=m.ah) 0 m.aA λ_=>n1
   intro he;obtain⟨x,e1,e2, -,e4,e5,e6⟩:=h2 he
   have ht:(b.pE m k).top=x:=by
    show(b.jv 0 m.ah m.aA).1.S.l.getLast?.getD 0=x;rw[e1];simp
   unfold aC.qm;rw[ht];refine⟨e2,e5,?_⟩;have e7:bq (b.pE m k).S.T x=m.ah:=e6;unfold nI aI;rw[e7,n2,jd,jd]
  ·obtain⟨x,e1, -⟩:=(h.R8 (nm:=m.ah) 0 m.aA λ_=>n1).2 hh;exact⟨x,e1⟩
 unfold aC.gV;split
 ·rename_i hs;refine⟨Si _ _,λhh=>(aC.ou hh).2,.inl ⟨iB b _ _,λhh=> ?_⟩⟩;obtain⟨x,e1, -⟩:=(h.R8 (nm:=m.ah) 0 m.aA λ_=>uz hs (by kernel_rfl)).2 hh;show(b.jv 0 m.ah m.aA).1.S.l.dropLast=_;rw[e1,Lr]
 ·split
  ·rename_i hs;exact hr 1 (uz hs (by kernel_rfl)) (uz hs (by kernel_rfl))
  ·split
   ·rename_i hs;exact hr 2 (uz hs (by kernel_rfl)) (uz hs (by kernel_rfl))
   ·exact⟨rfl,id,.inl ⟨rfl,λ_=>rfl⟩⟩
theorem Pq (h:JF [2] false ⟨#[]⟩ false b) (h2:b.dJ=0->b.head=2/\b.S.l= [1,2]):IN k (b.pop.goto 3):=by
 refine .m2 3 (.inr rfl) rfl ((h.pop λhb=>⟨?_,λhh=>(by cases hh)⟩).goto 3) λhb=>⟨(h2 hb).1,?_⟩
 ·unfold aC.top;rw[(h2 hb).2];decide
 ·show b.S.l.dropLast=_;rw[(h2 hb).2];rfl
theorem aii (h:JF [2] false ⟨#[]⟩ false b) (hm:b.aD=2) (h2:b.dJ=0->b.head=2/\b.S.l= [1,2]) (m:aO):SN m.aH (b.rU m):=by
 rw[aC.rU.eq_1];have h1:=h.blank m;obtain⟨l1,l2,l3⟩:=aa3 b m;have hm1:=(zH b m).trans hm;have h3:(b.eQ m).dJ=0->(b.eQ m).head=2/\(b.eQ m).S.l= [1,2]:=λhb=>⟨l2.trans (h2 (l3 hb)).1,l1.trans (h2 (l3 hb)).2⟩
 have hk:=uM m;generalize b.eQ m=d at h1 hm1 h3 |-;have hd:IN m.aH d:= .m2 2 (.inl rfl) hm1 h1 h3;refine .eX (λ_=>⟨hd,hk⟩) λ_=> .eX (λ_=>⟨?_,hk⟩) λ_=> .eX (λ_=>⟨hd,hk⟩) λ_=> .eX (λ_=>⟨Pq h1 h3,hk⟩) λ_=> .eX (λ_=>⟨hd,hk⟩) λ_=>⟨Pq h1 h3,hk⟩
 have hj:=(h1.gV hm1 (aC.bR m)).jf;obtain⟨k1,k2,k3|⟨k3,k4,k5,k6⟩⟩:=h1.afO (aC.bR m)
 ·exact .m2 2 (.inl rfl) (k3.1.trans hm1) hj λhb=>⟨k1.trans (h3 (k2 hb)).1,(k3.2 hb).trans (h3 (k2 hb)).2⟩
 ·refine .m5 2 (.inl rfl) k3 (k4.trans hm1) hj k5 λhb=>⟨k1.trans (h3 (k2 hb)).1,?_⟩
  obtain⟨x,hx⟩:=k6 hb;exact⟨x,by rw[hx,(h3 (k2 hb)).2];rfl⟩
theorem aiQ (h:JF [2] false ⟨#[]⟩ false b) (h2:b.dJ=0->b.S.l= [1]) (at':List dD):IN k ((b.ins (⟨#[98,111,100,121]⟩:ae) at').goto 4):=by
 have e:aU b.S.T b.S.l b.on 0 (⟨#[98,111,100,121]⟩:ae) at'=aU b.S.T b.S.l false 0 (⟨#[98,111,100,121]⟩:ae) at':=by rw[h.on]
 have key:=λhb:b.dJ=0=>by
  have hf:=(h.fa hb).fr
  exact hf.amC (h2 hb) (⟨#[98,111,100,121]⟩:ae) at' (by
   have:=hf.tr.Sg.2;unfold hnm
   rw[aj (by omega)])
 have hS:(b.ins (⟨#[98,111,100,121]⟩:ae) at').S=⟨(aU b.S.T b.S.l false 0 (⟨#[98,111,100,121]⟩:ae) at').1,(aU b.S.T b.S.l false 0 (⟨#[98,111,100,121]⟩:ae) at').2.1,b.S.aF⟩:=by
  rw[<-e];exact aC.vW _ _
 have hkeep:=aaI ({b with S:=⟨(aU b.S.T b.S.l b.on 0 (⟨#[98,111,100,121]⟩:ae) at').1,(aU b.S.T b.S.l b.on 0 (⟨#[98,111,100,121]⟩:ae) at').2.1,b.S.aF⟩}:aC) (aU b.S.T b.S.l b.on 0 (⟨#[98,111,100,121]⟩:ae) at').2.2.2
 have hj:JF [2,(b.S.T.ai.length:Int)] false ⟨#[]⟩ false (b.ins (⟨#[98,111,100,121]⟩:ae) at'):=by
  refine⟨by simp,hkeep.1.trans h.on,hkeep.2.trans h.wt,λhb=> ?_,λ_ hh=>(by cases hh),?_,(by rw[hS];exact rR h.lm _ _ _ _ _)⟩
  ·obtain⟨e1,e2⟩:=aC.ou hb;rw[e]at e1;rcases key e2 with⟨-,q2, -, -,q5⟩|q2
   ·rw[hS];exact⟨q2,λx hx=>((h.fa e2).en x hx).jS q5⟩
   ·rw[q2]at e1;exact absurd e1 (by decide)
  ·refine aaJ _ h.er λhe=> ?_
   show(aU b.S.T b.S.l b.on 0 (⟨#[98,111,100,121]⟩:ae) at').2.2.2=0\/(aU b.S.T b.S.l b.on 0 (⟨#[98,111,100,121]⟩:ae) at').2.2.2=43;rw[e];exact(key he).imp (λq=>q.1) id
 exact .m4 _ ((hj.goto 4).pg (λ_=>rfl) (show(4:Int)<=4/\(4:Int)≠5/\((4:Int)=11->false=true) by decide))
theorem acH (h:JF [2] false ⟨#[]⟩ false b) (hm:b.aD=3) (h2:b.dJ=0->b.head=2/\b.S.l= [1]) (m:aO):SN m.aH (b.kE m):=by
 rw[aC.kE.eq_1];have h1:=h.blank m;obtain⟨l1,l2,l3⟩:=aa3 b m;have hm1:=(zH b m).trans hm;have h3:(b.eQ m).dJ=0->(b.eQ m).head=2/\(b.eQ m).S.l= [1]:=λhb=>⟨l2.trans (h2 (l3 hb)).1,l1.trans (h2 (l3 hb)).2⟩
 have hk:=uM m;generalize b.eQ m=d at h1 hm1 h3 |-;have hd:IN m.aH d:= .m2 3 (.inr rfl) hm1 h1 h3;have hbd: ∀at',IN m.aH ((d.ins (⟨#[98,111,100,121]⟩:ae) at').goto 4):=λat'=>aiQ h1 (λhb=>(h3 hb).2) at'
 refine .eX (λ_=>⟨hd,hk⟩) λ_=> .eX (λ_=>⟨hd,hk⟩) λ_=> .eX (λ_=>⟨hbd _,hk⟩) λ_=> .eX (λ_=>⟨?_,hk⟩) λ_=> .eX (λ_=>⟨hd,hk⟩) λ_=>⟨hbd _,hk⟩
 have hp:JF [2] false ⟨#[]⟩ false (d.push d.head):=⟨h1.hH,h1.on,h1.wt,λhb=>⟨by
  obtain⟨q1,q2⟩:=h3 hb;have hf:=(h1.fa hb).fr;show FR [2] d.S.T (d.S.l++ [d.head]);rw[q1,q2];rw[q2]at hf
  exact hf.amv,(h1.fa hb).en⟩,λ_ hh=>(by cases hh),h1.er,h1.lm⟩
 have hpl:d.dJ=0->(d.push d.head).S.l= [1,2]:=λhb=>by
  obtain⟨q1,q2⟩:=h3 hb;show d.S.l++ [d.head]=_;rw[q1,q2];rfl
 have hj:=(hp.gV (n:=3) hm1 (aC.bR m)).jf;obtain⟨k1,k2,k3⟩:=hp.afO (aC.bR m);generalize ((d.push d.head).gV (aC.bR m)).1=r at hj k1 k2 k3 |-;have k2':r.dJ=0->d.dJ=0:=k2;have hsm:r.dJ=0->d.head=2:=λhb=>(h3 (k2' hb)).1
 by_cases he:r.dJ=0
 ·rw[hsm he]
  have hx: ∃B,r.S.l= [1]++2::B:=by
   rcases k3 with k3|⟨-, -, -,k6⟩
   ·exact⟨[],by rw[k3.2 he,hpl (k2' he)];rfl⟩
   ·obtain⟨x,hx⟩:=k6 he;exact⟨[x],by rw[hx,hpl (k2' he)];rfl⟩
  obtain⟨j1,j2⟩:=hj.rm2 (B:= []) (λ_=>hx) rfl;rcases k3 with k3|⟨k3,k4,k5,k6⟩
  ·exact .m2 3 (.inr rfl) (k3.1.trans hm1) j1 λhb=>⟨k1.trans (hsm he),j2 [] he (by rw[k3.2 he,hpl (k2' he)];rfl)⟩
  ·obtain⟨x,hx⟩:=k6 he;have hl:(r.ll 2).S.l= [1,x]:=j2 [x] he (by rw[hx,hpl (k2' he)];rfl)
   have ht:(r.ll 2).top=r.top:=by
    unfold aC.top;rw[hl,hx];simp
   refine .m5 3 (.inr rfl) k3 (k4.trans hm1) j1 (λ_=> ?_) λhb=>⟨k1.trans (hsm he),x,hl⟩
   obtain⟨r1,r2,r3⟩:=k5 he;unfold aC.qm at r2 |-;rw[ht];exact⟨r1,r2,r3⟩
 ·have hj2:JF [2] false ⟨#[]⟩ false (r.ll d.head):=⟨hj.hH,hj.on,hj.wt,λhb=>absurd hb he,λhb=>absurd hb he,hj.er,hj.lm⟩;rcases k3 with k3|⟨k3,k4,k5,k6⟩
  ·exact .m2 3 (.inr rfl) (k3.1.trans hm1) hj2 λhb=>absurd hb he
  ·exact .m5 3 (.inr rfl) k3 (k4.trans hm1) hj2 (λhb=>absurd hb he) λhb=>absurd hb he
theorem afA (hq:q=2\/q=3) (hm:b.aD=5) (hb:b.mV=q) (h:JF [2] false ⟨#[]⟩ false b) (h5:R5 b) (h2:b.dJ=0->b.head=2/\ ∃x,b.S.l=hdL q++ [x]) (m:aO):SN m.aH (b.qf m):=by
 rw[aC.qf.eq_1];refine .eX (λ_=>⟨.m5 q hq ((vT _ _).trans hm) ((tJ _ _).trans hb) (h.put _) (h5.put h _) λhe=> ?_,rfl⟩) λ_=>⟨.m2 q hq hb ((h.amw h5).goto b.mV) λhe=> ?_,rfl⟩
 ·obtain⟨e1,e2⟩:=aey b m.aL;rw[e1,e2];exact h2 (aC.ou he).2
 ·obtain⟨k1,x,k2⟩:=h2 he;refine⟨k1,?_⟩;show b.S.l.dropLast=_;rw[k2,Lr]
theorem IN.once (h:IN m.aH b) (hb:b.dJ=0):SN m.aH (b.once m):=by
 have hz:b.qm=0->b.once m=b.fE m:=λe=>by
  rw[aC.once.eq_1,e,Sv,aj (by decide)]
 cases h with
 |m0 h =>
  rw[hz (by unfold aC.qm aC.top;rw[h.2.1];rfl),aC.fE.eq_1,au h.1];exact afB h m
 |m1 h =>
  obtain⟨k1,k2, -⟩:=h.2.2.2.2.1 hb;rw[hz (by unfold aC.qm aC.top;rw[k2];exact k1.tr.s1),aC.fE.eq_1,h.1,aj (by decide),au rfl];exact afC h m
 |m2 q hq hm h h2 =>
  have hf:=(h.fa hb).fr;rcases hq with rfl|rfl
  ·rw[hz (by unfold aC.qm aC.top;rw[(h2 hb).2];exact(kC hf.tr.Sg.1).2.1),aC.fE.eq_1,hm,aj (by decide),aj (by decide),au rfl];exact aii h hm h2 m
  ·rw[hz (by unfold aC.qm aC.top;rw[(h2 hb).2];exact hf.tr.s1),aC.fE.eq_1,hm,aj (by decide),aj (by decide),aj (by decide),au rfl];exact acH h hm h2 m
 |m5 q hq hm hbk h h5 h2 =>
  rw[hz (h5 hb).2.1,Ja hm];exact afA hq hm hbk h h5 h2 m
 |m4 z h =>
  obtain⟨V,c,h,hV⟩:=h;exact(h.once hV hb).si
theorem IN.again: ∀(n:Nat) {b:aC} {m:aO},IN m.aH b->IN m.aH (aC.again n b m)
 |0,_,_,h=>h
 |n+1,b,m,h=>by
  rw[aC.again];by_cases he:b.dJ=0
  ·rw[au he];obtain⟨h1,h2⟩:=h.once he;by_cases hd:(b.once m).2.2=true
   ·rw[au hd];rw[<-h2]at h1 |-;exact IN.again n h1
   ·rw[aj hd];exact h1
  ·rw[aj he];exact h
end
end
section
section
variable {b:aC} {m:aO} {V:ae} {k q z:Int} {c:Bool}
theorem IN.ready (h:IN k b):IN k b.ready:=by
 cases h with
 |m0 h=>exact .m0 h
 |m1 h=>exact .m1 h
 |m2 q hq hm h h2=>exact .m2 q hq hm (h.same rfl rfl rfl rfl) h2
 |m5 q hq hm hb h h5 h2=>exact .m5 q hq hm hb (h.same rfl rfl rfl rfl) h5 h2
 |m4 z h =>
  obtain⟨V,c,⟨h,hm⟩,hV⟩:=h;exact .m4 z ⟨V,c,⟨h.same rfl rfl rfl rfl,hm⟩,hV⟩
theorem IN.up (h:IN k b):IN 1 b:=by
 cases h with
 |m0 h=>exact .m0 h
 |m1 h=>exact .m1 h
 |m2 q hq hm h h2=>exact .m2 q hq hm h h2
 |m5 q hq hm hb h h5 h2=>exact .m5 q hq hm hb h h5 h2
 |m4 z h =>
  obtain⟨V,c,h, -⟩:=h;exact .m4 z ⟨V,c,h,λhk=>absurd rfl hk⟩
theorem JF.flush {H:List Int} (h:JF H false V c b):JF H false ⟨#[]⟩ c b.flush:=by
 have h0:=h.iJ ⟨#[]⟩;unfold aC.flush;exact .eX (λ_=>h0) λ_=> .eX (λ_=>h0.put _) λ_=>(((h0.set true).dx).put b.iJ).set false
theorem IN.flush (h:IN 1 b):IN k b.flush:=by
 cases h with
 |m0 h=>rw[xL h.2.2.2.1];exact .m0 h
 |m1 h=>rw[xL h.2.2.1];exact .m1 h
 |m2 q hq hm h h2=>rw[xL h.wt];exact .m2 q hq hm h h2
 |m5 q hq hm hb h h5 h2=>rw[xL h.wt];exact .m5 q hq hm hb h h5 h2
 |m4 z h =>
  obtain⟨V,c,⟨h,hm⟩, -⟩:=h;rcases hm with hm|hm
  ·exact .m4 z (h.flush.pg (λ_=>rfl) (by rw[(Ci b).1];exact hm))
  ·have hw:b.iJ=⟨#[]⟩:=h.wt.trans hm.2.2.2.2.2;rw[xL hw];exact .m4 z ⟨V,c,⟨h,.inr hm⟩,λ_=>hm.2.2.2.2.2⟩
theorem IN.done (h:IN 1 b) (m:aO):IN 1 (b.wF m):=by
 unfold aC.wF aC.GU;split
 ·split
  ·exact h
  ·split
   ·rename_i h1
    have hk:(b.oV m).aH=1:=by
     unfold aC.oV;split <;>exact h1
    split
    ·exact h.ready
    ·have h2:IN (b.oV m).aH b.ready:=by rw[hk];exact h.ready
     have:=h2.again 9000;rw[hk]at this;exact this
   ·split
    ·exact h.ready.flush
    ·exact(IN.again 9000 (h.ready.flush (k:=m.aH))).up
 ·exact h
def Fin (n:Nat) (b:aC):Prop:=(aC.again n b xM).dJ=0->4<=(aC.again n b xM).aD/\(aC.again n b xM).aD≠5
theorem V4 (b:aC):b.once xM=b.fE xM:=by
 rw[aC.once.eq_1,aj];unfold iA qh;simp[xM]
theorem Cx {n:Nat} {r:aC} (e:b.fE xM=(r,xM,true)) (h:Fin n r):Fin (n+1) b:=by
 unfold Fin;rw[aC.again];by_cases he:b.dJ=0
 ·rw[au he,V4,e];exact h
 ·rw[aj he];exact λhh=>absurd hh he
theorem af8 (n:Nat) (h:4<=b.aD/\b.aD≠5) (e:b.fE xM=(b,xM,false)):Fin n b:=by
 cases n with
 |zero=>exact λ_=>h
 |succ n =>
  unfold Fin;rw[aC.again];by_cases he:b.dJ=0
  ·rw[au he,V4,e];exact λ_=>h
  ·rw[aj he];exact λ_=>h
theorem Jk (b:aC):b.iE xM=(b,xM,false):=by rw[aC.iE.eq_1];rfl
theorem aga (h:4<=b.aD/\b.aD≠5):b.fE xM=(b,xM,false):=by
 rw[aC.fE.eq_1,aj (by omega),aj (by omega),aj (by omega),aj (by omega)];split
 ·rw[aC.eO.eq_1];rfl
 ·split
  ·exact absurd ‹b.aD=5› h.2
  ·split
   ·exact Jk b
   ·split
    ·rw[aC.iW.eq_1,aC.eO.eq_1];rfl
    ·split
     ·rw[aC.iV.eq_1];rfl
     ·split
      ·rw[aC.oM.eq_1,Jk];rfl
      ·split
       ·rw[aC.uj.eq_1,Jk];rfl
       ·split
        ·rw[aC.oN.eq_1,aC.eO.eq_1];rfl
        ·rw[aC.lU.eq_1];rfl
theorem Nt (n:Nat) (h:4<=b.aD/\b.aD≠5):Fin n b:=af8 n h (aga h)
theorem Jh (n:Nat) (h:b.aD=3):Fin (n+1) b:=by
 refine Cx (r:=(b.ins (⟨#[98,111,100,121]⟩:ae) []).goto 4) ?_ (Nt n (show(4:Int)<=4/\(4:Int)≠5 by decide));rw[aC.fE.eq_1,h,aC.kE.eq_1];rfl
theorem Sw (n:Nat) (h:b.aD=2):Fin (n+2) b:=by
 refine Cx (r:=b.pop.goto 3) ?_ (Jh n rfl);rw[aC.fE.eq_1,h,aC.rU.eq_1];rfl
theorem aaX (n:Nat) (h:b.aD=1):Fin (n+3) b:=by
 refine Cx (r:=(b.goto 2).Cu []) ?_ (Sw n (iB (b.goto 2) _ _));rw[aC.fE.eq_1,h,aC.om.eq_1];rfl
theorem af7 (n:Nat) (h:b.aD=0):Fin (n+4) b:=by
 refine Cx (r:=(b.goto 1).ins (⟨#[104,116,109,108]⟩:ae) []) ?_ (aaX n (iB (b.goto 1) _ _));rw[aC.fE.eq_1,h,aC.oh.eq_1];rfl
theorem V3 (h:b.aD=5) {n:Nat} (hb:Fin n (b.pop.goto b.mV)):Fin (n+1) b:=by
 refine Cx ?_ hb;rw[Ja h,aC.qf.eq_1];rfl
theorem IN.fin (h:IN k b) (n:Nat):Fin (n+4) b:=by
 cases h with
 |m0 h=>exact af7 n h.1
 |m1 h=>exact aaX (n+1) h.1
 |m2 q hq hm h h2 =>
  rcases hq with rfl|rfl
  ·exact Sw (n+2) hm
  ·exact Jh (n+3) hm
 |m5 q hq hm hb h h5 h2 =>
  refine V3 hm ?_;rcases hq with rfl|rfl
  ·exact Sw (n+1) hb
  ·exact Jh (n+2) hb
 |m4 z h =>
  obtain⟨V,c,⟨-,hm⟩, -⟩:=h;rcases hm with hm|hm
  ·exact Nt _ ⟨hm.1,hm.2.1⟩
  ·exact V3 hm.1 (Nt _ ⟨hm.2.1,hm.2.2.1⟩)
theorem IN.dJ (h:IN k b):b.dJ=0\/b.dJ=43:=by
 cases h with
 |m0 h=>exact .inl h.2.2.2.2
 |m1 h=>exact h.2.2.2.1
 |m2 q hq hm h h2=>exact h.er
 |m5 q hq hm hb h h5 h2=>exact h.er
 |m4 z h =>
  obtain⟨V,c,⟨h, -⟩, -⟩:=h;exact h.er
theorem IN.lm (h:IN k b):Lm 1000 b.S.T:=by
 cases h with
 |m0 h=>rw[h.2.1];exact aav.lm
 |m1 h=>exact h.2.2.2.2.2
 |m2 q hq hm h h2=>exact h.lm
 |m5 q hq hm hb h h5 h2=>exact h.lm
 |m4 z h =>
  obtain⟨V,c,⟨h, -⟩, -⟩:=h;exact h.lm
theorem IN.gZ (h:IN 1 b):(b.qj.dJ=0-> ∃z,FR [2,z] b.qj.S.T b.qj.S.l)/\(b.qj.dJ=0\/b.qj.dJ=43)/\Lm 1000 b.qj.S.T:=by
 have h1:IN 1 b.qj:=h.done xM;refine⟨λhe=> ?_,h1.dJ,h1.lm⟩
 have hm:4<=b.qj.aD/\b.qj.aD≠5:=by
  by_cases h0:b.dJ=0
  ·have e:b.qj=aC.again 9000 b.ready.flush xM:=by
    unfold aC.qj aC.wF;rw[au h0];rfl
   have:=(h.ready.flush (k:=6)).fin 8996;unfold Fin at this;rw[<-e]at this;exact this he
  ·have e:b.qj=b:=by
    unfold aC.qj aC.wF;rw[aj h0]
   rw[e]at he;exact absurd he h0
 cases h1 with
 |m0 h=>rw[h.1]at hm;exact absurd hm.1 (by decide)
 |m1 h=>rw[h.1]at hm;exact absurd hm.1 (by decide)
 |m2 q hq hmq h h2=>omega
 |m5 q hq hmq hb h h5 h2=>omega
 |m4 z h =>
  obtain⟨V,c,⟨h, -⟩, -⟩:=h;exact⟨z,(h.fa he).fr⟩
theorem aaw:IN 1 Aw:= .m0 ⟨rfl,rfl,rfl,rfl,rfl⟩
end
def vC:NT->Int| .mk k _ _ _ _ _=>k
def Oh:NT->Int| .mk _ s _ _ _ _=>s
def ER:NT->ae| .mk _ _ n _ _ _=>n
def LH:NT->ae| .mk _ _ _ _ t _=>t
def RX:NT->List NT| .mk _ _ _ _ _ l=>l
def isT (x:NT):Bool:=vC x==2
mutual
/-- are there two texts side by side, or an empty one? p: a aL stood ahead -/
def txB:NT->Bool
 | .mk _ _ _ _ _ aP=>Ub false aP
def Ub (p:Bool):List NT->Bool
 | []=>false
 |x::r=>(isT x&&((LH x).toList.isEmpty||p|| !(RX x).isEmpty))||txB x||Ub (isT x) r
end
def TE:List NT->Nat->Nat->Option (Nat×Nat)
 | [],h,b=>some (h,b)
 |x::r,h,b =>
  if vC x≠1 then TE r h b
  else if h=0/\ER x≠(⟨#[104,101,97,100]⟩:ae)then none
  else TE r (if ER x=(⟨#[104,101,97,100]⟩:ae)/\Oh x=0 then h+1 else h) (if ER x=(⟨#[98,111,100,121]⟩:ae)/\Oh x=0 then b+1 else b)
section
variable {T:aB} {H l:List Int} {z:Int}
theorem wH (d:Nat) {i:Int} (he:aY T i=true):jg (d+1) T i= .mk 1 (aX T i) (bq T i) (bW T i) ⟨#[]⟩ ((aG T i).map (jg d T)):=by
 obtain⟨h1,h2⟩:=eP he;obtain⟨I,rfl⟩:=bQ (show 0<=i by omega);have hl:I<T.ai.length:=by omega
 obtain⟨e1,e2,e3⟩:=ZY hl he;rw[e1,e2,e3,lS T I hl,EH d T I hl ((xO T I (by omega) hl).symm.trans he)]
theorem Rv (d:Nat) {i:Int} (h1:1<=i) (h2:i<T.ai.length) (he:aY T i=false): ∃t:ae,jg (d+1) T i= .mk 2 0 ⟨#[]⟩ [] t []/\t.toList=DJ T i:=by
 obtain⟨I,rfl⟩:=bQ (show 0<=i by omega);have hl:I<T.ai.length:=by omega
 refine⟨_,EG d T I hl ((xO T I (by omega) hl).symm.trans he),?_⟩;unfold DJ;rw[kg,mi hl];rfl
theorem aaF (h:Tr H T) (d:Nat) (ih: ∀i:Int,1<=i->i<T.ai.length->Deep d T i->txB (jg d T i)=false): ∀(L:List Int) (p:Bool),(∀k∈L,1<=k/\k<T.ai.length/\Deep d T k)->(∀A j k B,L=A++j::k::B->aY T j=true\/aY T k=true)->(p=true-> ∀k R,L=k::R->aY T k=true)->Ub p (L.map (jg d T))=false
 | [],_,_,_,_=>rfl
 |x::r,p,hr,ht,hp=>by
  obtain⟨x1,x2,x3⟩:=hr x dR;rw[dX,Ub,ih x x1 x2 x3,Ad]
  have hn:Ub (isT (jg d T x)) (r.map (jg d T))=false:=by
   refine aaF h d ih r _ (λk hk=>hr k (gm _ hk)) (λA j k B e=>ht (x::A) j k B (by rw[e];rfl)) λhx k R e=> ?_
   refine(ht [] x k R (by rw[e];rfl)).resolve_left λhxe=> ?_
   cases d with
   |zero=>exact x3.elim
   |succ d=>rw[wH d hxe]at hx;cases hx
  rw[hn,Ad];cases d with
  |zero=>exact x3.elim
  |succ d =>
   cases he:aY T x with
   |true=>rw[wH d he];rfl
   |false =>
    obtain⟨t,e1,e2⟩:=Rv d x1 x2 he;rw[e1]
    have h3:p=false:=by
     cases p with
     |false=>rfl
     |true=>rw[hp rfl x r rfl]at he;cases he
    have h4:t.toList.isEmpty=false:=by
     rw[e2];cases e:DJ T x with
     |nil=>exact absurd e (h.tx x x1 x2 he)
     |cons a s=>rfl
    show(true&&(t.toList.isEmpty||p|| !([]:List NT).isEmpty))=false;rw[h3,h4];rfl
theorem UF (h:Tr H T): ∀(d:Nat) (i:Int),1<=i->i<T.ai.length->Deep d T i->txB (jg d T i)=false
 |0,_,_,_,hd=>hd.elim
 |d+1,i,h1,h2,hd=>by
  cases he:aY T i with
  |false =>
   obtain⟨t,e1, -⟩:=Rv d h1 h2 he;rw[e1];rfl
  |true =>
   rw[wH d he,txB];exact aaF h d (UF h d) _ _ (λk hk=>⟨(dW h.wf hk (by omega)).1,(dW h.wf hk (by omega)).2,hd k hk⟩) (h.tt i (by omega) h2) λhh=>by cases hh
theorem akT (sp:Int) (nm t:ae) (at':List dD) (ks r:List NT) (h b:Nat):TE (.mk 2 sp nm at' t ks::r) h b=TE r h b:=by
 rw[TE];exact au (show(2:Int)≠1 by decide)
theorem af3 (sp:Int) (nm t:ae) (at':List dD) (ks r:List NT) (h b:Nat):TE (.mk 1 sp nm at' t ks::r) h b=if h=0/\nm≠(⟨#[104,101,97,100]⟩:ae)then none else TE r (if nm=(⟨#[104,101,97,100]⟩:ae)/\sp=0 then h+1 else h) (if nm=(⟨#[98,111,100,121]⟩:ae)/\sp=0 then b+1 else b):=by
 rw[TE];exact aj (show ¬(1:Int)≠1 by decide)
theorem frames (d:Nat): ∀(K:List Int) (b:Nat),(∀k∈K,1<=k/\k<T.ai.length)->(∀k∈K,uh T k=true->bq T k=(⟨#[98,111,100,121]⟩:ae))->TE (K.map (jg (d+1) T)) 1 b=some (1,b+(K.filter (uh T)).length)
 | [],b,_,_=>rfl
 |x::r,b,hr,hn=>by
  have ih:=λb=>frames d r b (λk hk=>hr k (gm _ hk)) λk hk=>hn k (gm _ hk)
  obtain⟨x1,x2⟩:=hr x dR;rw[dX];cases he:aY T x with
  |false =>
   obtain⟨t,e1, -⟩:=Rv d x1 x2 he;have hb:uh T x=false:=by unfold uh aI;rw[he];rfl
   rw[e1,akT,ih,Iy (by rw[hb];decide)]
  |true =>
   rw[wH d he,af3,aj λhh=>absurd hh.1 (by decide)]
   have hbx: ∀w:ae,fU [⟨#[104,101,97,100]⟩,⟨#[98,111,100,121]⟩,⟨#[104,116,109,108]⟩] w=true->bq T x=w->aX T x=0->uh T x=true:=λw hw e1 e2=>by
    unfold uh aI;rw[he,e1,e2,hw];rfl
   have hne:((⟨#[104,101,97,100]⟩:ae):ae)≠(⟨#[98,111,100,121]⟩:ae):=λe=>absurd (aW ByteArray.toList e) (by rw[show((⟨#[104,101,97,100]⟩:ae):ae).toList=([104,101,97,100]:List ax) by kernel_rfl,show((⟨#[98,111,100,121]⟩:ae):ae).toList=([98,111,100,121]:List ax) by kernel_rfl];decide)
   rw[aj λhh:bq T x=(⟨#[104,101,97,100]⟩:ae)/\aX T x=0=>hne (hh.1.symm.trans (hn x dR (hbx _ (by kernel_rfl) hh.1 hh.2)))];cases hb:uh T x with
   |true =>
    have hs:=(kC hb).2.1;rw[au ⟨hn x dR hb,hs⟩,ih,Ll hb,dB];congr 2;omega
   |false =>
    rw[aj λhh:bq T x=(⟨#[98,111,100,121]⟩:ae)/\aX T x=0=>(by rw[hbx _ (by kernel_rfl) hh.1 hh.2]at hb;cases hb),ih,Iy (by rw[hb];decide)]
theorem FR.frame (h:FR [2,z] T l):vC (xy T (EX T))=1/\ER (xy T (EX T))=(⟨#[104,116,109,108]⟩:ae)/\Oh (xy T (EX T))=0/\txB (xy T (EX T))=false/\TE (RX (xy T (EX T))) 0 0=some (1,1):=by
 have h2:=h.tr.two;have hw:=h.tr.wf;have hd:=AX hw 1 (ay _) (by omega);have ht:=UF h.tr _ _ (by decide) (by have:=h.tr.two;omega) hd;have hk:EX T=1:=by unfold EX;rw[h.tr.k0];rfl
 have hr:xy T (EX T)=jg T.ai.length T 1:=by unfold xy;rw[hk]
 rw[hr];refine⟨?_,?_,?_,ht,?_⟩
 ·obtain⟨d,hd⟩: ∃d,T.ai.length=d+1:=⟨T.ai.length-1,by omega⟩;rw[hd,wH d h.tr.e1];rfl
 ·obtain⟨d,hd⟩: ∃d,T.ai.length=d+1:=⟨T.ai.length-1,by omega⟩;rw[hd,wH d h.tr.e1];exact h.tr.n1
 ·obtain⟨d,hd⟩: ∃d,T.ai.length=d+1:=⟨T.ai.length-1,by omega⟩;rw[hd,wH d h.tr.e1];exact h.tr.s1
 ·obtain⟨d,hd⟩: ∃d,T.ai.length=d+2:=⟨T.ai.length-2,by omega⟩;rw[hd,wH (d+1) h.tr.e1];show TE ((aG T 1).map (jg (d+1) T)) 0 0=_;rcases h.tr.h1 with⟨e, -⟩|⟨y,R,K,e1,e2⟩
  ·cases e
  ·obtain⟨rfl,rfl⟩:=dH e1
   have hb2:uh T 2=true:=by
    have hz:(2:Int)∈([2,z]:List Int):=by simp
    rw[<-h.tr.hb]at hz;exact(qE.1 hz).2
   obtain⟨k1,k2, -⟩:=kC hb2;have hn2:bq T 2=(⟨#[104,101,97,100]⟩:ae):=h.tr.hm 2 (by simp);have hf:=h.tr.hb;rw[e2,Ll hb2]at hf;have hf2:K.filter (uh T)= [z]:=(dH hf).2;have hnd:=hw.nodup 1 (by omega);rw[show aG T ((1:Nat):Int)=2::K from e2,mh]at hnd;have hne:((⟨#[104,101,97,100]⟩:ae):ae)≠(⟨#[98,111,100,121]⟩:ae):=λe=>absurd (aW ByteArray.toList e) (by rw[show((⟨#[104,101,97,100]⟩:ae):ae).toList=([104,101,97,100]:List ax) by kernel_rfl,show((⟨#[98,111,100,121]⟩:ae):ae).toList=([98,111,100,121]:List ax) by kernel_rfl];decide)
   rw[e2,dX,wH d k1,af3,aj λhh=>hh.2 hn2,au ⟨hn2,k2⟩,aj λhh=>hne (hn2.symm.trans hh.1),frames d K 0 (λk hk=>dW hw (show k∈aG T 1 by rw[e2];exact gm _ hk) (by decide)) (λk hk hb=> ?_),hf2]
   ·rfl
   ·have hkz:k∈K.filter (uh T):=qE.2 ⟨hk,hb⟩;have hkH:k∈([2,z]:List Int):=by rw[hf2]at hkz;exact gm _ hkz
    rw[h.tr.hm k hkH];unfold hnm;rw[aj];rintro rfl;exact hnd.1 hk
theorem Zf (hw:WF T) (hl:(T.ai.length:Int)<=1001) (h1:1<T.ai.length):fT (xy T 1)<=1000:=by
 unfold xy;have e:=Fp T.ai.length T hw 1 (ay _) h1 (AX hw 1 (ay _) h1);rw[show((1:Nat):Int)=1 from rfl]at e;rw[e];unfold cntF;obtain⟨n,hn⟩: ∃n,T.ai.length=n+1:=⟨T.ai.length-1,by omega⟩;rw[hn,List.range_succ_eq_map,List.countP_cons_of_neg (by simp)];have:=List.countP_le_length (p:=λm:Nat=>decide (1<=m)&&gM T m 1) (l:=(List.range n).map Nat.succ);rw[Ir,List.length_range]at this;omega
end
end
theorem adW: ∀(l:List NT) (p:Bool),Ub p l=false-> ∀j (hj:j<l.length),txB l[j]=false/\(isT l[j]=true->(LH l[j]).toList≠ []/\RX l[j]= []/\(j=0->p=false)/\ ∀i (hi:i<l.length),j=i+1->isT l[i]=false)
 | [],_,_,_,hj=>by cases hj
 |x::r,p,h,j,hj=>by
  rw[Ub,Ae,Ae]at h;obtain⟨⟨h1,h2⟩,h3⟩:=h;cases j with
  |zero =>
   refine⟨h2,λhx=> ?_⟩;have hx':isT x=true:=hx;rw[hx',nW,Ae,Ae,Bool.not_eq_false',Lh]at h1;exact⟨λe=>by rw[show(LH x).toList= []from e]at h1;exact absurd h1.1.1 (by decide),h1.2,λ_=>h1.1.2,λi _ e=>absurd e (by omega)⟩
  |succ j =>
   have hj':j<r.length:=by rw[dB]at hj;omega
   obtain⟨k1,k2⟩:=adW r _ h3 j hj';refine⟨k1,λhx=> ?_⟩;obtain⟨q1,q2,q3,q4⟩:=k2 hx;refine⟨q1,q2,λe=>absurd e (by omega),λi hi e=> ?_⟩;cases i with
   |zero=>exact q3 (by omega)
   |succ i=>exact q4 i (by rw[dB]at hi;omega) (by omega)
theorem Gg {F:Nat->Prop} {w:af} {cs:List ak} {n:NT} (h:gq F w cs n): ∃a an ac ka kc,cs=iF (vC n) (Oh n) (ER n) a an ac (LH n) ka (RX n).length kc:=by
 cases h;exact⟨_,_,_,_,_,rfl⟩
theorem XB (aH aN:Int) (ah:ae) (aA:List dD) (a:Option Addr) (an ac:Nat) (aL:ae) (ka:Option Addr) (kc:Nat) (aP:List NT) (css:List (List ak)) (w:af)
 (k1:aP.length<=kc) (k2:kc<=maxLen) (k4:rX pG w ka css.flatten) (hl:css.length=aP.length) (hk: ∀i (h:i<css.length) (h':i<aP.length),gq pG w css[i] aP[i]) (hm:Ub false aP=false)
 (ih: ∀j (h:j<aP.length) (cs:List ak) (u:af),gq pG u cs aP[j]->Calls prog 6 #[.agg cs.toArray] u λe u'=>e= .returned (.bool false)/\Below u.heap.size u u') :
 Calls prog 6 #[.agg #[.int .i64 aH,.int .i64 aN,.string ah,.slice a an ac,.string aL,.slice ka aP.length kc]] w λe w'=>e= .returned (.bool false)/\Below w.heap.size w w':=by
 have Bw:=hd' k4;have HK:=hd' hk;have HIH:=hd' ih;have HL:=hd' hl;have HTx:=hd' (adW aP false hm);have hB:=eU w (.cells #[.int .i64 aH,.int .i64 aN,.string ah,.slice a an ac,.string aL,.slice ka aP.length kc] 26);have hb:=(aQ w.heap.size w).alloc (ay _) (.cells #[.int .i64 aH,.int .i64 aN,.string ah,.slice a an ac,.string aL,.slice ka aP.length kc] 26);unfold maxLen at k2;have hkc:aP.length<=9223372036854775807:=by omega
 clear k4 hk ih hl hm;go_enter func6,ntmps6
 go_wp2_with fail
 generalize w.alloc (.cells #[.int .i64 aH,.int .i64 aN,.string ah,.slice a an ac,.string aL,.slice ka aP.length kc] 26)=w1 at *;have HB:=hd' hB;have HB1:=hd' hb;clear hB hb;go_loopw [3] (λi wr=> ∃j:Nat,j<=aP.length/\i= .int .i64 j/\Below w1.heap.size w1 wr) (λi _=>aP.length-(intOf i).toNat)
 case atStart=>exact⟨0,bD _,rfl,aQ _ _⟩
 case round =>
  obtain⟨j,hj,rfl,hbr⟩:=hrel;have nJ:=hd' hbr;have Od:=hd' (HB1.o'.trans (hbr.mono HB1.o'.size));have hBr:=(hbr.block w.heap.size (fZ HB.o')).trans HB.o';obtain⟨⟨_,_,_,_,_,c5⟩,_⟩:=kZ hBr;clear hbr hBr;by_cases hlt:j<aP.length
  ·have hlt':j<css.length:=by rw[HL.o'];exact hlt
   have Fw:=az.bC (F:=pG) Od.o';have qg:=(HK.o' j hlt' hlt).kept Fw
   have h6: ∀c∈css,c.length=6:=by
    intro c hc;obtain⟨i,hi,rfl⟩:=pR hc;exact(HK.o' i hi (by rw[<-HL.o'];exact hi)).len
   obtain⟨f3,f4,f5,f7,f9,he⟩:=Gg qg;obtain⟨b,o,rfl,e0,e1,e2,e3,e4,e5⟩:=uG h6 (Bw.o'.kept Fw) hlt' he;rw[he]at qg;have HC:=hd' (HIH.o' j hlt _ _ (qg.kept (((az.refl _ _).alloc (.cells #[.int .i64 (vC aP[j]),.int .i64 (Oh aP[j]),.string (ER aP[j]),.slice f3 f4 f5,.string (LH aP[j]),.slice f7 (RX aP[j]).length f9] 26)))));unfold iF at HC;obtain⟨hx1,hx2⟩:=HTx.o' j hlt;clear hx1
   have vE: ∀i (hi:i<aP.length),j=i+1-> ∃pk:Int,wr.cell? ⟨b,o+i*6,none⟩=some (.int .i64 pk)/\pk=vC aP[i]:=λi hi e=>by
    have hi':i<css.length:=by rw[HL.o'];exact hi
    obtain⟨g3,g4,g5,g7,g9,hg⟩:=Gg ((HK.o' i hi' hi).kept Fw);obtain⟨b2,o2,eb,e0', -⟩:=uG h6 (Bw.o'.kept Fw) hi' hg;cases eb;exact⟨_,e0',rfl⟩
   cases hk2:(vC aP[j]==2)
   case false =>
    generalize vC aP[j]=q0 at *;generalize LH aP[j]=q4 at *;generalize RX aP[j]=q5 at *;clear Fw qg h6 he hx2 vE;go_wp2_with fail
    refine HC.o'.mono ?_;rintro e w2 ⟨rfl,hb2⟩;have HB2:=hd' (aK (nJ.o'.alloc nJ.o'.size _) hb2);clear hb2;go_wp2_with fail
    go_roundw
    case rel=>exact⟨j+1,by omega,by go_num,HB2.o'⟩
    case measure=>simp[intOf];omega
   case true =>
    obtain⟨y1,y2,y3,y4⟩:=hx2 hk2;have ht:(LH aP[j]).toList.isEmpty=false:=Ag.2 λe=>y1 (Lh.1 e)
    have ht2: ¬(LH aP[j]).toList= []:=y1;have hkl:(RX aP[j]).length=0:=by rw[y2];rfl
    rw[hkl]at e5 HC;rcases Lb j with h0|h0
    ·subst h0;simp only[Nat.zero_mul,pM]at e0 e1 e2 e3 e4 e5;generalize vC aP[0]=q0 at *;generalize LH aP[0]=q4 at *;clear Fw qg h6 he hx2 vE y1 y2 y3 y4 hkl;go_wp2_with fail
     refine HC.o'.mono ?_;rintro e w2 ⟨rfl,hb2⟩;have HB2:=hd' (aK (nJ.o'.alloc nJ.o'.size _) hb2);clear hb2;go_wp2_with fail
     go_roundw
     case rel=>exact⟨0+1,by omega,by go_num,HB2.o'⟩
     case measure=>simp[intOf];omega
    ·obtain⟨i,rfl⟩: ∃i,j=i+1:=⟨j-1,by omega⟩;obtain⟨pk,hpk,hpe⟩:=vE i (by omega) rfl;have hp2:(pk==2)=false:=by rw[hpe];exact y4 i (by omega) rfl
     generalize vC aP[i+1]=q0 at *;generalize LH aP[i+1]=q4 at *;clear Fw qg h6 he hx2 vE y1 y2 y3 y4 hkl hpe;have hbl:=(aQ wr.heap.size wr).alloc (ay _) (.cells #[.int .i64 q0,.int .i64 (Oh aP[i+1]),.string (ER aP[i+1]),.slice f3 f4 f5,.string q4,.slice f7 0 f9] 26);have c5':=aM hbl c5;have hpk':=aM hbl hpk;have hij:((i+1:Nat):Int)-1=(i:Nat):=by omega
     go_wp2_with fail
     refine HC.o'.mono ?_;rintro e w2 ⟨rfl,hb2⟩;have HB2:=hd' (aK (nJ.o'.alloc nJ.o'.size _) hb2);clear hb2;go_wp2_with fail
     go_roundw
     case rel=>exact⟨i+1+1,by omega,by go_num,HB2.o'⟩
     case measure=>simp[intOf];omega
  ·skip;go_wp2_with fail
   go_ret;exact⟨rfl,Od.o'⟩
theorem OY: ∀(m:Nat) (n:NT) (w:af) (cs:List ak),fT n<=m->txB n=false->gq pG w cs n->Calls prog 6 #[.agg cs.toArray] w λe w'=>e= .returned (.bool false)/\Below w.heap.size w w'
 |0,.mk _ _ _ _ _ _,_,_,h,_,_=>by
  rw[fT]at h;omega
 |m+1,n,w,cs,h,hm,hn=>by
  cases hn with
  | @mk aH aN ah a c aA aL ka kc aP css h1 h2 h3 h4 k1 k2 k3 k4 hl hk =>
    rw[fT]at h;rw[txB]at hm;refine XB aH aN ah aA a aA.length c aL ka kc aP css w k1 k2 k4 hl hk hm ?_;intro j hj cs u hc;have h5:=uL aP aP[j] (kH hj);exact OY m aP[j] u cs (by omega) (adW aP false hm j hj).1 hc
end Go.Proofs.YtnlbcifhedjbfaaGreatDoor
