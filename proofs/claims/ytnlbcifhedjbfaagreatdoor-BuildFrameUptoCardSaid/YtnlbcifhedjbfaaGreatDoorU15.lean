/- oZ joined for a claim: CuW, CuX, aw5, aw8, CuY: plain laws and contracts. No conditions beyond those that each lemma types. -/
import Derived.Test.YtnlbcifhedjbfaaGreatDoorU14
import Derived.Test.YtnlbcifhedjbfaaGreatDoorU09
import Derived.Test.YtnlbcifhedjbfaaGreatDoorU03
import Derived.Test.YtnlbcifhedjbfaaGreatDoorU01
import Derived.Test.YtnlbcifhedjbfaaGreatDoorU07
set_option linter.unusedVariables false
set_option linter.unusedSimpArgs false
set_option maxRecDepth 100000
set_option maxHeartbeats 8000000
open Go.Proofs.Tryz
namespace Go.Proofs.YtnlbcifhedjbfaaGreatDoor
open Go.RowKit Mem
section
section
variable {E:BE} {ws w w':af} {c:Nat} {s:Int} {b b':aC} {m m':aO}
theorem CJ (b:aC) (L:List Int) (x:Int):aC.jQ b (L++ [x]).reverse=if(aX b.S.T x==0)||(gT (aX b.S.T x) (bq b.S.T x) (bW b.S.T x) !=0)then b.oP (L++ [x])else aC.jQ b L.reverse:=by
 rw[pO,xe,xc,aC.jQ];have h:(x::L.reverse).reverse=L++ [x]:=by simp
 rw[h]
theorem XY (T:aB):aX T 0=0:=by
 unfold aX;rw[aj];intro h;obtain⟨k,hk,h0,h1, -⟩:=Dv h;omega
theorem adk (h:Ok c s b) (x:Int):(valueOf (bW b.S.T x) (⟨#[101,110,99,111,100,105,110,103]⟩:ae)).size<=maxLen :=
 Fy _ _ (uN h.at' x).2
theorem Fg (h:SM E ws c s b m w) (hc:c<=100000) (hu:b.used+m.aL.size<=9223372036854775807) (hw:b.iJ.size+m.aL.size<=9223372036854775807) (sp:Int):Calls prog 38 #[.pointer (some ⟨E.bb,0,none⟩),.pointer (some ⟨E.mb,0,none⟩),.int .i64 sp] w λr w'=>r= .returned (.bool (b.dE m sp).2.2)/\SM E ws (c+1) s (b.dE m sp).1 (b.dE m sp).2.1 w':=by
 have H:=hd' h;obtain⟨c0,c1,c2,c3,c4⟩:=H.o'.sx.mc;have nJ:=hd' (Zn m.ah m.aA E.a E.ac m.self m.aL w m.aH (by have:=h.sx.mo.Tf;unfold maxLen;omega) h.sx.at);have HV:=hd' (aC.dE.eq_1 b m sp);clear h;obtain⟨k,hk⟩: ∃k,k=m.aH:=⟨_,rfl⟩;rw[<-hk]at c0 HV nJ;have HK:=hd' hk;clear hk;by_cases k1:k=1
 ·subst k1;go_enter KX,KT
  go_wp2_with (go_at_call 52;refine(FM H.o' m.aL hu).mono ?_;rintro e w1 ⟨rfl,h1⟩;have H1:=hd' h1;clear h1)
  go_ret;rw[HV.o'];exact⟨rfl,H1.o'.more (by omega) (by omega)⟩
 ·have k1':(k==1)=false:=aV.2 k1;have hv:=HV.o';simp only[k1',gQ,dM]at hv;clear HV k1;generalize hbr:kL k m.ah m.aA=t at nJ hv;cases t
  ·by_cases k2:k=2
   ·subst k2;go_enter KX,KT
    go_wp2_with (first
     |(go_at_call 55;refine nJ.o'.mono ?_;rintro e w1 ⟨rfl,hb⟩;have H1:=hd' (H.o'.world hb);obtain⟨g0, -⟩:=H1.o'.sx.mc;rw[<-HK.o']at g0;clear hb)
     |(go_at_call 57;refine(NU H1.o' sp).mono ?_;rintro e w2 ⟨rfl,h2⟩;have H2:=hd' h2;clear h2))
    (go_ret)
    rw[hv];exact⟨rfl,H2.o'.more (by omega) (by omega)⟩
   ·by_cases k3:k=3
    ·subst k3;go_enter KX,KT
     go_wp2_with (first
      |(go_at_call 55;refine nJ.o'.mono ?_;rintro e w1 ⟨rfl,hb⟩;have H1:=hd' (H.o'.world hb);obtain⟨g0, -⟩:=H1.o'.sx.mc;rw[<-HK.o']at g0;clear hb)
      |(go_at_call 58;refine(acB H1.o' hc hu hw).mono ?_;rintro e w2 ⟨rfl,h2⟩;have H2:=hd' h2;clear h2))
     (go_ret)
     rw[hv];exact⟨rfl,H2.o'⟩
    ·have k2':(k==2)=false:=aV.2 k2;have k3':(k==3)=false:=aV.2 k3;clear k2 k3;go_enter KX,KT
     go_wp2_with (first
      |(go_at_call 55;refine nJ.o'.mono ?_;rintro e w1 ⟨rfl,hb⟩;have H1:=hd' (H.o'.world hb);obtain⟨g0, -⟩:=H1.o'.sx.mc;rw[<-HK.o']at g0;clear hb))
     (go_ret)
     simp only[k2',k3',gQ,dM]at hv;rw[hv];exact⟨rfl,H1.o'.more (by omega) (by omega)⟩
  ·have HQ:Hid (b.dE m sp=(b.jQ b.S.l.reverse).fE m):=hd' (by rw[hv];rfl);clear hv;go_enter KX,KT
   go_wp2_with (first
    |(go_at_call 55;refine nJ.o'.mono ?_;rintro e w1 ⟨rfl,hb⟩;have H1:=hd' (H.o'.world hb);obtain⟨g0, -⟩:=H1.o'.sx.mc;rw[<-HK.o']at g0;clear hb))
   go_loopg [] b.S.l.length (λn wr=>Hid (∃L:List Int,L.length=n/\SM E ws c s (b.oP L) m wr/\b.jQ b.S.l.reverse=b.jQ L.reverse))
   case atStart=>exact hd' ⟨b.S.l,rfl,H1.o',rfl⟩
   case round =>
    obtain⟨L,hL1,hL2,hL3⟩:=hrel.o';have HL1:=hd' hL1;have HL2:=hd' hL2;have HL3:=hd' hL3;clear hL1 hL2 hL3
    rename af=>wz
    have HT:=hd' (LJ HL2.o'.sx);have Kt:=hd' (adk HL2.o'.ok (aC.top (b.oP L)));have HTs:Hid (aC.qm (b.oP L)=aX b.S.T (aC.top (b.oP L))/\aC.DK (b.oP L)=bq b.S.T (aC.top (b.oP L))/\bW (b.oP L).S.T (aC.top (b.oP L))=bW b.S.T (aC.top (b.oP L))):=hd' ⟨rfl,rfl,rfl⟩
    have HLx:Hid (L= []/\aC.top (b.oP L)=0\/ ∃L0,L=L0++ [aC.top (b.oP L)]):=hd' (by
     rcases yM L with hh|⟨L0,x,hh⟩
     ·subst hh;exact .inl ⟨rfl,rfl⟩
     ·rw[yO]at hh;subst hh;refine .inr ⟨L0,?_⟩;show _=L0++ [((L0++ [x]).getLast?.getD 0)]
      simp)
    rw[HTs.o'.1,HTs.o'.2.1,HTs.o'.2.2]at HT;rw[HTs.o'.2.2]at Kt;generalize aC.top (b.oP L)=x at HT Kt HTs HLx;clear HTs;obtain⟨ts,hts⟩: ∃ts,ts=aX b.S.T x:=⟨_,rfl⟩;obtain⟨tn,htn⟩: ∃tn,tn=bq b.S.T x:=⟨_,rfl⟩;obtain⟨ta,hta⟩: ∃ta,ta=bW b.S.T x:=⟨_,rfl⟩;rw[<-hts,<-htn,<-hta]at HT;rw[<-hta]at Kt;have HRd:Hid (∀u,SM E ws c s (b.oP L) m u->Calls prog 39 #[.pointer (some ⟨E.bb,0,none⟩),.pointer (some ⟨E.mb,0,none⟩)] u λr w'=>r= .returned (.bool ((b.oP L).fE m).2.2)/\SM E ws (c+1) s ((b.oP L).fE m).1 ((b.oP L).fE m).2.1 w'):=hd' λu hu'=>BX hu' hc hu hw
    have HPo:Hid (∀u,SM E ws c s (b.oP L) m u->Calls prog 54 #[.int .i64 ts] u λr w'=>True)\/True:= .inr trivial;clear HPo;by_cases hz:ts=0
    ·have HB:Hid (b.dE m sp=(b.oP L).fE m):=hd' (by
      rw[HQ.o',HL3.o'];rcases HLx.o' with⟨rfl, -⟩|⟨L0,hL⟩
      ·rfl
      ·rw[hL,CJ,<-hts,hz]
       rfl)
     subst hz;clear HQ HLx HL1 HL3 Kt hts htn hta
     go_wp2_with (first
      |(go_at_call 28;refine HT.o'.mono ?_;rintro e w2 ⟨v,rfl, -,hb, -⟩;have H2:=hd' (HL2.o'.world hb);clear hb)
      |(go_at_call 39;refine(HRd.o' _ H2.o').mono ?_;rintro e w3 ⟨rfl,h3⟩;have H3:=hd' h3;clear h3))
     (go_ret)
     rw[HB.o'];exact⟨rfl,H3.o'⟩
    ·have hzf:(ts==0)=false:=aV.2 hz
     have HLy:Hid (∃L0,L=L0++ [x]):=hd' (by
      rcases HLx.o' with⟨rfl,hx0⟩|h
      ·exact absurd (by rw[hts,hx0];exact XY _) hz
      ·exact h)
     clear HLx;obtain⟨pt,hpt⟩: ∃pt,pt=gT ts tn ta:=⟨_,rfl⟩;have HPt:=hd' λ(a:Option Addr) (ca:Nat) (u:af) (hl:ta.length<=maxLen) (ha:At u a (bz ta))=>Ps ts tn ta a ca u hl Kt.o' ha
     rw[<-hpt]at HPt;have HTx:=hd' (⟨hts,htn,hta,hpt⟩:ts=aX b.S.T x/\tn=bq b.S.T x/\ta=bW b.S.T x/\pt=gT ts tn ta);clear hts htn hta hpt Kt;by_cases hp:pt=0
     ·subst hp
      have HB:Hid (∃L0,L=L0++ [x]/\b.jQ b.S.l.reverse=b.jQ L0.reverse):=hd' (by
       obtain⟨L0,hL⟩:=HLy.o';refine⟨L0,hL,?_⟩;obtain⟨e1,e2,e3,e4⟩:=HTx.o';rw[HL3.o',hL,CJ,<-e1,<-e2,<-e3,hzf,<-e4]
       rfl)
      obtain⟨L0,hL,hb0⟩:=HB.o';subst hL;have HB0:=hd' hb0;have VM:aC.pop (b.oP (L0++ [x]))=b.oP L0:=by unfold aC.pop;show b.oP ((L0++ [x]).dropLast)=_;simp
      have HPo:Hid (∀u,SM E ws c s (b.oP (L0++ [x])) m u->Calls prog 56 #[.pointer (some ⟨E.sb,0,none⟩)] u λr w'=>r= .returned (.int .i64 (aC.top (b.oP (L0++ [x]))))/\SM E ws c s (b.oP L0) m w'):=hd' λu hu'=>VM▸vS hu'
      clear HB HTx HLy hb0 VM HL3 HRd hz
      go_wp2_with (first
       |(go_at_call 28;refine HT.o'.mono ?_;rintro e w2 ⟨v,rfl,ho,hb, -⟩;have h2:=HL2.o'.world hb;obtain⟨a2,ca2,rfl,hn2,hm2, -,lV⟩:=fJ ho;have H2:=hd' h2;have Tz:=hd' lV;clear h2 ho hb lV)
       |(go_at_call 54;refine(HPt.o' _ _ _ (by omega) Tz.o').mono ?_;rintro e w3 ⟨rfl,hb3⟩;have H3:=hd' (H2.o'.world hb3);have d1:=H3.o'.sx.bc.2.1;clear hb3)
       |(go_at_call 56;refine(HPo.o' _ H3.o').mono ?_;rintro e w4 ⟨rfl,h4⟩;have H4:=hd' h4;clear h4))
      go_roundg L0.length
      case measure=>have:=HL1.o';rw[fC,sS]at this;omega
      case rel=>exact hd' ⟨L0,rfl,H4.o',HB0.o'⟩
     ·have hpf:(pt !=0)=true:=jJ.2 hp
      have HB:Hid (b.dE m sp=(b.oP L).fE m):=hd' (by
       obtain⟨L0,hL⟩:=HLy.o';obtain⟨e1,e2,e3,e4⟩:=HTx.o';rw[HQ.o',HL3.o',hL,CJ,<-e1,<-e2,<-e3,hzf,<-e4,hpf]
       rfl)
      clear HTx HLy HQ HL1 HL3 hz
      go_wp2_with (first
       |(go_at_call 28;refine HT.o'.mono ?_;rintro e w2 ⟨v,rfl,ho,hb, -⟩;obtain⟨a2,ca2,rfl,hn2,hm2, -,lV⟩:=fJ ho;have h2:=HL2.o'.world hb;have H2:=hd' h2;have Tz:=hd' lV;clear h2 ho hb lV)
       |(go_at_call 54;refine(HPt.o' _ _ _ (by omega) Tz.o').mono ?_;rintro e w3 ⟨rfl,hb3⟩;have H3:=hd' (H2.o'.world hb3);clear hb3)
       |(go_at_call 39;refine(HRd.o' _ H3.o').mono ?_;rintro e w4 ⟨rfl,h4⟩;have H4:=hd' h4;clear h4))
      (go_ret)
      rw[HB.o'];exact⟨rfl,H4.o'⟩
end
end
section
def OB (E:BE):Nat->Prop:=λk=>Own E.w0 E.ex k\/k=E.bb
structure sG (E:BE) (ws:af) (c:Nat) (s:Int) (b:aC) (w:af):Prop where
 bm:BM E b w
 keep:az (OB E) ws w
 ok:Ok c s b
def BE.YH (E:BE) (g:Nat) (a:Option Addr) (ac:Nat):BE:= {E with mb:=g,ex:=λk=>E.ex k\/k=g,a:=a,ac:=ac}
structure MA (F:Nat->Prop) (w:af) (m:aO) (a:Option Addr) (ac:Nat):Prop where
 Bz:rX F w a (bz m.aA)
 nil:a=none->ac=0
 Tf:m.aA.length<=1048576
 ash: ∀p∈m.aA,NZ p
 Uf:m.aL.size<=4611686018427387904
 Cf:m.ah.size<=maxLen
section
variable {E:BE} {ws w w':af} {c c':Nat} {s s':Int} {b b':aC} {m m':aO} {a:Option Addr} {ac:Nat}
theorem BM.lt (h:BM E b w):E.bb<w.heap.size:=h.row.lt
theorem sG.world (h:sG E ws c s b w) (hb:Below w.heap.size w w'):sG E ws c s b w' :=
 ⟨⟨h.bm.li.world hb,h.bm.row.kept (hb.block _ h.bm.lt),h.bm.exb,h.bm.b0⟩,h.keep.trans (az.bC hb),h.ok⟩
theorem sG.more (h:sG E ws c s b w) (hc:c<=c') (hs:s<=s'):sG E ws c' s' b w:=⟨h.bm,h.keep,h.ok.more hc hs⟩
theorem sG.enter (h:sG E ws c s b w) (hm:MA (OB E) w m a ac) (t:TypeId):SM (E.YH w.heap.size a ac) (w.alloc (.cells #[.int .i64 m.aH,.string m.ah,.slice a m.aA.length ac,.bool m.self,.string m.aL] t)) c s b m (w.alloc (.cells #[.int .i64 m.aH,.string m.ah,.slice a m.aA.length ac,.bool m.self,.string m.aL] t)):=by
 obtain⟨⟨h1,h2,h3,h4⟩,h5,h6⟩:=h;have hlt:E.bb<w.heap.size:=h2.lt;have hw0:E.w0.heap.size<=w.heap.size:=lZ (La h4 hlt);refine⟨⟨⟨h1.lay _,h2.kept (pU w _ _ hlt),.inl h3,h4⟩,⟨?_,.inr rfl,hw0,Nat.ne_of_lt hlt,?_,hm.nil,hm.Tf,hm.ash,hm.Uf,hm.Cf⟩,az.refl _ _⟩,h6⟩
 ·exact Row.alloc _ _ _
 ·refine rX.other (F:=OB E) (hm.Bz.kept ((az.refl _ _).alloc _)) λk hk hx=> ?_
  rcases hx with hx|hx|hx
  ·exact .inl ⟨hx.1,λhe=>hx.2 (.inl he)⟩
  ·exact .inr hx
  ·exact .inl ⟨by have:k=w.heap.size:=hx;show E.w0.heap.size<=k;omega,λhe=>by
    have h7:=h1.Bu k he;have:k=w.heap.size:=hx
    omega⟩
theorem sG.leave (h0:sG E ws c s b w) {o:Obj} (h:SM (E.YH w.heap.size a ac) (w.alloc o) c' s' b' m w'):sG E ws c' s' b' w':=by
 obtain⟨⟨⟨h1,h2,h3,h4⟩, -,h5⟩,h6⟩:=h;have hs:=zY w o;have hk:=h5.size;refine⟨⟨?_,h2,h0.bm.exb,h4⟩,?_,h6⟩
 ·exact h1.dE (ex':=E.ex) (F:=λ_=>False) (az.refl _ w') (λ_ hx=>hx.elim) λk hx=>⟨.inl (.inl hx),fA (h0.bm.li.Bu k hx) (by omega)⟩
 ·have k1:az (OB E) w (w.alloc o):=(az.refl _ _).alloc o
  have k2:az (λk=>OB E k\/w.heap.size<=k) (w.alloc o) w':=h5.mono λk hk hx=>by
   rcases hx with hx|hx|hx
   ·exact .inl (.inl ⟨hx.1,λhe=>hx.2 (.inl he)⟩)
   ·exact .inl (.inr hx)
   ·exact .inr (uu (Eq.symm hx))
  have k3:az (λk=>OB E k\/w.heap.size<=k) w w':=(k1.mono λk _ hx=> .inl hx).trans k2;exact h0.keep.trans ⟨k3.os,k3.tape,k3.output,k3.size,λk hk hx=>k3.block k hk λhy=>hy.elim hx λhz=>by omega⟩
theorem sG.in (h:sG E ws c s b w) (hm:MA (OB E) w m a ac) (t:TypeId): ∃E1 w1,E1.bb=E.bb/\E1.mb=w.heap.size/\SM E1 w1 c s b m (w.alloc (.cells #[.int .i64 m.aH,.string m.ah,.slice a m.aA.length ac,.bool m.self,.string m.aL] t)) /\
 ∀c' s' b' m' u,SM E1 w1 c' s' b' m' u->sG E ws c' s' b' u :=
 ⟨E.YH w.heap.size a ac,_,rfl,rfl,h.enter hm t,λ_ _ _ _ _ hu=>h.leave hu⟩
def CQ (E:BE) (ws:af) (C LIM:Nat) (Q:aC) (k:Nat) (ag:Bool) (b:aC) (m:aO) (w:af):Prop :=
 ∃c,SM E ws c 0 b m w/\c+k<=C/\MD b/\(ag=true->rank b m<k/\uw b+m.aL.size<=LIM)/\Q=(if ag then aC.again k b m else b)
theorem CQ.off {C LIM k:Nat} {Q:aC} (h:CQ E ws C LIM Q k false b m w):b=Q/\SM E ws C 0 b m w:=by
 obtain⟨c,h1,h2, -, -,h3⟩:=h;exact⟨h3.symm,h1.more (by omega) (by omega)⟩
theorem CQ.dJ {C LIM k:Nat} {Q:aC} {ag:Bool} (h:CQ E ws C LIM Q k ag b m w) (he:b.dJ≠0):b=Q/\SM E ws C 0 b m w:=by
 obtain⟨c,h1,h2, -, -,h3⟩:=h;refine⟨?_,h1.more (by omega) (by omega)⟩;rw[h3];cases ag with
 |false=>rfl
 |true =>
  cases k with
  |zero=>rfl
  |succ k=>rw[au rfl,aC.again,aj he]
theorem CQ.next {C LIM k:Nat} {Q:aC} (h:CQ E ws C LIM Q k true b m w) (he:b.dJ=0) (hC:C<=100000) (hL:LIM<=4611686018427387904) :
 (∃c,c<=100000/\SM E ws c 0 b m w/\b.used+m.aL.size<=9223372036854775807/\b.iJ.size+m.aL.size<=9223372036854775807 /\
   ∀w',SM E ws (c+1) 0 (b.once m).1 (b.once m).2.1 w'->CQ E ws C LIM Q (k-1) (b.once m).2.2 (b.once m).1 (b.once m).2.1 w')/\0<k:=by
 obtain⟨c,h1,h2,h4,h5,h6⟩:=h;obtain⟨hr,h3⟩:=h5 rfl;obtain⟨k,rfl⟩: ∃j,k=j+1:=⟨k-1,by omega⟩;have h3':=h3;unfold uw at h3';refine⟨⟨c,by omega,h1,by omega,by omega,λw' hs=>⟨c+1,hs,by omega,RN h4 m,λha=>⟨?_,?_⟩,?_⟩⟩,by omega⟩
 ·have:=ahL h4 (by have:=hs.ok.len.1;omega) ha;unfold rank at this hr |-;omega
 ·have:=(Z4 b m).2 ha;omega
 ·rw[h6,au rfl,aC.again,au he];rfl
theorem LD: ∀(k:Nat) (b:aC) (m:aO),uw (aC.again k b m)<=uw b+m.aL.size
 |0,b,m=>QJ _ _
 |k+1,b,m=>by
  rw[aC.again];have h:=Z4 b m;unfold UL at h;split
  ·split
   ·rename_i ha;have h1:=LD k (b.once m).1 (b.once m).2.1;have h2:=h.2 ha;omega
   ·exact h.1
  ·exact QJ _ _
theorem CU (s:ae):(qH s).size<=s.size:=by
 unfold qH Lib.trimPrefix;rw[Lib.size_mk];have h:s.data.toList.length=s.size:=by rw[IC];rfl
 split
 ·rw[dN];omega
 ·omega
theorem VQ (b:aC) (m:aO):(b.oV m).aL.size<=m.aL.size:=by
 unfold aC.oV;split
 ·exact CU _
 ·exact ay _
theorem aj' (b:aC) (m:aO):uw (b.GU m)<=uw b+m.aL.size:=by
 have h0:uw b.ready=uw b:=rfl;have h1:=VQ b m;have h2:=TW b.ready;unfold aC.GU;split
 ·omega
 ·split
  ·split
   ·omega
   ·have:=LD 9000 b.ready (b.oV m);omega
  ·split
   ·omega
   ·have:=LD 9000 b.ready.flush m;omega
theorem round_facts (h:SM E ws c s b m w):w.cell? ⟨E.bb,10,none⟩=some (.int .i64 b.dJ):=h.sx.bc.2.2.2.2.2.2.2.2.2.2
theorem agj {b:aC} {m:aO} (hk:m.aH=1) (he:(b.oV m).aL.toList.isEmpty=false):b.GU m=aC.again 9000 b.ready (b.oV m):=by
 unfold aC.GU;rw[aj (by omega),au hk,he];rfl
theorem agk {b:aC} {m:aO} (hk:m.aH=1) (he:(b.oV m).aL.toList.isEmpty=true):b.GU m=b.ready:=by
 unfold aC.GU;rw[aj (by omega),au hk,he];rfl
theorem aiL {b:aC} {m:aO} (hk:m.aH=2\/m.aH=3\/m.aH=6):b.GU m=aC.again 9000 b.ready.flush m:=by
 unfold aC.GU;rw[aj (by omega),aj (by omega),aj (by omega)]
theorem acZ {b:aC} {m:aO} (hk:m.aH=4\/m.aH=5):b.GU m=b.ready.flush:=by
 unfold aC.GU;rw[aj (by omega),aj (by omega),au (by omega)]
theorem aiM {b:aC} {m:aO} (hk:m.aH<1\/6<m.aH):b.GU m=b:=by
 unfold aC.GU;rw[au hk]
theorem F4 (h:SM E ws c s b m w):SM E ws c s b.ready m (((w.setCell ⟨E.bb,8,none⟩ (.int .i64 0)).setCell ⟨E.bb,9,none⟩ (.string ⟨#[]⟩)).setCell ⟨E.bb,7,none⟩ (.bool false)):=((h.raw 0).ah ⟨#[]⟩).skip false
theorem Za (h:SM E ws c 0 b m w) (hc:c<=1100) (hl:uw b+m.aL.size<=4611686018427387904) (hm:MD b):CQ E ws 10100 4611686018427387904 (aC.again 9000 b m) 9000 true b m w :=
 ⟨c,h,by omega,hm,λ_=>⟨by have:=ahQ b m (by have:=h.ok.len.1;omega);omega,hl⟩,rfl⟩
theorem Cz (h:SM E ws c s b m w):w.cell? ⟨E.bb,7,none⟩=some (.bool b.skip)/\w.cell? ⟨E.bb,8,none⟩=some (.int .i64 b.raw)/\w.cell? ⟨E.bb,9,none⟩=some (.string b.ah)/\w.frozen? ⟨E.bb,7,none⟩=false/\w.frozen? ⟨E.bb,8,none⟩=false/\w.frozen? ⟨E.bb,9,none⟩=false/\w.cell? ⟨E.mb,0,none⟩=some (.int .i64 m.aH)/\w.cell? ⟨E.mb,4,none⟩=some (.string m.aL)/\w.frozen? ⟨E.mb,4,none⟩=false :=
 ⟨h.sx.bc.2.2.2.2.2.2.2.1,h.sx.bc.2.2.2.2.2.2.2.2.1,h.sx.bc.2.2.2.2.2.2.2.2.2.1,h.sx.bf 7 (by omega),h.sx.bf 8 (by omega),h.sx.bf 9 (by omega),h.sx.mc.1,h.sx.mc.2.2.2.2,h.sx.mf.2⟩
theorem akX (h:sG E ws c 0 b w) (hm:MA (OB E) w m a ac) (hc:c<=1001) (hl:uw b+m.aL.size<=4611686018427387904) (hmd:MD b) (hk:m.aH=2\/m.aH=3\/m.aH=6) :
 Calls prog 23 #[.pointer (some ⟨E.bb,0,none⟩),nC m.aH m.ah a m.aA.length ac m.self m.aL] w λr w'=>r= .returned (.tuple #[])/\sG E ws 10100 0 (b.GU m) w':=by
 obtain⟨E1,w1,hbb,hmb,h1,hlv⟩:=h.in hm 39;have HLv:=hd' (λm' Q u (hu:SM E1 w1 10100 0 Q m' u)=>hlv _ _ _ _ _ hu);have HV:=hd' (aiL (b:=b) hk);have hf1:uw b.ready.flush+m.aL.size<=4611686018427387904:=by have h0:uw b.ready=uw b:=rfl;have:=TW b.ready;omega
 have hfm:MD b.ready.flush:=MD.same (b:=b) hmd (Ci b.ready).1 (Ci b.ready).2;obtain⟨hsk,d8,d9,q7,q8,q9,hk0, -, -⟩:=Cz h1;have HR1:=hd' (F4 h1);rw[hbb]at hsk d8 d9 q7 q8 q9 HR1;rw[hmb]at hk0
 have HFl:Hid (∀u,SM E1 w1 c 0 b.ready m u->Calls prog 36 #[.pointer (some ⟨E.bb,0,none⟩)] u λr w'=>r= .returned (.tuple #[])/\SM E1 w1 (c+1) 0 b.ready.flush m w'/\w'.cell? ⟨w.heap.size,0,none⟩=some (.int .i64 m.aH)):=hd' λu hu=>by
  rw[<-hbb,<-hmb];exact(VX hu (by omega) (by unfold uw at hl;show b.used+b.iJ.size<=_;omega)).mono λ_ _ ⟨hr,hs⟩=>⟨hr,hs,hs.sx.mc.1⟩
 have anM:=hd' (λu (hu:SM E1 w1 (c+1) 0 b.ready.flush m u)=>Za hu (by omega) hf1 hfm);generalize aC.again 9000 b.ready.flush m=Q at anM HV;generalize b.ready.flush=bf at *;generalize b.ready=br at *;obtain⟨k,hkk⟩: ∃k,k=m.aH:=⟨_,rfl⟩;have k1:1<=k:=by omega
 have k2:k<=6:=by omega
 have e1:(k==1)=false:=aV.2 (by omega);have e4:(k==4)=false:=aV.2 (by omega);have e5:(k==5)=false:=aV.2 (by omega);rw[<-hkk]at hk0 hsk d8 d9 q7 q8 q9 HFl HR1 |-;clear hkk hk h1 hlv hm hl hc hmd hf1 hfm;have HH:=hd' h;clear h;go_enter Aa,zZ
 go_wp2_with (go_at_call 36;refine(HFl.o' _ HR1.o').mono ?_;rintro e wf ⟨rfl,hf,hk1⟩;have HL0:=hd' (anM.o' _ hf);clear hf)
 go_loopg [5] 9000 (λg v wr=> ∃k ag b1 m1,k<=g/\v= .bool ag/\Hid (CQ E1 w1 10100 4611686018427387904 Q k ag b1 m1 wr))
 case atStart=>exact⟨9000,true,_,_,ay _,rfl,HL0⟩
 case round =>
  obtain⟨k,ag,b1,m1,hkg,rfl,HR⟩:=hrel;cases ag with
  |false =>
   obtain⟨hb1,hs1⟩:=HR.o'.off;have Tu:=hd' hs1;have HB1:=hd' hb1;clear hs1 hb1 HR;go_wp2_with fail
   (go_end0)
   exact⟨rfl,by rw[HV.o',<-HB1.o'];exact HLv.o' _ _ _ Tu.o'⟩
  |true =>
   by_cases he:b1.dJ=0
   ·obtain⟨⟨c1,hc1,h1,hu1,hw1,hnext⟩,hg⟩:=HR.o'.next he (by decide) (by decide);have Tu:=hd' h1;have HN:=hd' hnext;have d10:=round_facts h1;rw[he,hbb]at d10;have hT:=LJ h1.sx;rw[hbb]at hT;have HT:=hd' hT;have Kt:=hd' (uN h1.ok.at' b1.top).2;have WW:Hid (∀u sp,SM E1 w1 c1 0 b1 m1 u->Calls prog 38 #[.pointer (some ⟨E.bb,0,none⟩),.pointer (some ⟨w.heap.size,0,none⟩),.int .i64 sp] u λr w'=>r= .returned (.bool (b1.dE m1 sp).2.2)/\SM E1 w1 (c1+1) 0 (b1.dE m1 sp).1 (b1.dE m1 sp).2.1 w'):=hd' λu sp hu=>by rw[<-hbb,<-hmb];exact Fg hu hc1 hu1 hw1 sp
    have HRu:Hid (∀u,SM E1 w1 c1 0 b1 m1 u->Calls prog 39 #[.pointer (some ⟨E.bb,0,none⟩),.pointer (some ⟨w.heap.size,0,none⟩)] u λr w'=>r= .returned (.bool (b1.fE m1).2.2)/\SM E1 w1 (c1+1) 0 (b1.fE m1).1 (b1.fE m1).2.1 w'):=hd' λu hu=>by rw[<-hbb,<-hmb];exact BX hu hc1 hu1 hw1
    have HON:=hd' (aC.once.eq_1 b1 m1);have HG:=hd' hg;have HMl:=hd' (λu (hu:SM E1 w1 c1 0 b1 m1 u)=>hmb▸hu.sx.mc);have HW:=hd' (λu u' (hu:SM E1 w1 c1 0 b1 m1 u) (hb:Below u.heap.size u u')=>hu.world hb);have Oc:Hid (∀u,SX E1 w1 b1 m1 u->SM E1 w1 c1 0 b1 m1 u):=hd' λu hu=>⟨hu,h1.ok⟩
    clear h1 hnext he hg hu1 hw1 hc1 HR hT;generalize bW b1.S.T b1.top=ta at *;generalize b1.qm=sp at *;generalize b1.DK=nm at *;have ZL:=hd' (λ(a2:Option Addr) (ca2:Nat) (u:af) (hl:ta.length<=maxLen) (ha:At u a2 (bz ta))=>Cw sp nm ta a2 ca2 m1.aH m1.ah E1.a m1.aA.length E1.ac m1.self m1.aL u hl Kt.o' ha);generalize iA (gT sp nm ta) sp nm m1.aH m1.ah=tf at *;cases tf with
    |true =>
     have WV:Hid (b1.once m1=b1.dE m1 sp):=hd' (by rw[HON.o',au rfl]);rw[WV.o']at HN;clear HON HRu WV
     go_wp2_with (first
      |(go_at_call 28;refine HT.o'.mono ?_;rintro e w2 ⟨v,rfl,ho,hb,hx⟩;obtain⟨a2,ca2,rfl,hn2,hm2, -,lV⟩:=fJ ho;have Hl:=hd' (Oc.o' _ hx);have Tz:=hd' lV;obtain⟨g0,g1,g2,g3,g4⟩:=HMl.o' _ Hl.o';clear ho hb lV hx)
      |(go_at_call 37;refine(ZL.o' _ _ _ (by omega) Tz.o').mono ?_;rintro e w3 ⟨rfl,hb3⟩;have HX3:=hd' (HW.o' _ _ Hl.o' hb3);clear hb3)
      |(go_at_call 38;refine(WW.o' _ _ HX3.o').mono ?_;rintro e w4 ⟨rfl,h4⟩;have HX5:=hd' (HN.o' w4 h4);clear h4))
     go_roundg (k-1)
     case measure=>have:=HG.o';omega
     case rel=>exact⟨k-1,_,_,_,ay _,rfl,HX5⟩
    |false =>
     have WV:Hid (b1.once m1=b1.fE m1):=hd' (by rw[HON.o',aj (by decide)]);rw[WV.o']at HN;clear HON WW WV
     go_wp2_with (first
      |(go_at_call 28;refine HT.o'.mono ?_;rintro e w2 ⟨v,rfl,ho,hb,hx⟩;obtain⟨a2,ca2,rfl,hn2,hm2, -,lV⟩:=fJ ho;have Hl:=hd' (Oc.o' _ hx);have Tz:=hd' lV;obtain⟨g0,g1,g2,g3,g4⟩:=HMl.o' _ Hl.o';clear ho hb lV hx)
      |(go_at_call 37;refine(ZL.o' _ _ _ (by omega) Tz.o').mono ?_;rintro e w3 ⟨rfl,hb3⟩;have HX3:=hd' (HW.o' _ _ Hl.o' hb3);clear hb3)
      |(go_at_call 39;refine(HRu.o' _ HX3.o').mono ?_;rintro e w4 ⟨rfl,h4⟩;have HX5:=hd' (HN.o' w4 h4);clear h4))
     go_roundg (k-1)
     case measure=>have:=HG.o';omega
     case rel=>exact⟨k-1,_,_,_,ay _,rfl,HX5⟩
   ·obtain⟨hb1,hs1⟩:=HR.o'.dJ he;have d10:=round_facts hs1;rw[hbb]at d10;have hef:(b1.dJ==0)=false:=aV.2 he;have Tu:=hd' hs1;have HB1:=hd' hb1;clear hs1 hb1 HR he;go_wp2_with fail
    (go_end0)
    exact⟨rfl,by rw[HV.o',<-HB1.o'];exact HLv.o' _ _ _ Tu.o'⟩
theorem aiJ (h:sG E ws c 0 b w) (hm:MA (OB E) w m a ac) (hc:c<=1001) (hl:uw b+m.aL.size<=4611686018427387904) (hmd:MD b) (hk:m.aH=1) (he:(b.oV m).aL.toList.isEmpty=false) :
 Calls prog 23 #[.pointer (some ⟨E.bb,0,none⟩),nC m.aH m.ah a m.aA.length ac m.self m.aL] w λr w'=>r= .returned (.tuple #[])/\sG E ws 10100 0 (b.GU m) w':=by
 obtain⟨E1,w1,hbb,hmb,h1,hlv⟩:=h.in hm 39;have HLv:=hd' (λm' Q u (hu:SM E1 w1 10100 0 Q m' u)=>hlv _ _ _ _ _ hu);obtain⟨hsk,d8,d9,q7,q8,q9,hk0,ht0,qt⟩:=Cz h1;have HV:=hd' (agj hk he);have HR1:=hd' (F4 h1);have hhm:=VQ b m;cases hs:b.skip with
 |false =>
  have hh:b.oV m=m:=by unfold aC.oV;rw[hs];rfl
  rw[hh]at he HV;have HL0:=hd' (Za HR1.o' (by omega) hl (hmd.same rfl rfl));rw[hbb]at hsk d8 d9 q7 q8 q9 HL0;rw[hmb]at hk0 ht0;rw[hk]at hk0 ht0 hsk d8 d9 q7 q8 q9 HL0 |-;rw[hs]at hsk;generalize aC.again 9000 b.ready m=Q at HL0 HV;generalize b.ready=br at *;clear HR1 hk h1 hlv hm hl hc hmd hhm hh hs h;go_enter Aa,zZ
  go_wp2_with fail
  go_loopg [5] 9000 (λg v wr=> ∃k ag b1 m1,k<=g/\v= .bool ag/\Hid (CQ E1 w1 10100 4611686018427387904 Q k ag b1 m1 wr))
  case atStart=>exact⟨9000,true,_,_,ay _,rfl,HL0⟩
  case round =>
   obtain⟨k,ag,b1,m1,hkg,rfl,HR⟩:=hrel;cases ag with
   |false =>
    obtain⟨hb1,hs1⟩:=HR.o'.off;have Tu:=hd' hs1;have HB1:=hd' hb1;clear hs1 hb1 HR;go_wp2_with fail
    (go_end0)
    exact⟨rfl,by rw[HV.o',<-HB1.o'];exact HLv.o' _ _ _ Tu.o'⟩
   |true =>
    by_cases he:b1.dJ=0
    ·obtain⟨⟨c1,hc1,h1,hu1,hw1,hnext⟩,hg⟩:=HR.o'.next he (by decide) (by decide);have Tu:=hd' h1;have HN:=hd' hnext;have d10:=round_facts h1;rw[he,hbb]at d10;have hT:=LJ h1.sx;rw[hbb]at hT;have HT:=hd' hT;have Kt:=hd' (uN h1.ok.at' b1.top).2;have WW:Hid (∀u sp,SM E1 w1 c1 0 b1 m1 u->Calls prog 38 #[.pointer (some ⟨E.bb,0,none⟩),.pointer (some ⟨w.heap.size,0,none⟩),.int .i64 sp] u λr w'=>r= .returned (.bool (b1.dE m1 sp).2.2)/\SM E1 w1 (c1+1) 0 (b1.dE m1 sp).1 (b1.dE m1 sp).2.1 w'):=hd' λu sp hu=>by rw[<-hbb,<-hmb];exact Fg hu hc1 hu1 hw1 sp
     have HRu:Hid (∀u,SM E1 w1 c1 0 b1 m1 u->Calls prog 39 #[.pointer (some ⟨E.bb,0,none⟩),.pointer (some ⟨w.heap.size,0,none⟩)] u λr w'=>r= .returned (.bool (b1.fE m1).2.2)/\SM E1 w1 (c1+1) 0 (b1.fE m1).1 (b1.fE m1).2.1 w'):=hd' λu hu=>by rw[<-hbb,<-hmb];exact BX hu hc1 hu1 hw1
     have HON:=hd' (aC.once.eq_1 b1 m1);have HG:=hd' hg;have HMl:=hd' (λu (hu:SM E1 w1 c1 0 b1 m1 u)=>hmb▸hu.sx.mc);have HW:=hd' (λu u' (hu:SM E1 w1 c1 0 b1 m1 u) (hb:Below u.heap.size u u')=>hu.world hb);have Oc:Hid (∀u,SX E1 w1 b1 m1 u->SM E1 w1 c1 0 b1 m1 u):=hd' λu hu=>⟨hu,h1.ok⟩
     clear h1 hnext he hg hu1 hw1 hc1 HR hT;generalize bW b1.S.T b1.top=ta at *;generalize b1.qm=sp at *;generalize b1.DK=nm at *;have ZL:=hd' (λ(a2:Option Addr) (ca2:Nat) (u:af) (hl:ta.length<=maxLen) (ha:At u a2 (bz ta))=>Cw sp nm ta a2 ca2 m1.aH m1.ah E1.a m1.aA.length E1.ac m1.self m1.aL u hl Kt.o' ha);generalize iA (gT sp nm ta) sp nm m1.aH m1.ah=tf at *;cases tf with
     |true =>
      have WV:Hid (b1.once m1=b1.dE m1 sp):=hd' (by rw[HON.o',au rfl]);rw[WV.o']at HN;clear HON HRu WV
      go_wp2_with (first
       |(go_at_call 28;refine HT.o'.mono ?_;rintro e w2 ⟨v,rfl,ho,hb,hx⟩;obtain⟨a2,ca2,rfl,hn2,hm2, -,lV⟩:=fJ ho;have Hl:=hd' (Oc.o' _ hx);have Tz:=hd' lV;obtain⟨g0,g1,g2,g3,g4⟩:=HMl.o' _ Hl.o';clear ho hb lV hx)
       |(go_at_call 37;refine(ZL.o' _ _ _ (by omega) Tz.o').mono ?_;rintro e w3 ⟨rfl,hb3⟩;have HX3:=hd' (HW.o' _ _ Hl.o' hb3);clear hb3)
       |(go_at_call 38;refine(WW.o' _ _ HX3.o').mono ?_;rintro e w4 ⟨rfl,h4⟩;have HX5:=hd' (HN.o' w4 h4);clear h4))
      go_roundg (k-1)
      case measure=>have:=HG.o';omega
      case rel=>exact⟨k-1,_,_,_,ay _,rfl,HX5⟩
     |false =>
      have WV:Hid (b1.once m1=b1.fE m1):=hd' (by rw[HON.o',aj (by decide)]);rw[WV.o']at HN;clear HON WW WV
      go_wp2_with (first
       |(go_at_call 28;refine HT.o'.mono ?_;rintro e w2 ⟨v,rfl,ho,hb,hx⟩;obtain⟨a2,ca2,rfl,hn2,hm2, -,lV⟩:=fJ ho;have Hl:=hd' (Oc.o' _ hx);have Tz:=hd' lV;obtain⟨g0,g1,g2,g3,g4⟩:=HMl.o' _ Hl.o';clear ho hb lV hx)
       |(go_at_call 37;refine(ZL.o' _ _ _ (by omega) Tz.o').mono ?_;rintro e w3 ⟨rfl,hb3⟩;have HX3:=hd' (HW.o' _ _ Hl.o' hb3);clear hb3)
       |(go_at_call 39;refine(HRu.o' _ HX3.o').mono ?_;rintro e w4 ⟨rfl,h4⟩;have HX5:=hd' (HN.o' w4 h4);clear h4))
      go_roundg (k-1)
      case measure=>have:=HG.o';omega
      case rel=>exact⟨k-1,_,_,_,ay _,rfl,HX5⟩
    ·obtain⟨hb1,hs1⟩:=HR.o'.dJ he;have d10:=round_facts hs1;rw[hbb]at d10;have hef:(b1.dJ==0)=false:=aV.2 he;have Tu:=hd' hs1;have HB1:=hd' hb1;clear hs1 hb1 HR he;go_wp2_with fail
     (go_end0)
     exact⟨rfl,by rw[HV.o',<-HB1.o'];exact HLv.o' _ _ _ Tu.o'⟩
 |true =>
  have hh:b.oV m= {m with aL:=qH m.aL}:=by unfold aC.oV;rw[hs];rfl
  rw[hh]at he HV;obtain⟨m2,hm2⟩: ∃m2:aO,m2= {m with aL:=qH m.aL}:=⟨_,rfl⟩;have hR2:=HR1.o'.aL (qH m.aL) (CU _);have apG:m2.aL.size<=m.aL.size:=by rw[hm2];exact CU _
  rw[<-hm2]at hR2 HV;have HL0:=hd' (Za hR2 (by omega) (by show uw b+m2.aL.size<=_;omega) (hmd.same rfl rfl));have alf:Hid (∀u,Calls prog 35 #[.string m.aL,.string ⟨#[10]⟩] u λr w'=>r= .returned (.string (qH m.aL))/\w'=u):=hd' (λu=>BO m.aL ⟨#[10]⟩ u);have he':(qH m.aL).toList.isEmpty=false:=he;rw[hbb,hmb]at HL0;rw[hbb]at hsk d8 d9 q7 q8 q9;rw[hmb]at hk0 ht0 qt;rw[hk]at hk0 ht0 qt hsk d8 d9 q7 q8 q9 HL0 |-;rw[hs]at hsk;generalize aC.again 9000 b.ready m2=Q at HL0 HV;generalize b.ready=br at *;generalize qH m.aL=tx at *;clear HR1 hR2 hk h1 hlv hm hl hc hmd hhm hh hs h he hm2 apG;go_enter Aa,zZ
  go_wp2_with (go_at_call 35;refine(alf.o' _).mono ?_;rintro e wt ⟨rfl,rfl⟩)
  go_loopg [5] 9000 (λg v wr=> ∃k ag b1 m1,k<=g/\v= .bool ag/\Hid (CQ E1 w1 10100 4611686018427387904 Q k ag b1 m1 wr))
  case atStart=>exact⟨9000,true,_,_,ay _,rfl,HL0⟩
  case round =>
   obtain⟨k,ag,b1,m1,hkg,rfl,HR⟩:=hrel;cases ag with
   |false =>
    obtain⟨hb1,hs1⟩:=HR.o'.off;have Tu:=hd' hs1;have HB1:=hd' hb1;clear hs1 hb1 HR;go_wp2_with fail
    (go_end0)
    exact⟨rfl,by rw[HV.o',<-HB1.o'];exact HLv.o' _ _ _ Tu.o'⟩
   |true =>
    by_cases he:b1.dJ=0
    ·obtain⟨⟨c1,hc1,h1,hu1,hw1,hnext⟩,hg⟩:=HR.o'.next he (by decide) (by decide);have Tu:=hd' h1;have HN:=hd' hnext;have d10:=round_facts h1;rw[he,hbb]at d10;have hT:=LJ h1.sx;rw[hbb]at hT;have HT:=hd' hT;have Kt:=hd' (uN h1.ok.at' b1.top).2;have WW:Hid (∀u sp,SM E1 w1 c1 0 b1 m1 u->Calls prog 38 #[.pointer (some ⟨E.bb,0,none⟩),.pointer (some ⟨w.heap.size,0,none⟩),.int .i64 sp] u λr w'=>r= .returned (.bool (b1.dE m1 sp).2.2)/\SM E1 w1 (c1+1) 0 (b1.dE m1 sp).1 (b1.dE m1 sp).2.1 w'):=hd' λu sp hu=>by rw[<-hbb,<-hmb];exact Fg hu hc1 hu1 hw1 sp
     have HRu:Hid (∀u,SM E1 w1 c1 0 b1 m1 u->Calls prog 39 #[.pointer (some ⟨E.bb,0,none⟩),.pointer (some ⟨w.heap.size,0,none⟩)] u λr w'=>r= .returned (.bool (b1.fE m1).2.2)/\SM E1 w1 (c1+1) 0 (b1.fE m1).1 (b1.fE m1).2.1 w'):=hd' λu hu=>by rw[<-hbb,<-hmb];exact BX hu hc1 hu1 hw1
     have HON:=hd' (aC.once.eq_1 b1 m1);have HG:=hd' hg;have HMl:=hd' (λu (hu:SM E1 w1 c1 0 b1 m1 u)=>hmb▸hu.sx.mc);have HW:=hd' (λu u' (hu:SM E1 w1 c1 0 b1 m1 u) (hb:Below u.heap.size u u')=>hu.world hb);have Oc:Hid (∀u,SX E1 w1 b1 m1 u->SM E1 w1 c1 0 b1 m1 u):=hd' λu hu=>⟨hu,h1.ok⟩
     clear h1 hnext he hg hu1 hw1 hc1 HR hT;generalize bW b1.S.T b1.top=ta at *;generalize b1.qm=sp at *;generalize b1.DK=nm at *;have ZL:=hd' (λ(a2:Option Addr) (ca2:Nat) (u:af) (hl:ta.length<=maxLen) (ha:At u a2 (bz ta))=>Cw sp nm ta a2 ca2 m1.aH m1.ah E1.a m1.aA.length E1.ac m1.self m1.aL u hl Kt.o' ha);generalize iA (gT sp nm ta) sp nm m1.aH m1.ah=tf at *;cases tf with
     |true =>
      have WV:Hid (b1.once m1=b1.dE m1 sp):=hd' (by rw[HON.o',au rfl]);rw[WV.o']at HN;clear HON HRu WV
      go_wp2_with (first
       |(go_at_call 28;refine HT.o'.mono ?_;rintro e w2 ⟨v,rfl,ho,hb,hx⟩;obtain⟨a2,ca2,rfl,hn2,hm2, -,lV⟩:=fJ ho;have Hl:=hd' (Oc.o' _ hx);have Tz:=hd' lV;obtain⟨g0,g1,g2,g3,g4⟩:=HMl.o' _ Hl.o';clear ho hb lV hx)
       |(go_at_call 37;refine(ZL.o' _ _ _ (by omega) Tz.o').mono ?_;rintro e w3 ⟨rfl,hb3⟩;have HX3:=hd' (HW.o' _ _ Hl.o' hb3);clear hb3)
       |(go_at_call 38;refine(WW.o' _ _ HX3.o').mono ?_;rintro e w4 ⟨rfl,h4⟩;have HX5:=hd' (HN.o' w4 h4);clear h4))
      go_roundg (k-1)
      case measure=>have:=HG.o';omega
      case rel=>exact⟨k-1,_,_,_,ay _,rfl,HX5⟩
     |false =>
      have WV:Hid (b1.once m1=b1.fE m1):=hd' (by rw[HON.o',aj (by decide)]);rw[WV.o']at HN;clear HON WW WV
      go_wp2_with (first
       |(go_at_call 28;refine HT.o'.mono ?_;rintro e w2 ⟨v,rfl,ho,hb,hx⟩;obtain⟨a2,ca2,rfl,hn2,hm2, -,lV⟩:=fJ ho;have Hl:=hd' (Oc.o' _ hx);have Tz:=hd' lV;obtain⟨g0,g1,g2,g3,g4⟩:=HMl.o' _ Hl.o';clear ho hb lV hx)
       |(go_at_call 37;refine(ZL.o' _ _ _ (by omega) Tz.o').mono ?_;rintro e w3 ⟨rfl,hb3⟩;have HX3:=hd' (HW.o' _ _ Hl.o' hb3);clear hb3)
       |(go_at_call 39;refine(HRu.o' _ HX3.o').mono ?_;rintro e w4 ⟨rfl,h4⟩;have HX5:=hd' (HN.o' w4 h4);clear h4))
      go_roundg (k-1)
      case measure=>have:=HG.o';omega
      case rel=>exact⟨k-1,_,_,_,ay _,rfl,HX5⟩
    ·obtain⟨hb1,hs1⟩:=HR.o'.dJ he;have d10:=round_facts hs1;rw[hbb]at d10;have hef:(b1.dJ==0)=false:=aV.2 he;have Tu:=hd' hs1;have HB1:=hd' hb1;clear hs1 hb1 HR he;go_wp2_with fail
     (go_end0)
     exact⟨rfl,by rw[HV.o',<-HB1.o'];exact HLv.o' _ _ _ Tu.o'⟩
theorem aiK (h:sG E ws c 0 b w) (hm:MA (OB E) w m a ac) (hc:c<=1001) (hl:uw b+m.aL.size<=4611686018427387904) (hk:m.aH=1) (he:(b.oV m).aL.toList.isEmpty=true) :
 Calls prog 23 #[.pointer (some ⟨E.bb,0,none⟩),nC m.aH m.ah a m.aA.length ac m.self m.aL] w λr w'=>r= .returned (.tuple #[])/\sG E ws 10100 0 (b.GU m) w':=by
 obtain⟨E1,w1,hbb,hmb,h1,hlv⟩:=h.in hm 39;have HLv:=hd' (λm' Q u (hu:SM E1 w1 c 0 Q m' u)=>(hlv _ _ _ _ _ hu).more (show c<=10100 by omega) (vQ 0));have ajl:=hd' (λm' Q u (hu:SM E1 w1 (c+1) 0 Q m' u)=>(hlv _ _ _ _ _ hu).more (show c+1<=10100 by omega) (vQ 0));obtain⟨hsk,d8,d9,q7,q8,q9,hk0,ht0,qt⟩:=Cz h1;have HV:=hd' (agk hk he);have HR1:=hd' (F4 h1);cases hs:b.skip with
 |false =>
  have hh:b.oV m=m:=by unfold aC.oV;rw[hs];rfl
  rw[hh]at he;rw[hbb]at hsk d8 d9 q7 q8 q9 HR1;rw[hmb]at hk0 ht0;rw[hk]at hk0 ht0 hsk d8 d9 q7 q8 q9 HR1 |-;rw[hs]at hsk;generalize b.ready=br at *;clear hk h1 hlv hm hl hc hh hs h;go_enter Aa,zZ
  go_wp2_with fail
  (refine bU (oH rfl _ _ _) rfl ?_)
  exact⟨rfl,by rw[HV.o'];exact HLv.o' _ _ _ HR1.o'⟩
 |true =>
  have hh:b.oV m= {m with aL:=qH m.aL}:=by unfold aC.oV;rw[hs];rfl
  rw[hh]at he;have HR2:=hd' (HR1.o'.aL (qH m.aL) (CU _));have alf:Hid (∀u,Calls prog 35 #[.string m.aL,.string ⟨#[10]⟩] u λr w'=>r= .returned (.string (qH m.aL))/\w'=u):=hd' (λu=>BO m.aL ⟨#[10]⟩ u);have he':(qH m.aL).toList.isEmpty=true:=he;rw[hbb,hmb]at HR2;rw[hbb]at hsk d8 d9 q7 q8 q9;rw[hmb]at hk0 ht0 qt;have anX:=hd' (λu (hu:SM E1 w1 c 0 b.ready {m with aL:=qH m.aL} u)=>HLv.o' _ _ _ hu);generalize SM E1 w1 c 0 b.ready {m with aL:=qH m.aL}=SS at anX HR2;rw[hk]at hk0 ht0 qt hsk d8 d9 q7 q8 q9 HR2 |-;rw[hs]at hsk;generalize b.ready=br at *;generalize qH m.aL=tx at *;clear HR1 hk h1 hlv hm hl hc hh hs h he;go_enter Aa,zZ
  go_wp2_with (go_at_call 35;refine(alf.o' _).mono ?_;rintro e wt ⟨rfl,rfl⟩)
  (refine bU (oH rfl _ _ _) rfl ?_)
  exact⟨rfl,by rw[HV.o'];exact anX.o' _ HR2.o'⟩
theorem akY (h:sG E ws c 0 b w) (hm:MA (OB E) w m a ac) (hc:c<=1001) (hl:uw b+m.aL.size<=4611686018427387904) (hk:m.aH<1\/6<m.aH) :
 Calls prog 23 #[.pointer (some ⟨E.bb,0,none⟩),nC m.aH m.ah a m.aA.length ac m.self m.aL] w λr w'=>r= .returned (.tuple #[])/\sG E ws 10100 0 (b.GU m) w':=by
 obtain⟨E1,w1,hbb,hmb,h1,hlv⟩:=h.in hm 39;have HLv:=hd' (λm' Q u (hu:SM E1 w1 c 0 Q m' u)=>(hlv _ _ _ _ _ hu).more (show c<=10100 by omega) (vQ 0));have ajl:=hd' (λm' Q u (hu:SM E1 w1 (c+1) 0 Q m' u)=>(hlv _ _ _ _ _ hu).more (show c+1<=10100 by omega) (vQ 0));obtain⟨hsk,d8,d9,q7,q8,q9,hk0,ht0,qt⟩:=Cz h1;have HV:=hd' (aiM (b:=b) hk);have HR1:=hd' h1;rw[hmb]at hk0;obtain⟨k,hkk⟩: ∃k,k=m.aH:=⟨_,rfl⟩;rw[<-hkk]at hk0 hk HR1 |-;clear hkk h1 hlv hm hl hc h hsk d8 d9 q7 q8 q9 ht0 qt;by_cases k1:k<1
 ·clear hk;go_enter Aa,zZ
  go_wp2_with fail
  (refine bU (oH rfl _ _ _) rfl ?_)
  exact⟨rfl,by rw[HV.o'];exact HLv.o' _ _ _ HR1.o'⟩
 ·have k6:6<k:=by omega
  clear hk;go_enter Aa,zZ
  go_wp2_with fail
  (refine bU (oH rfl _ _ _) rfl ?_)
  exact⟨rfl,by rw[HV.o'];exact HLv.o' _ _ _ HR1.o'⟩
theorem agf (h:sG E ws c 0 b w) (hm:MA (OB E) w m a ac) (hc:c<=1001) (hl:uw b+m.aL.size<=4611686018427387904) (hk:m.aH=4\/m.aH=5) :
 Calls prog 23 #[.pointer (some ⟨E.bb,0,none⟩),nC m.aH m.ah a m.aA.length ac m.self m.aL] w λr w'=>r= .returned (.tuple #[])/\sG E ws 10100 0 (b.GU m) w':=by
 obtain⟨E1,w1,hbb,hmb,h1,hlv⟩:=h.in hm 39;have HLv:=hd' (λm' Q u (hu:SM E1 w1 c 0 Q m' u)=>(hlv _ _ _ _ _ hu).more (show c<=10100 by omega) (vQ 0));have ajl:=hd' (λm' Q u (hu:SM E1 w1 (c+1) 0 Q m' u)=>(hlv _ _ _ _ _ hu).more (show c+1<=10100 by omega) (vQ 0));obtain⟨hsk,d8,d9,q7,q8,q9,hk0,ht0,qt⟩:=Cz h1;have HV:=hd' (acZ (b:=b) hk);have HR1:=hd' (F4 h1);rw[hbb]at hsk d8 d9 q7 q8 q9 HR1;rw[hmb]at hk0
 have HFl:Hid (∀u,SM E1 w1 c 0 b.ready m u->Calls prog 36 #[.pointer (some ⟨E.bb,0,none⟩)] u λr w'=>r= .returned (.tuple #[])/\SM E1 w1 (c+1) 0 b.ready.flush m w'/\w'.cell? ⟨w.heap.size,0,none⟩=some (.int .i64 m.aH)):=hd' λu hu=>by
  rw[<-hbb,<-hmb];exact(VX hu (by omega) (by unfold uw at hl;show b.used+b.iJ.size<=_;omega)).mono λ_ _ ⟨hr,hs⟩=>⟨hr,hs,hs.sx.mc.1⟩
 generalize b.ready.flush=bf at *;generalize b.ready=br at *;obtain⟨k,hkk⟩: ∃k,k=m.aH:=⟨_,rfl⟩;rw[<-hkk]at hk0 hk hsk d8 d9 q7 q8 q9 HFl HR1 |-;clear hkk h1 hlv hm hl hc h ht0 qt;have e1:(k==1)=false:=aV.2 (by omega);rcases hk with hk|hk
 ·subst hk;go_enter Aa,zZ
  go_wp2_with (go_at_call 36;refine(HFl.o' _ HR1.o').mono ?_;rintro e wf ⟨rfl,hf,hk1⟩;have H1:=hd' hf;clear hf)
  (refine bU (oH rfl _ _ _) rfl ?_)
  exact⟨rfl,by rw[HV.o'];exact ajl.o' _ _ _ H1.o'⟩
 ·subst hk;go_enter Aa,zZ
  go_wp2_with (go_at_call 36;refine(HFl.o' _ HR1.o').mono ?_;rintro e wf ⟨rfl,hf,hk1⟩;have H1:=hd' hf;clear hf)
  (refine bU (oH rfl _ _ _) rfl ?_)
  exact⟨rfl,by rw[HV.o'];exact ajl.o' _ _ _ H1.o'⟩
theorem agh (h:sG E ws c 0 b w) (hm:MA (OB E) w m a ac) (hc:c<=1001) (hl:uw b+m.aL.size<=4611686018427387904) (hmd:MD b) :
 Calls prog 23 #[.pointer (some ⟨E.bb,0,none⟩),nC m.aH m.ah a m.aA.length ac m.self m.aL] w λr w'=>r= .returned (.tuple #[])/\sG E ws 10100 0 (b.GU m) w':=by
 by_cases h0:m.aH<1\/6<m.aH
 ·exact akY h hm hc hl h0
 by_cases h1:m.aH=1
 ·cases he:(b.oV m).aL.toList.isEmpty with
  |true=>exact aiK h hm hc hl h1 he
  |false=>exact aiJ h hm hc hl hmd h1 he
 by_cases h2:m.aH=4\/m.aH=5
 ·exact agf h hm hc hl h2
 exact akX h hm hc hl hmd (by omega)
theorem MZ: ∀(k:Nat) (b:aC) (m:aO),MD b->MD (aC.again k b m)
 |0,_,_,h=>h
 |k+1,b,m,h=>by
  rw[aC.again];exact MD.ite (λ_=>MD.ite (λ_=>MZ k _ _ (RN h m)) λ_=>RN h m) λ_=>h
theorem akq (h:MD b) (m:aO):MD (b.GU m):=by
 have h1:MD b.ready:=h.same rfl rfl;have h2:MD b.ready.flush:=h1.same (Ci _).1 (Ci _).2;unfold aC.GU;exact MD.ite (λ_=>h) λ_=>MD.ite (λ_=>MD.ite (λ_=>h1) λ_=>MZ _ _ _ h1) λ_=>MD.ite (λ_=>h2) λ_=>MZ _ _ _ h2
end
end
theorem Wz (aH aN:Int) (ah:ae) (a:Option Addr) (an ac:Nat) (aL:ae) (ka:Option Addr) (kc:Nat) (aP:List NT) (css:List (List ak)) (w:af)
 (k1:aP.length<=kc) (k2:kc<=maxLen) (k4:rX pG w ka css.flatten) (hl:css.length=aP.length) (hk: ∀i (h:i<css.length) (h':i<aP.length),gq pG w css[i] aP[i]) (hm:1+gp aP<=1000000000000)
 (ih: ∀j (h:j<aP.length) (cs:List ak) (u:af),gq pG u cs aP[j]->Calls prog 7 #[.agg cs.toArray] u λe u'=>e= .returned (.int .i64 (fT aP[j]))/\Below u.heap.size u u') :
 Calls prog 7 #[.agg #[.int .i64 aH,.int .i64 aN,.string ah,.slice a an ac,.string aL,.slice ka aP.length kc]] w λe w'=>e= .returned (.int .i64 ((1+gp aP:Nat):Int))/\Below w.heap.size w w':=by
 have Bw:=hd' k4;have HK:=hd' hk;have HIH:=hd' ih;have HL:=hd' hl;have hB:=eU w (.cells #[.int .i64 aH,.int .i64 aN,.string ah,.slice a an ac,.string aL,.slice ka aP.length kc] 26);have hb:=(aQ w.heap.size w).alloc (ay _) (.cells #[.int .i64 aH,.int .i64 aN,.string ah,.slice a an ac,.string aL,.slice ka aP.length kc] 26);unfold maxLen at k2;have hkc:aP.length<=9223372036854775807:=by omega
 clear k4 hk ih hl;go_enter func7,ntmps7
 go_wp2_with fail
 generalize w.alloc (.cells #[.int .i64 aH,.int .i64 aN,.string ah,.slice a an ac,.string aL,.slice ka aP.length kc] 26)=w1 at *;have HB:=hd' hB;have HB1:=hd' hb;clear hB hb;go_loopw [9,3] (λi s wr=> ∃j:Nat,j<=aP.length/\i= .int .i64 j/\(∃acc:Nat,acc=1+gp (aP.take j)/\s= .int .i64 acc)/\Below w1.heap.size w1 wr) (λi _ _=>aP.length-(intOf i).toNat)
 case atStart=>exact⟨0,bD _,rfl,⟨1,rfl,rfl⟩,aQ _ _⟩
 case round =>
  obtain⟨j,hj,rfl,⟨acc,hacc,rfl⟩,hbr⟩:=hrel;have nJ:=hd' hbr;have Od:=hd' (HB1.o'.trans (hbr.mono HB1.o'.size));have TA:=hd' hacc;clear hacc hbr;by_cases hlt:j<aP.length
  ·have hlt':j<css.length:=by rw[HL.o'];exact hlt
   have Fw:=az.bC (F:=pG) Od.o';have qg:=(HK.o' j hlt' hlt).kept Fw;have OL:=hd' (λo:Obj=>(HK.o' j hlt' hlt).kept (az.bC (F:=pG) (Od.o'.alloc Od.o'.size o)))
   have h6: ∀c∈css,c.length=6:=by
    intro c hc;obtain⟨i,hi,rfl⟩:=pR hc;exact(HK.o' i hi (by rw[<-HL.o'];exact hi)).len
   obtain⟨f0,f1,f2,f3,f4,f5,f6,f7,f8,f9,he⟩:=kV qg;obtain⟨b,o,rfl,e0,e1,e2,e3,e4,e5⟩:=uG h6 (Bw.o'.kept Fw) hlt' he;rw[he]at OL;have HC:=hd' (λo:Obj=>HIH.o' j hlt _ (wr.alloc o) (OL.o' o));unfold iF at HC;have hc1:=Wi aP j hlt;have hc2:=CF aP (j+1)
   have hw1:IntKind.i64.wrap ((acc:Int)+(fT aP[j]:Int))=(acc:Int)+(fT aP[j]:Int):=by
    have:=TA.o';rw[qG];omega
   have HN:Hid (acc+fT aP[j]=1+gp (aP.take (j+1))):=hd' (by rw[TA.o',hc1];omega);clear Fw qg h6 he hc1 hc2;go_wp2_with fail
   refine(HC.o' _).mono ?_;rintro e w2 ⟨rfl,hb2⟩;have HB2:=hd' (aK ((nJ.o').alloc nJ.o'.size _) hb2);clear hb2;go_wp2_with fail
   go_roundw
   case rel=>exact⟨j+1,by omega,by go_num,⟨acc+fT aP[j],HN.o',by simp⟩,HB2.o'⟩
   case measure=>simp[intOf];omega
  ·have he:aP.take j=aP:=iH (by omega);go_wp2_with fail
   go_ret;refine⟨?_,Od.o'⟩;rw[TA.o',he];rfl
theorem Fv: ∀(m:Nat) (n:NT) (w:af) (cs:List ak),fT n<=m->m<=1000000000000->gq pG w cs n->Calls prog 7 #[.agg cs.toArray] w λe w'=>e= .returned (.int .i64 (fT n))/\Below w.heap.size w w'
 |0,.mk _ _ _ _ _ _,_,_,h,_,_=>by
  rw[fT]at h;omega
 |m+1,n,w,cs,h,hm,hn=>by
  cases hn with
  | @mk aH aN ah a c aA aL ka kc aP css h1 h2 h3 h4 k1 k2 k3 k4 hl hk =>
    rw[fT]at h |-;refine Wz aH aN ah a aA.length c aL ka kc aP css w k1 k2 k4 hl hk (by omega) ?_;intro j hj cs u hc;have:=uL aP aP[j] (kH hj);exact Fv m aP[j] u cs (by omega) (by omega) hc
mutual
def mW:NT->Nat
 | .mk _ _ _ _ _ aP=>jN aP+1
def jN:List NT->Nat
 | []=>0
 |x::r=>max (mW x) (jN r)
end
theorem D5: ∀(l r:List NT),jN (l++r)=max (jN l) (jN r)
 | [],r=>by simp[jN]
 |x::l,r=>by
  rw[mq,jN,jN,D5 l r,Nat.max_assoc]
theorem We (l:List NT) (j:Nat) (h:j<l.length):jN (l.take (j+1))=max (jN (l.take j)) (mW l[j]):=by
 have:l.take (j+1)=l.take j++ [l[j]]:=by rw[QN];simp[h]
 rw[this,D5];simp[jN]
mutual
theorem Ny: ∀n:NT,mW n<=fT n
 | .mk _ _ _ _ _ aP=>by rw[mW,fT];have:=uK aP;omega
theorem uK: ∀l:List NT,jN l<=gp l
 | []=>ay _
 |x::r=>by rw[jN,gp];have:=Ny x;have:=uK r;omega
end
theorem Wy (aH aN:Int) (ah:ae) (a:Option Addr) (an ac:Nat) (aL:ae) (ka:Option Addr) (kc:Nat) (aP:List NT) (css:List (List ak)) (w:af)
 (k1:aP.length<=kc) (k2:kc<=maxLen) (k4:rX pG w ka css.flatten) (hl:css.length=aP.length) (hk: ∀i (h:i<css.length) (h':i<aP.length),gq pG w css[i] aP[i]) (hm:1+gp aP<=1000000000000)
 (ih: ∀j (h:j<aP.length) (cs:List ak) (u:af),gq pG u cs aP[j]->Calls prog 8 #[.agg cs.toArray] u λe u'=>e= .returned (.int .i64 (mW aP[j]))/\Below u.heap.size u u') :
 Calls prog 8 #[.agg #[.int .i64 aH,.int .i64 aN,.string ah,.slice a an ac,.string aL,.slice ka aP.length kc]] w λe w'=>e= .returned (.int .i64 ((jN aP+1:Nat):Int))/\Below w.heap.size w w':=by
 have Bw:=hd' k4;have HK:=hd' hk;have HIH:=hd' ih;have HL:=hd' hl;have hB:=eU w (.cells #[.int .i64 aH,.int .i64 aN,.string ah,.slice a an ac,.string aL,.slice ka aP.length kc] 26);have hb:=(aQ w.heap.size w).alloc (ay _) (.cells #[.int .i64 aH,.int .i64 aN,.string ah,.slice a an ac,.string aL,.slice ka aP.length kc] 26);unfold maxLen at k2;have hkc:aP.length<=9223372036854775807:=by omega
 clear k4 hk ih hl;go_enter func8,ntmps8
 go_wp2_with fail
 generalize w.alloc (.cells #[.int .i64 aH,.int .i64 aN,.string ah,.slice a an ac,.string aL,.slice ka aP.length kc] 26)=w1 at *;have HB:=hd' hB;have HB1:=hd' hb;clear hB hb;go_loopw [9,3] (λi s wr=> ∃j:Nat,j<=aP.length/\i= .int .i64 j/\(∃acc:Nat,acc=jN (aP.take j)/\s= .int .i64 acc)/\Below w1.heap.size w1 wr) (λi _ _=>aP.length-(intOf i).toNat)
 case atStart=>exact⟨0,bD _,rfl,⟨0,rfl,rfl⟩,aQ _ _⟩
 case round =>
  obtain⟨j,hj,rfl,⟨acc,hacc,rfl⟩,hbr⟩:=hrel;have nJ:=hd' hbr;have Od:=hd' (HB1.o'.trans (hbr.mono HB1.o'.size));have TA:=hd' hacc;clear hacc hbr;by_cases hlt:j<aP.length
  ·have hlt':j<css.length:=by rw[HL.o'];exact hlt
   have Fw:=az.bC (F:=pG) Od.o';have qg:=(HK.o' j hlt' hlt).kept Fw;have OL:=hd' (λo:Obj=>(HK.o' j hlt' hlt).kept (az.bC (F:=pG) (Od.o'.alloc Od.o'.size o)))
   have h6: ∀c∈css,c.length=6:=by
    intro c hc;obtain⟨i,hi,rfl⟩:=pR hc;exact(HK.o' i hi (by rw[<-HL.o'];exact hi)).len
   obtain⟨f0,f1,f2,f3,f4,f5,f6,f7,f8,f9,he⟩:=kV qg;obtain⟨b,o,rfl,e0,e1,e2,e3,e4,e5⟩:=uG h6 (Bw.o'.kept Fw) hlt' he;rw[he]at OL;have HC:=hd' (λo:Obj=>HIH.o' j hlt _ (wr.alloc o) (OL.o' o));unfold iF at HC;have hc1:=We aP j hlt;obtain⟨d,hd⟩: ∃d,d=mW aP[j]:=⟨_,rfl⟩;rw[<-hd]at HC hc1;have hmx:max (acc:Int) (d:Int)=((max acc d:Nat):Int):=by omega
   have HN:Hid (max acc d=jN (aP.take (j+1))):=hd' (by rw[TA.o',hc1]);clear Fw qg h6 he hc1 hd;go_wp2_with fail
   refine(HC.o' _).mono ?_;rintro e w2 ⟨rfl,hb2⟩;have HB2:=hd' (aK ((nJ.o').alloc nJ.o'.size _) hb2);clear hb2;go_wp2_with fail
   go_roundw
   case rel=>exact⟨j+1,by omega,by go_num,⟨max acc d,HN.o',by first|(simp;done)|(simp;split <;>omega)⟩,HB2.o'⟩
   case measure=>simp[intOf];omega
  ·have he:aP.take j=aP:=iH (by omega);have hle:=uK aP;have hax:acc=jN aP:=by rw[TA.o',he]
   have hw1:IntKind.i64.wrap ((acc:Int)+1)=((acc+1:Nat):Int):=by rw[qG];omega
   have HAx:=hd' hax;have hac:(acc:Int)<=1000000000000:=by omega
   clear hax hle he;go_wp2_with fail
   go_ret;refine⟨?_,Od.o'⟩;rw[<-HAx.o'];rfl
theorem xS: ∀(m:Nat) (n:NT) (w:af) (cs:List ak),fT n<=m->m<=1000000000000->gq pG w cs n->Calls prog 8 #[.agg cs.toArray] w λe w'=>e= .returned (.int .i64 (mW n))/\Below w.heap.size w w'
 |0,.mk _ _ _ _ _ _,_,_,h,_,_=>by
  rw[fT]at h;omega
 |m+1,n,w,cs,h,hm,hn=>by
  cases hn with
  | @mk aH aN ah a c aA aL ka kc aP css h1 h2 h3 h4 k1 k2 k3 k4 hl hk =>
    rw[fT]at h;rw[mW];refine Wy aH aN ah a aA.length c aL ka kc aP css w k1 k2 k4 hl hk (by omega) ?_;intro j hj cs u hc;have:=uL aP aP[j] (kH hj);exact xS m aP[j] u cs (by omega) (by omega) hc
section
theorem Rs {fn:Func} {p:Tmp} {ty:TypeId} (h:fn.results= #[.cell p ty]) (tmps:Array ak) (P:Program) (w:af) :
 (results fn tmps).run P w=((asAddr (tmps.getD p undef)).run P w).andThen λa w₁=>(loadVar ty a).run P w₁:=by
 simp only[results,h];simp[Sem.run_bind,Result.andThen]
theorem ahM {P:Program} {fn:Func} {p:Tmp} {ty:TypeId} (h:fn.results= #[.cell p ty]) (tmps:Array ak) (w:af) (g:Nat) (t:TypeId) (cs:Array ak) (fr:Nat×Nat) (d:TypeDesc)
 (hp:tmps.getD p undef= .pointer (some ⟨g,0,none⟩)) (hg:w.heap[g]?=some (.cells cs t fr))
 (hu:P.underlying ty=some d) (hd:(match d with| .struct _| .array _ _=>true|_=>false)=true) (hi:(P.info? ty).map (·.size)=some cs.size) :
 (results fn tmps).run P w= .ok (.agg cs) w:=by
 have hp':tmps.getD p undef= .pointer (some ⟨g,0,none⟩):=hp;rw[Rs h,hp'];simp[asAddr,Result.andThen,QA w g t ty cs fr d hg hu hd hi]
theorem aad: ∀(css:List (List ak)) (j:Nat) (v0 v1 v2 v3 v4 v5:ak),(∀c∈css,c.length=6)->j<css.length ->
 ((((((css.flatten.set (j*6) v0).set (j*6+1) v1).set (j*6+2) v2).set (j*6+3) v3).set (j*6+4) v4).set (j*6+5) v5)=(css.set j [v0,v1,v2,v3,v4,v5]).flatten
 | [],_,_,_,_,_,_,_,_,h=>by simp at h
 |c::r,0,v0,v1,v2,v3,v4,v5,h,_=>by
  have h6:=h c dR
  match c,h6 with
  | [a0,a1,a2,a3,a4,a5],_=>simp
 |c::r,j+1,v0,v1,v2,v3,v4,v5,h,hj=>by
  have h6:=h c dR;have ih:=aad r j v0 v1 v2 v3 v4 v5 (λx hx=>h x (gm _ hx)) (by simpa using hj);rw[dK,yL,yL,<-ih]
  have e: ∀(x:List ak) (i:Nat) (v:ak),(c++x).set ((j+1)*6+i) v=c++x.set (j*6+i) v:=λx i v=>by
   rw[Ei _ _ (by omega),h6];congr 2;omega
  have e0: ∀(x:List ak) (v:ak),(c++x).set ((j+1)*6) v=c++x.set (j*6) v:=λx v=>e x 0 v
  rw[e0,e,e,e,e,e]
def uA (w:af) (g o:Nat) (u0 u1 u2 u3 u4 u5:ak):af :=
 (((((w.setCell ⟨g,o,none⟩ u0).setCell ⟨g,o+1,none⟩ u1).setCell ⟨g,o+2,none⟩ u2).setCell ⟨g,o+3,none⟩ u3).setCell ⟨g,o+4,none⟩ u4).setCell ⟨g,o+5,none⟩ u5
theorem Am {F:Nat->Prop} {w2 w4:af} {g o:Nat} (u0 u1 u2 u3 u4 u5:ak) (hk:az F w2 w4) (hO:F g\/w2.heap.size<=g):az F w2 (uA w4 g o u0 u1 u2 u3 u4 u5) :=
 (((((hk.set (p:=⟨g,o,none⟩) hO u0).set (p:=⟨g,o+1,none⟩) hO u1).set (p:=⟨g,o+2,none⟩) hO u2).set (p:=⟨g,o+3,none⟩) hO u3).set (p:=⟨g,o+4,none⟩) hO u4).set (p:=⟨g,o+5,none⟩) hO u5
structure CL (w:af) (O N0 K:Nat) (V:Array ak) (a2:Option Addr) (Ba:List dD) (n:Nat) (aP:List NT) (j:Nat) (css:List (List ak)) (wr:af):Prop where
 cell:wr.heap[O]?=some (.cells V 26 (0,0))
 res:wr.heap[O+1]?=some (.cells #[.int .i64 0,.int .i64 0,.string ⟨#[]⟩,.slice none 0 0,.string ⟨#[]⟩,.slice none 0 0] 26 (0,0))
 own:wr.ownsRow N0 26 6 (.slice (some ⟨K,0,none⟩) n n) n css.flatten
 six: ∀c∈css,c.length=6
 len:css.length=n
 aP: ∀i (h:i<css.length) (h':i<aP.length),i<j->gq (λb=>b<N0\/b=K) wr css[i] aP[i]
 Bz:rX (λk=>k<O+2\/k=K) wr a2 (bz Ba)
 below:Below w.heap.size w wr
section
variable {w wr:af} {O N0 K n:Nat} {V:Array ak} {a2:Option Addr} {Ba:List dD} {aP:List NT} {j:Nat} {css:List (List ak)}
theorem CL.world {w':af} (h:CL w O N0 K V a2 Ba n aP j css wr) (hb:Below wr.heap.size wr w'):CL w O N0 K V a2 Ba n aP j css w' where
 cell:=(hb.block O (fZ h.cell)).trans h.cell
 res:=(hb.block (O+1) (fZ h.res)).trans h.res
 own:=own_below h.own hb
 six:=h.six
 len:=h.len
 aP:=λi h1 h2 h3=>(h.aP i h1 h2 h3).kept (az.bC hb)
 Bz:=h.Bz.kept (az.bC hb)
 below:=aK h.below hb
theorem CL.push {v0 v1 v2 v3 v4 v5:ak} (h:CL w O N0 K V a2 Ba n aP j css wr) (hw:w.heap.size<=O) (hO:O+2<=N0) (hj:j<aP.length) (hn:n=aP.length) (hcs:gq (λb=>b<N0\/b=K) wr [v0,v1,v2,v3,v4,v5] aP[j]) :
 CL w O N0 K V a2 Ba n aP (j+1) (css.set j [v0,v1,v2,v3,v4,v5]) (uA wr K (j*6) v0 v1 v2 v3 v4 v5):=by
 have hK:N0<=K:=(h.own.lt K rfl).1;have hk1:az (λb=>b=K) wr (uA wr K (j*6) v0 v1 v2 v3 v4 v5):=Am _ _ _ _ _ _ (az.refl _ _) (.inl rfl);have hk2:az (λb=>b<N0\/b=K) wr (uA wr K (j*6) v0 v1 v2 v3 v4 v5):=hk1.mono λ_ _ hx=> .inr hx
 refine⟨(hk1.block O (fZ h.cell) (by omega)).trans h.cell,(hk1.block (O+1) (fZ h.res) (by omega)).trans h.res,?_,?_,by rw[nR];exact h.len,?_,h.Bz.kept (hk1.mono λ_ _ hx=> .inr hx),?_⟩
 ·have hs:=(((((h.own.stored (j*6) v0).1.stored (j*6+1) v1).1.stored (j*6+2) v2).1.stored (j*6+3) v3).1.stored (j*6+4) v4).1.stored (j*6+5) v5;have hs1:=hs.1;rw[aad css j v0 v1 v2 v3 v4 v5 h.six (by rw[h.len,hn];exact hj)]at hs1;exact hs1
 ·intro c hc;rcases Xd hc with hc|hc
  ·exact h.six c hc
  ·rw[hc];rfl
 ·intro i h1 h2 h3;have hl:i<css.length:=by simpa using h1
  by_cases hij:i=j
  ·subst hij;rw[List.getElem_set_self];exact hcs.kept hk2
  ·rw[List.getElem_set_ne (λe=>hij e.symm)];exact(h.aP i hl h2 (by omega)).kept hk2
 ·have hb:=h.below;exact(((((hb.setCell (p:=⟨K,j*6,none⟩) (by show _<=K;omega) v0).setCell (p:=⟨K,j*6+1,none⟩) (by show _<=K;omega) v1).setCell (p:=⟨K,j*6+2,none⟩) (by show _<=K;omega) v2).setCell (p:=⟨K,j*6+3,none⟩) (by show _<=K;omega) v3).setCell (p:=⟨K,j*6+4,none⟩) (by show _<=K;omega) v4).setCell (p:=⟨K,j*6+5,none⟩) (by show _<=K;omega) v5
theorem CL.start {w2 w3:af} {u0 u1 u2 u3 u4 u5 v:ak} (h1:w2.heap[O]?=some (.cells #[u0,u1,u2,u3,u4,u5] 26 (0,0))) (h2:w2.heap[O+1]?=some (.cells #[.int .i64 0,.int .i64 0,.string ⟨#[]⟩,.slice none 0 0,.string ⟨#[]⟩,.slice none 0 0] 26 (0,0)))
 (hg:(w2.setCell ⟨O,3,none⟩ v).grownBy w3 none) (ho:w3.ownsRow w2.heap.size 26 6 (.slice (some ⟨(w2.setCell ⟨O,3,none⟩ v).heap.size,0,none⟩) n n) n css.flatten) (h6: ∀c∈css,c.length=6) (hl:css.length=n)
 (ha:rX (λk=>k<O+2) w2 a2 (bz Ba)) (hb:Below w.heap.size w w2) (hw:w.heap.size<=O):CL w O w2.heap.size w2.heap.size #[u0,u1,u2,v,u4,u5] a2 Ba n aP 0 css w3:=by
 have hlt:=fZ h1;have hs:(w2.setCell ⟨O,3,none⟩ v).heap.size=w2.heap.size:=pK ..;rw[hs]at ho;have hk1:az (λk=>k=O) w2 (w2.setCell ⟨O,3,none⟩ v):=az.set (F:=λk=>k=O) (az.refl _ w2) (p:=⟨O,3,none⟩) (.inl rfl) v;have hk2:az (λ_=>False) (w2.setCell ⟨O,3,none⟩ v) w3:=⟨hg.os,hg.tape,hg.output,hg.size,λk hk _=>hg.block k hk (by simp)⟩;have hk3:az (λk=>k=O) w2 w3:=hk1.trans (hk2.mono λ_ _ hx=>hx.elim);refine⟨?_,(hk3.block _ (fZ h2) (by omega)).trans h2,ho,h6,hl,λ_ _ _ h=>by omega,?_,?_⟩
 ·refine(hk2.block O (by rw[hs];exact hlt) (λh=>h)).trans ?_;rw[mr (i:=3) h1];rfl
 ·have h3:=ha.kept (hk3.mono λk hk hx=>by show k<O+2;have:k=O:=hx;omega);have h4:rX (λk=>k<O+2\/k=w2.heap.size) w2 a2 (bz Ba):=ha.other λb hb hx=>hx.elim id λhx=>absurd hx (by omega)
  exact h4.kept (hk3.mono λk hk hx=>by have:k=O:=hx;exact .inl (by omega))
 ·exact(hb.setCell (p:=⟨O,3,none⟩) hw v).grown hg (by rw[hs];exact hb.size) (λk hk=>by cases hk)
theorem CL.done {u0 u1:Int} {u2 u4:ae} {c2:Nat} {u5 v:ak} (h:CL w O N0 K #[.int .i64 u0,.int .i64 u1,.string u2,.slice a2 Ba.length c2,.string u4,u5] a2 Ba n aP n css wr) (hw:w.heap.size<=O) (hO:O+2<=N0) (hn:n=aP.length) (hm:n<=maxLen)
 (hq:Ba.length<=c2/\c2<=maxLen/\(a2=none->c2=0)) (x0 x1 x2 x3 x4 x5:ak):gq (· <w.heap.size) (uA (wr.setCell ⟨O,5,none⟩ v) (O+1) 0 x0 x1 x2 x3 x4 x5) (iF u0 u1 u2 a2 Ba.length c2 u4 (some ⟨K,0,none⟩) aP.length aP.length) (.mk u0 u1 u2 Ba u4 aP) /\
   Below w.heap.size w (uA (wr.setCell ⟨O,5,none⟩ v) (O+1) 0 x0 x1 x2 x3 x4 x5):=by
 subst hn;have hK:N0<=K:=(h.own.lt K rfl).1
 have hk1:az (λk=>k<O+2) wr (uA (wr.setCell ⟨O,5,none⟩ v) (O+1) 0 x0 x1 x2 x3 x4 x5) :=
  Am _ _ _ _ _ _ (az.set (F:=λk=>k<O+2) (az.refl _ wr) (p:=⟨O,5,none⟩) (.inl (by show O<O+2;omega)) v) (.inl (by show O+1<O+2;omega))
 refine⟨.mk css hq.1 hq.2.1 hq.2.2 ?_ (ay _) hm (λe=>by cases e) ?_ h.len ?_,?_⟩
 ·exact(h.Bz.kept (hk1.mono λ_ _ hx=> .inl hx)).other λb _ hx=> .inl (by have:b<w.heap.size:=hx;omega)
 ·obtain⟨a,c,hv, -, -, -,hat⟩:=F9 (F:=λk=>k<O+2) h.own (λk hk=>by have:k<O+2:=hk;omega);cases hv;exact(hat.kept hk1).other λb _ hx=>by have:b<w.heap.size:=hx;show b<O+2;omega
 ·intro i h1 h2;exact((h.aP i h1 h2 (by omega)).kept (hk1.mono λk _ hx=> .inl (by have:k<O+2:=hx;omega))).other λb _ hx=> .inl (by have:b<w.heap.size:=hx;omega)
 ·have hb:=h.below.setCell (p:=⟨O,5,none⟩) hw v;exact(((((hb.setCell (p:=⟨O+1,0,none⟩) (by show _<=O+1;omega) x0).setCell (p:=⟨O+1,1,none⟩) (by show _<=O+1;omega) x1).setCell (p:=⟨O+1,2,none⟩) (by show _<=O+1;omega) x2).setCell (p:=⟨O+1,3,none⟩) (by show _<=O+1;omega) x3).setCell (p:=⟨O+1,4,none⟩) (by show _<=O+1;omega) x4).setCell (p:=⟨O+1,5,none⟩) (by show _<=O+1;omega) x5
end
theorem afd (n:Nat): ∃css:List (List ak),css.length=n/\(∀c∈css,c.length=6)/\(madeCells (Value.agg #[.int .i64 0,.int .i64 0,.string ⟨#[]⟩,.slice none 0 0,.string ⟨#[]⟩,.slice none 0 0]).cells (n*6)).toList=css.flatten:=by
 refine⟨List.replicate n [.int .i64 0,.int .i64 0,.string ⟨#[]⟩,.slice none 0 0,.string ⟨#[]⟩,.slice none 0 0],by simp,λc hc=>by rw[(List.mem_replicate.1 hc).2];rfl,?_⟩;have h6: ∀c∈List.replicate n ([.int .i64 0,.int .i64 0,.string ⟨#[]⟩,.slice none 0 0,.string ⟨#[]⟩,.slice none 0 0]:List ak),c.length=6:=λc hc=>by rw[(List.mem_replicate.1 hc).2];rfl
 apply QR;intro k;by_cases hk:k<n*6
 ·obtain⟨i,f,hf,rfl⟩: ∃i f,f<6/\k=i*6+f:=⟨k/6,k%6,Nat.mod_lt _ (by decide),by omega⟩;have hi:i<n:=by omega
  rw[Jg _ i f (by simpa using hi) h6 hf];rw[Array.getElem?_toList];simp only[madeCells,Value.cells,Array.getElem?_map,Array.getElem?_range,List.getElem_replicate];have hm:(i*6+f)%6=f:=by omega
  rw[au (by omega)];have:f=0\/f=1\/f=2\/f=3\/f=4\/f=5:=by omega
  rcases this with rfl|rfl|rfl|rfl|rfl|rfl <;>simp[hm]
 ·rw[nS (by simp[size_madeCells];omega),nS (by rw[af6 _ h6];simp;omega)]
theorem Zi (aH aN:Int) (ah:ae) (Ba:List dD) (a:Option Addr) (ac:Nat) (aL:ae) (ka:Option Addr) (kc:Nat) (aP:List NT) (css:List (List ak)) (w:af)
 (h1:Ba.length<=ac) (h2:ac<=maxLen) (h3:a=none->ac=0) (h4:rX pG w a (bz Ba)) (hal:Ba.length<=1048576)
 (k1:aP.length<=kc) (k2:kc<=maxLen) (k4:rX pG w ka css.flatten) (hl:css.length=aP.length) (hk: ∀i (h:i<css.length) (h':i<aP.length),gq pG w css[i] aP[i]) (hm:aP.length<=1048576)
 (ih: ∀j (h:j<aP.length) (cs:List ak) (u:af),gq pG u cs aP[j]->Calls prog 27 #[.agg cs.toArray] u λe u'=> ∃ds,e= .returned (.agg ds.toArray)/\gq (· <u.heap.size) u' ds aP[j]/\Below u.heap.size u u') :
 Calls prog 27 #[.agg #[.int .i64 aH,.int .i64 aN,.string ah,.slice a Ba.length ac,.string aL,.slice ka aP.length kc]] w λe w'=> ∃ds,e= .returned (.agg ds.toArray)/\gq (· <w.heap.size) w' ds (.mk aH aN ah Ba aL aP)/\Below w.heap.size w w':=by
 obtain⟨i0,hi,hz0,hz1,hz2⟩:=lY wS;obtain⟨i1,hj,hy0,hy1,hy2⟩:=lY VI;have b0:0+Ba.length<=maxLen:=by unfold maxLen;omega
 have b1:(0+Ba.length)*32<=140737488355328:=by omega
 have b2:i1.bytes*aP.length<=281474976710656:=by rw[hy2];omega
 have b3:aP.length<=maxLen:=by unfold maxLen;omega
 have HA:=hd' h4;have HN:=hd' h3;have Bw:=hd' k4;have HK:=hd' hk;have HIH:=hd' ih;have HL:=hd' hl;unfold maxLen at k2 h2;have hkc:aP.length<=9223372036854775807:=by omega
 clear k4 hk ih hl h4 h3;have HO0:=hd' (((aQ w.heap.size w).alloc (ay _) (.cells #[.int .i64 aH,.int .i64 aN,.string ah,.slice a Ba.length ac,.string aL,.slice ka aP.length kc] 26)).alloc (by simp) (.cells #[.int .i64 0,.int .i64 0,.string ⟨#[]⟩,.slice none 0 0,.string ⟨#[]⟩,.slice none 0 0] 26));have hX:=(pU ((w.alloc (.cells #[.int .i64 aH,.int .i64 aN,.string ah,.slice a Ba.length ac,.string aL,.slice ka aP.length kc] 26)).alloc (.cells #[.int .i64 0,.int .i64 0,.string ⟨#[]⟩,.slice none 0 0,.string ⟨#[]⟩,.slice none 0 0] 26)) (.cells #[] 128) w.heap.size (by simp;omega)).trans ((pU (w.alloc (.cells #[.int .i64 aH,.int .i64 aN,.string ah,.slice a Ba.length ac,.string aL,.slice ka aP.length kc] 26)) (.cells #[.int .i64 0,.int .i64 0,.string ⟨#[]⟩,.slice none 0 0,.string ⟨#[]⟩,.slice none 0 0] 26) w.heap.size (by simp)).trans (eU w (.cells #[.int .i64 aH,.int .i64 aN,.string ah,.slice a Ba.length ac,.string aL,.slice ka aP.length kc] 26)));have hY:=(pU ((w.alloc (.cells #[.int .i64 aH,.int .i64 aN,.string ah,.slice a Ba.length ac,.string aL,.slice ka aP.length kc] 26)).alloc (.cells #[.int .i64 0,.int .i64 0,.string ⟨#[]⟩,.slice none 0 0,.string ⟨#[]⟩,.slice none 0 0] 26)) (.cells #[] 128) (w.heap.size+1) (by simp)).trans (vF (w:=w.alloc (.cells #[.int .i64 aH,.int .i64 aN,.string ah,.slice a Ba.length ac,.string aL,.slice ka aP.length kc] 26)) (n:=w.heap.size+1) (o:= .cells #[.int .i64 0,.int .i64 0,.string ⟨#[]⟩,.slice none 0 0,.string ⟨#[]⟩,.slice none 0 0] 26) (by simp));have hE:=oI ((w.alloc (.cells #[.int .i64 aH,.int .i64 aN,.string ah,.slice a Ba.length ac,.string aL,.slice ka aP.length kc] 26)).alloc (.cells #[.int .i64 0,.int .i64 0,.string ⟨#[]⟩,.slice none 0 0,.string ⟨#[]⟩,.slice none 0 0] 26)) (base:=w.heap.size+2) (e:=128) (size:=2) #[] 0 (by simp) (bD _) rfl;obtain⟨w1,hw1⟩: ∃w1,w1=((w.alloc (.cells #[.int .i64 aH,.int .i64 aN,.string ah,.slice a Ba.length ac,.string aL,.slice ka aP.length kc] 26)).alloc (.cells #[.int .i64 0,.int .i64 0,.string ⟨#[]⟩,.slice none 0 0,.string ⟨#[]⟩,.slice none 0 0] 26)).alloc (.cells #[] 128):=⟨_,rfl⟩;have hB1:Below w.heap.size w w1:=by rw[hw1];exact HO0.o'.alloc HO0.o'.size _
 have hs1:w1.heap.size=w.heap.size+3:=by rw[hw1];simp
 rw[<-hw1]at hX hY hE;have HE:Hid (w1.ownsRow (w.heap.size+2) 128 2 (.slice (some ⟨w.heap.size+1+1,0,none⟩) 0 0) 0 []):=hd' (by simpa using hE);have HA1:=hd' (HA.o'.kept (az.bC hB1)).at;have HZ:Hid (w.heap.size+2<=w1.heap.size):=hd' (by omega);have HX:=hd' hX;have HY:=hd' hY;have HB1:=hd' hB1;clear hX hY hE hB1 HO0;have HW1:=hd' hw1;clear hw1;obtain⟨avL,hc1,hc2,hc3⟩:=afd aP.length;have ZP:=hd' hc1;have ZO:=hd' hc2;have HC3:=hd' hc3;have Tu:=hd' hs1;clear hc1 hc2 hc3 hs1;go_enter func27,ntmps27
 go_wp2_with (first
  |(at_builtin;refine kz _ rfl _ _ 23 rfl (w.heap.size+2) 128 i0 _ 2 32 BF hi hz0 hz1 hz2 rfl (by decide) _ 0 [] rfl (HW1.o'▸HE.o') a Ba.length ac (bz Ba) rfl (qV Ba) HN.o' (HW1.o'▸HA1.o') (Ar Ba) b0 b1 (HW1.o'▸HZ.o') ?_;intro v2 w2 hown2 mU;have mU:w1.grownBy w2 (some (w.heap.size+1+1)):=HW1.o'▸mU;simp only[iM,jZ]at hown2;obtain⟨a2,c2,rfl,q1,q2,q3,lV⟩:=fJ hown2;have HQ:=hd' (⟨q1,q2,q3⟩:Ba.length<=c2/\c2<=maxLen/\(a2=none->c2=0));have Hl:=hd' ((mU.block w.heap.size (fZ HX.o') (λe=>by simp only[dQ]at e;omega)).trans HX.o');have HY2:=hd' ((mU.block (w.heap.size+1) (fZ HY.o') (λe=>by simp only[dQ]at e;omega)).trans HY.o');have arB:=hd' (rX.yS (F:=λk=>k<w.heap.size+2) lV (λb o s e (hx:b<w.heap.size+2)=>by have:=(hown2.lt b (by rw[e];rfl)).1;omega));obtain⟨⟨_,_,_,x3,_,x5⟩,_,_,_,f3,_,f5⟩:=kZ Hl.o';have HB2:=hd' (HB1.o'.grown mU HB1.o'.size (λb hb=>by simp only[dQ]at hb;omega));have HZ2:Hid (w.heap.size+2<=w2.heap.size):=hd' (by have:=mU.size;have:=HZ.o';omega);clear hown2 mU lV q1 q2 q3 HA1 HE)
  |(at_make;refine Qy _ rfl _ _ 24 rfl w2.heap.size 26 i1 _ 6 underlying24 hj hy0 hy1 .i64 .i64 (aP.length:Int) (aP.length:Int) aP.length rfl rfl rfl rfl b2 b3 (by simp) ?_;intro w3 hown3 amY;rw[HC3.o']at hown3;have HCL:=hd' (CL.start (aP:=aP) Hl.o' HY2.o' amY hown3 ZO.o' ZP.o' arB.o' HB2.o' (ay _));obtain⟨⟨_,_,_,y3,_,y5⟩,_⟩:=kZ HCL.o'.cell;clear hown3 amY))
 clear x3 x5 y3 y5 f3 f5;go_loopw [18] (λi wr=> ∃j:Nat,j<=aP.length/\i= .int .i64 j/\Hid (∃ak0,CL w w.heap.size w2.heap.size w2.heap.size #[.int .i64 aH,.int .i64 aN,.string ah,.slice a2 Ba.length c2,.string aL,.slice ka aP.length kc] a2 Ba aP.length aP j ak0 wr)) (λi _=>aP.length-(intOf i).toNat)
 case atStart=>exact⟨0,bD _,rfl,hd' ⟨_,HCL.o'⟩⟩
 case round =>
  obtain⟨j,hj,rfl,HCR⟩:=hrel;obtain⟨ak0,hcr⟩:=HCR.o';have HR:=hd' hcr;have Od:=hd' hcr.below;obtain⟨⟨_,_,_,y3,_,y5⟩,_,_,_,_,_,f5⟩:=kZ hcr.cell;clear hcr HCR;by_cases hlt:j<aP.length
  ·have hlt':j<css.length:=by rw[HL.o'];exact hlt
   have Fw:=az.bC (F:=pG) Od.o';have qg:=(HK.o' j hlt' hlt).kept Fw;have OL:=hd' (λo:Obj=>(HK.o' j hlt' hlt).kept (az.bC (F:=pG) (Od.o'.alloc Od.o'.size o)))
   have h6: ∀c∈css,c.length=6:=by
    intro c hc;obtain⟨i,hi,rfl⟩:=pR hc;exact(HK.o' i hi (by rw[<-HL.o'];exact hi)).len
   obtain⟨f0,f1,f2,f3,f4,f5',f6,f7,f8,f9,he⟩:=kV qg;obtain⟨b,o,rfl,e0,e1,e2,e3,e4,e5⟩:=uG h6 (Bw.o'.kept Fw) hlt' he;rw[he]at OL;have HC:=hd' (λo:Obj=>HIH.o' j hlt _ (wr.alloc o) (OL.o' o));unfold iF at HC;clear Fw qg h6 he
   have HPu:=hd' (λ(o:Obj) (u:af) (g0 g1:Int) (g2:ae) (g3:Option Addr) (g4 g5:Nat) (g6:ae) (g7:Option Addr) (g8 g9:Nat) (hb:Below (wr.alloc o).heap.size (wr.alloc o) u) (hc:gq (· <(wr.alloc o).heap.size) u (iF g0 g1 g2 g3 g4 g5 g6 g7 g8 g9) aP[j]) =>
    ((HR.o'.world ((aQ _ _).alloc (ay _) o)).world hb).push (v0:= .int .i64 g0) (v1:= .int .i64 g1) (v2:= .string g2) (v3:= .slice g3 g4 g5) (v4:= .string g6) (v5:= .slice g7 g8 g9) (ay _) HZ2.o' hlt rfl (hc.other λb hb' hx=>by
      have h8:=HR.o'.own.lt _ rfl;have hs:=zY wr o;show b<_
      rcases hx with hx|hx <;>omega))
   have hfz: ∀(o:Obj) (u:af),Below (wr.alloc o).heap.size (wr.alloc o) u-> ∀k,u.frozen? ⟨w2.heap.size,k,none⟩=false:=λo u hb k=>((HR.o'.world ((aQ _ _).alloc (ay _) o)).world hb).own.frozenAt k
   have HFz:=hd' hfz
   have hcl: ∀(o:Obj) (u:af),Below (wr.alloc o).heap.size (wr.alloc o) u-> ∀f,f<6-> ∃v,u.cell? ⟨w2.heap.size,j*6+f,none⟩=some v:=λo u hb f hf=>by
    have h9:=((HR.o'.world ((aQ _ _).alloc (ay _) o)).world hb);have h10:j*6+f<ak0.flatten.length:=by rw[af6 _ h9.six,h9.len];omega
    exact⟨_,(jh h9.own).cell (mi h10)⟩
   have HCl:=hd' hcl;clear hfz hcl;go_wp2_with fail
   refine(HC.o' _).mono ?_;rintro e u ⟨ds,rfl,hnc,hbu⟩;obtain⟨g0,g1,g2,g3,g4,g5,g6,g7,g8,g9,hde⟩:=kV hnc;subst hde;have HPn:=hd' (HPu.o' _ _ _ _ _ _ _ _ _ _ _ _ hbu hnc);have q0:=HFz.o' _ _ hbu (j*6);have q1:=HFz.o' _ _ hbu (j*6+1);have q2:=HFz.o' _ _ hbu (j*6+2);have q3:=HFz.o' _ _ hbu (j*6+3);have q4:=HFz.o' _ _ hbu (j*6+4);have q5:=HFz.o' _ _ hbu (j*6+5);obtain⟨_,r0⟩:=HCl.o' _ _ hbu 0 (by omega);obtain⟨_,r1⟩:=HCl.o' _ _ hbu 1 (by omega);obtain⟨_,r2⟩:=HCl.o' _ _ hbu 2 (by omega);obtain⟨_,r3⟩:=HCl.o' _ _ hbu 3 (by omega);obtain⟨_,r4⟩:=HCl.o' _ _ hbu 4 (by omega);obtain⟨_,r5⟩:=HCl.o' _ _ hbu 5 (by omega);rw[pM]at r0;clear hnc hbu HPu HFz HCl HC OL;unfold iF;go_wp2_with fail
   go_roundw
   case rel=>exact⟨j+1,by omega,by go_num,hd' ⟨_,HPn.o'⟩⟩
   case measure=>simp[intOf];omega
  ·obtain rfl:j=aP.length:=by omega
   have HD:=hd' (λ(v x0 x1 x2 x3 x4 x5:ak)=>HR.o'.done (v:=v) (ay _) HZ2.o' rfl b3 HQ.o' x0 x1 x2 x3 x4 x5);have hres:=HR.o'.res;obtain⟨⟨z0,z1,z2,z3,z4,z5⟩,t0,t1,t2,t3,t4,t5⟩:=kZ hres;have HRs:=hd' (λ(v x0 x1 x2 x3 x4 x5:ak)=>(qp x0 x1 x2 x3 x4 x5 ((eG wr ⟨w.heap.size,5,none⟩ (w.heap.size+1) v (show w.heap.size+1≠w.heap.size by omega)).trans hres):(uA (wr.setCell ⟨w.heap.size,5,none⟩ v) (w.heap.size+1) 0 x0 x1 x2 x3 x4 x5).heap[w.heap.size+1]?=_));clear hres;go_wp2_with fail
   refine bU (ahM rfl _ _ (w.heap.size+1) _ _ _ _ (by rfl) (HRs.o' _ _ _ _ _ _ _) yD rfl qQ) rfl ?_;exact⟨_,rfl,HD.o' _ _ _ _ _ _ _⟩
mutual
def IW:NT->Prop
 | .mk _ _ _ Ba _ aP=>Ba.length<=1048576/\Gd aP
def Gd:List NT->Prop
 | []=>True
 |x::r=>IW x/\Gd r
end
theorem Pd: ∀(l:List NT) (x:NT),Gd l->x∈l->IW x
 | [],_,_,h=>by simp at h
 |y::r,x,h,hx=>by
  rw[Gd]at h;rcases dS.1 hx with hx|hx
  ·rw[hx];exact h.1
  ·exact Pd r x h.2 hx
theorem NA: ∀l:List NT,l.length<=gp l
 | []=>bD _
 | .mk _ _ _ _ _ _::r=>by rw[gp,dB,fT];have:=NA r;omega
theorem Qh: ∀(m:Nat) (n:NT) (w:af) (cs:List ak),fT n<=m->m<=1000000->IW n->gq pG w cs n->Calls prog 27 #[.agg cs.toArray] w λe w'=> ∃ds,e= .returned (.agg ds.toArray)/\gq (· <w.heap.size) w' ds n/\Below w.heap.size w w'
 |0,.mk _ _ _ _ _ _,_,_,h,_,_,_=>by
  rw[fT]at h;omega
 |m+1,n,w,cs,h,hm,hs,hn=>by
  cases hn with
  | @mk aH aN ah a c aA aL ka kc aP css h1 h2 h3 h4 k1 k2 k3 k4 hl hk =>
    rw[fT]at h;rw[IW]at hs;have hlen:=NA aP;refine Zi aH aN ah aA a c aL ka kc aP css w h1 h2 h3 h4 hs.1 k1 k2 k4 hl hk (by omega) ?_;intro j hj ds u hc;have:=uL aP aP[j] (kH hj);exact Qh m aP[j] u ds (by omega) (by omega) (Pd _ _ hs.2 (kH hj)) hc
end
section
theorem Y8 {F:Nat->Prop} {T:aB} (h:WF T):WF (ja F T):=⟨h.pos,h.root,h.par,h.kid,h.mem,h.nodup,(by
 obtain⟨r,hr⟩:=h.rank
 exact⟨r,hr⟩),h.holds⟩
def Aw:aC:=⟨⟨⟨[ve],1000,MJ⟩,[],[]⟩,false,0,0,0,⟨#[]⟩,false,0,⟨#[]⟩,0,0⟩
def aam:List ak:= [.bool false,.int .i64 0,.int .i64 0,.string ⟨#[]⟩,.slice none 0 0,.string ⟨#[]⟩,.slice none 0 0]
theorem aav:Ok 0 0 Aw:=by
 refine⟨⟨λ_ h=>absurd h (by simp[Aw]),λx=>by simp[Aw],λ_ h=>absurd h (by simp[Aw]),λx _=>by simp[Aw]⟩,by simp[Aw],⟨by simp[Aw],rfl⟩,by simp[Aw],λ_=>by simp[Aw],⟨Du (by decide),λd hd=> ?_⟩⟩;simp only[Aw,dG]at hd;subst hd;exact Du (by decide)
theorem ah0:MD Aw:=λh=>by cases h
section
variable {E:BE} {ws w w':af} {c c':Nat} {s s':Int} {b b':aC} {m m':aO} {a:Option Addr} {ac:Nat}
theorem sG.fresh (h:sG E ws c 0 b w) (he:b.dJ=0):sG E ws 1001 0 b w:=⟨h.bm,h.keep,h.ok.fresh he⟩
theorem sG.cells (h:sG E ws c s b w):w.cell? ⟨E.bb,0,none⟩=some (.pointer (some ⟨E.tb,0,none⟩))/\w.cell? ⟨E.bb,8,none⟩=some (.int .i64 b.raw)/\w.cell? ⟨E.bb,9,none⟩=some (.string b.ah)/\w.cell? ⟨E.bb,10,none⟩=some (.int .i64 b.dJ)/\ ∀j v,E.pg[j]?=some v->w.cell? ⟨E.bb,11+j,none⟩=some v:=by
 have hr:=h.bm.row;refine⟨hr.cell (j:=0) rfl,hr.cell (j:=8) rfl,hr.cell (j:=9) rfl,hr.cell (j:=10) rfl,λj v hv=>hr.cell (j:=11+j) ?_⟩;show(buV E b)[11+j]?=_;unfold buV;rw[show 11+j=j+11 by omega];simpa using hv
theorem sG.frozen (h:sG E ws c s b w) (j:Nat) (hj:j<11+E.pg.length):w.frozen? ⟨E.bb,j,none⟩=false:=h.bm.row.frozen (by simp[buV];omega)
theorem MA.world {F:Nat->Prop} (h:MA F w m a ac) (hb:Below w.heap.size w w'):MA F w' m a ac:=⟨h.Bz.kept (az.bC hb),h.nil,h.Tf,h.ash,h.Uf,h.Cf⟩
noncomputable def aC.wF (b:aC) (m:aO):aC:=if b.dJ=0 then b.GU m else b
theorem alF (h:sG E ws c 0 b w) {cs:List ak} (hp:E.pg= .bool false::cs) (hm:MA (OB E) w m a ac) (hc:c<=10100) (hl:uw b+m.aL.size<=4611686018427387904) (hmd:MD b) :
 Calls prog 14 #[.pointer (some ⟨E.bb,0,none⟩),nC m.aH m.ah a m.aA.length ac m.self m.aL] w λr w'=>r= .returned (.int .i64 (b.wF m).dJ)/\sG E ws 10100 0 (b.wF m) w':=by
 have hb1:=(aQ w.heap.size w).alloc (ay _) (.cells #[.int .i64 m.aH,.string m.ah,.slice a m.aA.length ac,.bool m.self,.string m.aL] 39);have h1:=h.world hb1;obtain⟨-, -, -,d10,hpg⟩:=h1.cells;have d11:=hpg 0 _ (by rw[hp];rfl);rw[pM]at d11;have HV:=hd' (aC.wF.eq_1 b m);by_cases he:b.dJ=0
 ·have HD:=hd' (agh (h1.fresh he) (hm.world hb1) (ay _) hl hmd);rw[he]at d10;have HQ:Hid (b.wF m=b.GU m):=hd' (by rw[HV.o',au he]);rw[HQ.o'];generalize b.GU m=Q at HD;clear hpg h1 h hm hl hmd hb1 HV HQ he hp;go_enter func14,ntmps14
  go_wp2_with (go_at_call 23;refine HD.o'.mono ?_;rintro e w1 ⟨rfl,h1⟩;have H1:=hd' h1;obtain⟨-, -, -,g10, -⟩:=h1.cells;clear h1)
  go_ret;exact⟨rfl,H1.o'⟩
 ·have hef:(b.dJ !=0)=true:=jJ.2 he;have HQ:Hid (b.wF m=b):=hd' (by rw[HV.o',aj he]);rw[HQ.o'];have H1:=hd' (h1.more hc (vQ 0));clear hpg h1 h hm hl hmd hb1 HV HQ he hp;go_enter func14,ntmps14
  go_wp2_with fail
  go_ret;exact⟨rfl,H1.o'⟩
theorem ahw (h:sG E ws c s b w):Calls prog 28 #[.pointer (some ⟨E.bb,0,none⟩)] w λr w'=> ∃v,r= .returned (.tuple #[.int .i64 b.qm,.string b.DK,v])/\Below w.heap.size w w':=by
 have HS:=hd' h;have HSd:=hd' (h.world (aQ w.heap.size w).drew);have HT:=hd' (KH HSd.o'.bm.li);have d0:=h.bm.row.cell (j:=0) rfl;have d1:=h.bm.row.cell (j:=1) rfl;clear h;have HX:Hid (b.S.l.getLast?.getD 0=b.top):=hd' rfl;rw[HX.o']at HT;obtain⟨x,hx⟩: ∃x,x=b.top:=⟨_,rfl⟩;have HW:=hd' λu (hu:Below w.heap.size w u)=>yx (HS.o'.bm.li.world hu) x
 have Oc:Hid (b.qm=aX b.S.T x/\b.DK=bq b.S.T x):=hd' (by rw[hx];exact⟨rfl,rfl⟩);rw[Oc.o'.1,Oc.o'.2];rw[<-hx]at HT;clear hx HX Oc;go_enter func28,ntmps28
 go_wp2_with fail
 go_region_law (first
  |(go_simp;go_at_call 42;refine HT.o'.mono ?_
    rintro e w2 ⟨rfl,q,rfl⟩
    have HB2:=hd' (fM w (1+q)))
  |(go_simp;go_at_call 41;refine(HW.o' _ HB2.o').mono ?_
    rintro e w3 ⟨v,rfl,ho,hb⟩;have HB3:=hd' (aK HB2.o' hb)
    clear ho hb))
 all_goals
  simp only[Act.put,jA,jC,jB,dV,dF,dK];go_wp2_with fail
  go_ret3;exact⟨_,rfl,HB3.o'⟩
theorem adv (h:sG E ws c s b w):Calls prog 15 #[.pointer (some ⟨E.bb,0,none⟩)] w λr w'=>r= .returned (.tuple #[.int .i64 b.raw,.string b.ah,.bool (b.qm !=0)])/\Below w.heap.size w w':=by
 have HT:=hd' (ahw h);have HB:=hd' h;clear h;go_enter func15,ntmps15
 go_wp2_with (go_at_call 28;refine HT.o'.mono ?_;rintro e w1 ⟨v,rfl,hb⟩;obtain⟨-,d8,d9, -, -⟩:=(HB.o'.world hb).cells;have HB1:=hd' hb;clear hb)
 refine bX (by kernel_rfl) (by kernel_rfl) ?_
 repeat
  with_reducible refine jW (λK hK=> ?_)
  first
   |(with_reducible apply gK
     ·rfl
     ·intro wq hC;have zd8:=aM hC.o' d8;have zd9:=aM hC.o' d9;unfold Oper.quietAt;go_simp
      (with_reducible rfl)
     simp only[Act.put,dV,dF,dK];refine hK _ ?_
     clear hK K)
 with_reducible refine jX ?_
 intro wq HQ;have zd8:=aM HQ.o' d8;have zd9:=aM HQ.o' d9;have HB2:=hd' (aK HB1.o' HQ.o');go_wp2_with fail
 go_ret3;exact⟨rfl,HB2.o'⟩
theorem ai5 (gy:Int) (w:af):Calls prog 19 #[.int .i64 gy] w λe w' =>
 ∃tb g,e= .returned (.pointer (some ⟨tb,0,none⟩))/\eH w' tb g (ja (λk=>k<w.heap.size) ⟨[ve],gy,MJ⟩)/\w.heap.size<=tb/\w.heap.size<=g/\Below w.heap.size w w':=by
 go_enter func19,ntmps19
 go_wp2
 go_ret;refine⟨w.heap.size+1,w.heap.size,iR (by simp),?_,by omega,by omega,?_⟩
 ·refine⟨1,[AZ ve none 0 none 0],by omega,vF (by simp),?_,rfl,?_,λk hk=> ?_⟩
  ·refine own_below (w:=w.alloc _) (oI w (AZ ve none 0 none 0).toArray 1 (bD _) (by decide) rfl) ((aQ _ _).alloc (ay _) _)
  ·intro i h h';simp at h;subst h;exact⟨none,0,none,0,rfl,ay _,by decide,λ_=>rfl,ay _,by decide,.inl ⟨rfl,rfl⟩,λj u hj=>by simp[ja,ve,bz]at hj,λj u hj=>by simp[ja,ve,bB]at hj⟩
  ·have hk':k<w.heap.size:=hk;refine⟨by simp;omega,?_,?_⟩ <;>omega
 ·exact((aQ _ _).alloc (ay _) _).alloc (by simp) _
theorem abR {w0 w:af} {B tb g:Nat} {T:aB} {F ex:Nat->Prop} (h:TI w0 B tb (ja F T) g w) (hx: ∀k,ex k->F k):Calls prog 20 #[.pointer (some ⟨tb,0,none⟩)] w λe w'=> ∃sb,e= .returned (.pointer (some ⟨sb,0,none⟩))/\SI w0 B tb sb ex T [] w'/\w.heap.size<=sb/\Below w.heap.size w w':=by
 refine(ahD w tb).mono ?_;rintro e w' ⟨he,hs,hb,hlt⟩;refine⟨w.heap.size,he,⟨g,none,λk=>F k\/k=w.heap.size,?_,hs,?_,λk hk=> .inl (hx k hk),bD _⟩,ay _,hb⟩
 ·have hw:=h.wf
  refine⟨h.tree.dE (F:=λ_=>False) (az.bC hb) (λ_ h=>h.elim) λk hk=> ?_,⟨hw.pos,hw.root,hw.par,hw.kid,hw.mem,hw.nodup,(by
   obtain⟨r,hr⟩:=hw.rank
   exact⟨r,hr⟩),hw.holds⟩,h.below.trans (hb.mono h.below.size),h.htb,h.hg,h.len,h.gy,h.Bz,h.txt⟩
  rcases hk with hk|hk
  ·exact⟨.inl hk,fA (h.tree.vY k hk).1 hb.size⟩
  ·exact⟨.inr (uu hk.symm),by omega⟩
 ·rintro k (rfl|hk)
  ·exact⟨.inr rfl,h.below.size,λh'=>by have:=(h.tree.vY _ (hx _ h')).1;omega⟩
  ·cases hk
theorem ako (w0 w:af) (hb:Below w0.heap.size w0 w):Calls prog 19 #[.int .i64 1000] w λe w' =>
 ∃tb g,e= .returned (.pointer (some ⟨tb,0,none⟩))/\TI w0 0 tb (ja (λk=>k<w.heap.size) ⟨[ve],1000,MJ⟩) g w'/\Below w.heap.size w w':=by
 refine(ai5 1000 w).mono ?_;rintro e w' ⟨tb,g,he,hT,h1,h2,hb1⟩;have hs:=hb.size;refine⟨tb,g,he,⟨hT,Y8 (ahJ 1000),aK hb hb1,by omega,by omega,by simp[ja],by simp[ja],?_,?_⟩,hb1⟩
 ·intro d hd;simp only[ja,dG]at hd;subst hd;exact bD _
 ·intro d hd;simp only[ja,dG]at hd;subst hd;exact ay _
theorem ai6 (w0 w:af) (hb:Below w0.heap.size w0 w):Calls prog 11 #[] w λr w'=> ∃E:BE,E.w0=w0/\E.pg=aam/\r= .returned (.pointer (some ⟨E.bb,0,none⟩))/\sG E w' 0 0 Aw w'/\Below w.heap.size w w'/\(∀k,E.ex k↔(w0.heap.size<=k/\k<w.heap.size)\/k=E.bb)/\w.heap.size<=E.bb:=by
 have HN:=hd' (ako w0 w hb);have HW:=hd' hb;clear hb;go_enter func11,ntmps11
 go_wp2_with (first
  |(go_at_call 19;refine HN.o'.mono ?_;rintro e w1 ⟨tb,g,rfl,hT,hb1⟩;have HT:=hd' hT;have HB1:=hd' hb1;clear hT hb1)
  |(go_at_call 20;refine(abR (ex:=λk=>w0.heap.size<=k/\k<w.heap.size) HT.o' (λk hk=>hk.2)).mono ?_;rintro e w2 ⟨sb,rfl,hS, -,hb2⟩;have HS:=hd' hS;have HB2:=hd' (aK HB1.o' hb2);clear hS hb2)
  |(go_at_call 21;refine(akp HS.o').mono ?_;rintro e w3 ⟨lb,rfl,hL,hb3⟩;have HL:=hd' hL;have HB3:=hd' (aK HB2.o' hb3);clear hL hb3))
 go_ret;have apJ:=HL.o'.lay (.cells #[.pointer (some ⟨tb,0,none⟩),.pointer (some ⟨sb,0,none⟩),.pointer (some ⟨lb,0,none⟩),.int .i64 0,.int .i64 0,.int .i64 0,.string ⟨#[]⟩,.bool false,.int .i64 0,.string ⟨#[]⟩,.int .i64 0,.bool false,.int .i64 0,.int .i64 0,.string ⟨#[]⟩,.slice none 0 0,.string ⟨#[]⟩,.slice none 0 0] 60);have hsz:=HB3.o'.size;have hw0:=HW.o'.size;refine⟨⟨w0,tb,sb,lb,w3.heap.size,0,λk=>(w0.heap.size<=k/\k<w.heap.size)\/k=w3.heap.size,aam,none,0⟩,rfl,rfl,rfl,⟨⟨apJ,Row.alloc _ _ _,.inr rfl,by show w0.heap.size<=w3.heap.size;omega⟩,az.refl _ _,aav⟩,HB3.o'.alloc hsz _,λk=>Iff.rfl,hsz⟩
end
end
end Go.Proofs.YtnlbcifhedjbfaaGreatDoor
