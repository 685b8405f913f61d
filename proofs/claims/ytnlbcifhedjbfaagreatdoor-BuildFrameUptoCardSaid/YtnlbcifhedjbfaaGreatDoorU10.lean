/- oZ joined for a claim: FrC, aw0, FrD, FrE, FrF, TxC, FrG: plain laws and contracts. No conditions beyond those that each lemma types. -/
import Derived.Test.YtnlbcifhedjbfaaGreatDoorU09
import Derived.Test.YtnlbcifhedjbfaaGreatDoorU07
set_option linter.unusedVariables false
set_option linter.unusedSimpArgs false
namespace Go.Proofs.YtnlbcifhedjbfaaGreatDoor
open Go.RowKit Mem
section
section
variable {T U V W:aB} {H l m A B P D:List Int} {a n x y k b:Int} {i:Nat} {S:Int->Prop} {d:ND}
theorem F8 (hw:WF T) (hp:d.parent= -1):aJ (bL T d) T.ai.length= -1:=by
 rw[aJ,kg,show(bL T d).ai[T.ai.length]?=some d by simp[bL]];exact hp
theorem Aq (h0:0<=x) (hx:x<T.ai.length):aJ (bL T d) x=aJ T x:=by
 obtain⟨X,rfl⟩:=bQ h0;exact yw T d X (by omega)
theorem Jl (hx:x<T.ai.length):aY (bL T d) x=aY T x:=(kJ T d).el x hx
theorem lv (T:aB) (d:ND):(bL T d).ai.length=T.ai.length+1:=by simp[bL]
theorem aaT (hN:BA T U) (hw:WF T) (hk:aG U 1=aG T 1):(aG U 1).filter (uh U)=(aG T 1).filter (uh T):=by
 rw[hk];exact Iz λz hz=>hN.named (dW hw hz (by omega)).2 _
theorem Tr.add (h:Tr H T) (hp:d.parent= -1) (hk:d.aP= []) (hd:d.elem=true\/d.aL.toList≠ []) (hh:pgB (bL T d) T.ai.length=false):Tr H (bL T d):=by
 have h2:=h.two;have hN:=kJ T d;refine⟨Bd h.wf d hp hk,λp p0 p1 A j k B e=> ?_,λj j1 j2 he=> ?_,by rw[mJ T hk];exact h.k0,(hN.nm 1 h.e1).trans h.n1,(hN.el 1 (by omega)).trans h.e1,(hN.sp 1 h.e1).trans h.s1,(aaT hN h.wf (mJ T hk 1)).trans h.hb,by rw[mJ T hk];exact h.h1,h.hms hN,λx hx=> ?_⟩
 ·rw[mJ T hk]at e;have hr: ∀z∈aG T p,z<T.ai.length:=λz hz=>(dW h.wf hz p0).2
  rw[hN.el j (hr j (by rw[e];simp)),hN.el k (hr k (by rw[e];simp))];rw[lv]at p1;rcases mZ p T.ai.length with hl|hl
  ·exact h.tt p p0 hl A j k B e
  ·have:p=T.ai.length:=by omega
   rw[this,<-mJ T hk,vV T hk]at e;exact absurd e (by simp)
 ·rw[lv]at j2;rcases mZ j T.ai.length with hl|hl
  ·rw[adX j (by omega) hl];exact h.tx j j1 hl (by rw[<-hN.el j hl];exact he)
  ·have:j=T.ai.length:=by omega
   subst this;rw[akd];rw[kG T d h.wf.pos]at he;exact hd.resolve_left (by rw[he];decide)
 ·have hl:x<(bL T d).ai.length:=by
   have hx':=hx;unfold pgB aI at hx';simp only[cz]at hx';exact(eP hx'.1).2
  rw[lv]at hl;rcases mZ x T.ai.length with h0|h0
  ·exact h.nh x ((hN.named h0 _).symm.trans hx)
  ·rw[show x=T.ai.length by omega,hh]at hx;cases hx
theorem Pt.add (h:Pt T A y) (hw:WF T) (hk:d.aP= []) (hy:1<=y/\y<T.ai.length) (hA: ∀x∈A,1<=x/\x<T.ai.length):Pt (bL T d) A y:=by
 obtain⟨⟨Q,q1,q2,q3⟩,h2,h3,h4,h5⟩:=h;have hN:=kJ T d;have hpx: ∀x:Int,1<=x/\x<T.ai.length->aJ (bL T d) x=aJ T x:=λx hx=>Aq (by omega) hx.2
 refine⟨⟨Q,q1,λd' hd k hk2=>q2 d' hd k (by rw[mJ T hk]at hk2;exact hk2),q3⟩,by rw[hpx y hy];exact h2,λht x hx=> ?_,λhr=> ?_,λA' x e b1 b2=> ?_⟩
 ·rw[hpx x (hA x hx),hpx y hy];exact h3 (by unfold lI at ht |-;rw[<-hN.named hy.2];exact ht) x hx
 ·obtain⟨A',x,e,e2,e3⟩:=h4 (by unfold xw at hr |-;rw[<-hN.named hy.2];exact hr);exact⟨A',x,e,e2.imp (λe2=>by rw[hN.named (hA x (by rw[e];simp)).2];exact e2) id,(hpx y hy).trans e3⟩
 ·unfold lD at b1 b2;rw[hN.stop (hA x (by rw[e];simp)).2]at b1;rw[hN.stop hy.2]at b2;intro p p0 p1 Z k Y ek;rw[mJ T hk]at ek;rw[hN.el k (dW hw (by rw[ek];simp) p0).2];rw[lv]at p1;rcases mZ p T.ai.length with hl|hl
  ·exact h5 A' x e b1 b2 p p0 hl Z k Y ek
  ·have:p=T.ai.length:=by omega
   rw[this,<-mJ T hk,vV T hk]at ek;exact absurd ek (by simp)
theorem ab4 (he: ∀x∈l,aY T x=true) (on:Bool):aZ (bL T d) l on 0=aZ T l on 0:=by
 have hN:=kJ T d;have hn: ∀x∈l,∀N,aI (bL T d) x N=aI T x N:=λx hx N=>hN.named (eP (he x hx)).2 N
 have hp: ∀x∈l,lq (bL T d) x=lq T x:=λx hx=>by
  have:=eP (he x hx);unfold lq xF;rw[lv,au (by simp;omega),au (by simp;omega)];exact Aq (by omega) this.2
 have hf: ∀(f:Int) (r:List Int),(∀x∈r,x∈l)->lW (bL T d) f r=lW T f r:=by
  intro f r
  induction r with
  |nil=>intro _;rfl
  |cons x r ih =>
   intro h;rw[lW,lW,hn x (h x dR),hp x (h x dR),ih λy hy=>h y (gm _ hy)]
 unfold aZ;by_cases hnil:l= []
 ·rw[au hnil,au hnil]
 ·have ht:aI (bL T d) (l.getLast?.getD 0) lC=aI T (l.getLast?.getD 0) lC:=by
   obtain⟨A,y,e⟩: ∃A y,l=A++ [y]:=⟨_,_,(Er hnil).symm⟩;rw[e,QQ,Option.getD_some];exact hn y (by rw[e];simp) _
  rw[aj hnil,aj hnil];simp only[dY];rw[ht,hf _ _ λx hx=>jM.1 hx]
theorem aex (hw:WF T) (hp:d.parent= -1) (hk:d.aP= []) (ho:dw T a=true) (hb:b=0\/aY T b=true) (hi:eT T a b=i):(fe (bL T d) a b T.ai.length).1=eF (bL T d) a i T.ai.length:=by
 have hwV:=Bd hw d hp hk;have hp0:=hw.pos;obtain⟨a0,a1⟩:=jU hw.pos ho;have hlen:=lv T d
 have hbn:b≠(T.ai.length:Int):=by
  rcases hb with h|h
  ·omega
  ·have:=eP h;omega
 have hpl:eT (bL T d) a b=i:=by
  rw[<-hi];unfold eT;rw[mJ T hk]
 have hok:nu (bL T d) a b T.ai.length=true:=by
  simp only[nu,cz,mX,jJ,Af];refine⟨⟨⟨⟨?_,?_⟩,hbn⟩,by rw[hpl];omega⟩,?_⟩
  ·obtain⟨A,rfl⟩:=bQ a0;rw[Be T d A (by omega)];exact ho
  ·simp only[xF,cz,mX];omega
  ·have hr: ¬Reach (bL T d) T.ai.length a:=by
    refine Df (S:=λy=>y=T.ai.length) hwV (by omega) rfl ?_ (by omega) (by omega);rintro y rfl k hk2;rw[vV T hk]at hk2;cases hk2
   simp[ky,hr]
 have hlast:(bL T d).ai[T.ai.length]?=some d:=by simp[bL]
 have htk:bG (bL T d) (T.ai.length:Nat)=bL T d:=by
  rw[bG,iD,F8 hw hp,aj (by omega)];refine BP rfl rfl λi=> ?_
  rw[zD];split
  ·rename_i hi;subst hi;rw[hlast];show some (fo (-1) d)=some d;rw[<-hp];rfl
  ·rfl
 rw[fe,au hok];show kr (bL T d) a b (T.ai.length:Nat)=_;unfold kr;rw[htk,hpl];rfl
theorem aaK (hw:WF T) (hp:d.parent= -1) (hk:d.aP= []) (ho:dw T a=true) (i:Nat):Ins (bL T d) (eF (bL T d) a i T.ai.length) a i T.ai.length:=by
 have hp0:=hw.pos;obtain⟨a0,a1⟩:=jU hw.pos ho;refine YS (S:=λy=>y=T.ai.length) (Bd hw d hp hk) (by omega) (by rw[lv];omega) (F8 hw hp) ?_ rfl ?_ (by omega) i
 ·obtain⟨A,rfl⟩:=bQ a0;rw[Be T d A (by omega)];exact ho
 ·rintro y rfl k hk2;rw[vV T hk]at hk2;cases hk2
theorem Sk (h:Tr H V) (hI:Ins V W a i n) (hn:n<V.ai.length) (hno:uh V n=false) (ha:1<=a) (hH:H≠ []) (i0:a=1->i=0-> ∀z Z,aG V 1=z::Z->lI V z=true):(aG W 1).filter (uh W)=H/\((H= []/\aG W 1= [])\/ ∃z R K,H=z::R/\aG W 1=z::K):=by
 obtain⟨z,R,K,e,hK⟩:=h.h1.resolve_left λx=>hH x.1
 have h2:=h.two;have e1: ∀L:List Int,(∀z∈L,z<V.ai.length)->L.filter (uh W)=L.filter (uh V):=λL hL=>Iz λz hz=>hI.jS.named (hL z hz) _
 have hr: ∀z∈aG V 1,z<V.ai.length:=λz hz=>(dW h.wf hz (by omega)).2
 rw[hI.aP 1 (by omega) (by omega)];by_cases hc:(1:Int)=a
 ·rw[au hc];refine⟨?_,.inr ?_⟩
  ·rw[IA,Iy (by unfold uh;rw[hI.jS.named hn];unfold uh at hno;rw[hno];decide),<-IA,nQ,e1 _ hr];exact h.hb
  ·rw[hK];cases i with
   |zero =>
    exfalso;have ht:=i0 hc.symm rfl z K hK
    have hb:uh V z=true:=by
     have:z∈(aG V 1).filter (uh V):=by rw[h.hb,e];exact dR
     exact(qE.1 this).2
    unfold lI aI at ht;unfold uh aI at hb;simp only[cz]at ht hb;obtain⟨w,hw,he⟩:=nU.1 ht.2.2;have h3:=hb.2.2;rw[og (eq_of_beq he)]at h3;unfold lH at hw;rw[dG.1 hw,show fU [⟨#[104,101,97,100]⟩,⟨#[98,111,100,121]⟩,⟨#[104,116,109,108]⟩] (⟨#[116,97,98,108,101]⟩:ae)=false by kernel_rfl]at h3;cases h3
   |succ i=>exact⟨z,R,_,e,rfl⟩
 ·rw[aj hc,e1 _ hr];exact⟨h.hb,h.h1⟩
theorem FR.new (h:FR H T l) (on:Bool) (hp:d.parent= -1) (hk:d.aP= []) (hd:d.elem=true) {H':List Int}
 (c1:xw (bL T d) T.ai.length=true->(on&&aI T (l.getLast?.getD 0) lC)=false/\(aI T (l.getLast?.getD 0) lC=true\/l.getLast?.getD 0=1))
 (c2:lI (bL T d) T.ai.length=true->(on&&aI T (l.getLast?.getD 0) lC)=false)
 (c3:(uh (bL T d) T.ai.length=false/\H'=H/\H≠ [])\/(uh (bL T d) T.ai.length=true/\H'=H++ [(T.ai.length:Int)]/\l= [1]/\on=false/\bq (bL T d) T.ai.length=hnm T.ai.length)) :
 FR H' (fe (bL T d) (aZ (bL T d) l on 0).1 (aZ (bL T d) l on 0).2 T.ai.length).1 (l++ [(T.ai.length:Int)]):=by
 obtain⟨i,hi,hP,hP2,hP3⟩:=h.place on;have hw:=h.tr.wf;have h2:=h.tr.two;rw[ab4 h.el,aex hw hp hk hP.ho (hP3.imp id λx=>h.el _ x.1) hi];have hI:=aaK hw hp hk hP.ho i
 have hV:=h.tr.add hp hk (.inl hd) (by
  rcases c3 with⟨c3, -, -⟩|⟨-, -, -, -,c4⟩
  ·exact aeE c3
  ·unfold pgB aI;rw[c4];unfold hnm;split
   ·rw[show fU [⟨#[104,116,109,108]⟩] (⟨#[104,101,97,100]⟩:ae)=false by kernel_rfl,jd,jd]
   ·rw[show fU [⟨#[104,116,109,108]⟩] (⟨#[98,111,100,121]⟩:ae)=false by kernel_rfl,jd,jd])
 have hlen:=lv T d;have hel:aY (bL T d) T.ai.length=true:=(kG T d hw.pos).trans hd;generalize (aZ T l on 0).1=a at hP hP2 hI |-;obtain⟨a1,a2,ho,au6, -,hdr,hsf,hi0⟩:=hP;generalize hWd:eF (bL T d) a i T.ai.length=W at hI |-;have hN:BA T W:=(kJ T d).trans hI.jS;have hka:=mJ T hk a;have hpos: ∀x∈l,1<=x/\x<T.ai.length:=λx hx=>eP (h.el x hx)
 have hno: ∀x∈l,x≠(T.ai.length:Int):=λx hx=>by have:=hpos x hx;omega
 have TD:(aG W 1).filter (uh W)=H'/\((H'= []/\aG W 1= [])\/ ∃z R K,H'=z::R/\aG W 1=z::K):=by
  rcases c3 with⟨c3,rfl,hH⟩|⟨c3,rfl,rfl,rfl, -⟩
  ·refine Sk hV hI (by omega) c3 a1 hH λe1 e2 z Z e3=> ?_
   rw[mJ T hk]at e3;have:=hi0 e1 e2 z Z e3;unfold lI at this |-;rw[(kJ T d).named (dW hw (by rw[e3];simp) (by omega)).2];exact this
  ·have ha:a=1:=(hP2 rfl).1
   have hil:i=(aG T 1).length:=by
    have e:aZ T [1] false 0=(1,0):=ab3 T [1];rw[e]at hi;unfold eT at hi;rw[au rfl]at hi;have hi:((aG T 1).length:Int)=i:=hi;omega
   have hk1:aG W 1=aG T 1++ [(T.ai.length:Int)]:=by
    rw[hI.aP 1 (by omega) (by omega),au ha.symm,mJ T hk,hil,QM,Lp]
   rw[hk1];refine⟨?_,.inr ?_⟩
   ·rw[IA,Ll (by unfold uh at c3 |-;rw[hI.jS.named (by omega)];exact c3),List.filter_nil];congr 1;refine(Iz λz hz=> ?_).trans h.tr.hb;exact hN.named (dW hw hz (by omega)).2 _
   ·rcases h.tr.h1 with⟨e1,e2⟩|⟨z,R,K,e1,e2⟩
    ·exact⟨_,[],[],by rw[e1];rfl,by rw[e2];rfl⟩
    ·exact⟨z,_,_,by rw[e1];rfl,by rw[e2];rfl⟩
 have hmm: ∀z∈H',bq W z=hnm z:=by
  rcases c3 with⟨c3,rfl,hH⟩|⟨c3,rfl, -, -,c4⟩
  ·exact h.tr.hms hN
  ·intro z hz;rcases fB.1 hz with hz|hz
   ·exact h.tr.hms hN z hz
   ·rw[dG.1 hz];exact(hI.jS.nm _ hel).trans c4
 refine⟨hV.ins hI (by omega) (by omega) a1 (by omega) (λz Z hz=> ?_) (.inl hel) TD.1 TD.2 hmm,λx hx=> ?_,λA y B e=> ?_,?_,λx hx=> ?_⟩
 ·rw[hka]at hz;have hzk:z∈aG T a:=pQ (by rw[hz];simp);rw[Jl (dW hw hzk (by omega)).2];exact hdr z Z hz
 ·rcases fB.1 hx with hx|hx
  ·rw[hN.el x (hpos x hx).2];exact h.el x hx
  ·rw[dG.1 hx,hI.jS.el _ (by omega)];exact hel
 ·rcases yM B with rfl|⟨B',z,rfl⟩
  ·obtain⟨e1,e2⟩:=yP e rfl;obtain rfl:=e1;obtain rfl:=(dH e2).1;have hpn:aJ W T.ai.length=a:=by rw[hI.par _ (by omega) (by omega),au rfl]
   have hkn:aG W T.ai.length= []:=by rw[hI.aP _ (by omega) (by omega),aj (by omega),vV T hk]
   have hpx: ∀x∈l,aJ W x=aJ T x:=λx hx=>by
    have:=hpos x hx;rw[hI.par x (by omega) (by omega),aj (hno x hx)];exact Aq (by omega) this.2
   refine⟨⟨λq=>q=T.ai.length,rfl,?_,hno⟩,by rw[hpn];omega,λht x hx=> ?_,λhr=> ?_,λA' x e b1 b2 p p0 p1 Z k Y ek=> ?_⟩
   ·rintro q rfl k hk2;rw[hkn]at hk2;cases hk2
   ·rw[hpn,hpx x hx];obtain⟨e3,e4⟩:=hP2 (c2 (by unfold lI at ht |-;rw[<-hI.jS.named (by omega)];exact ht));rw[e3];exact e4 x hx
   ·obtain⟨e3,e4⟩:=c1 (by unfold xw at hr |-;rw[<-hI.jS.named (by omega)];exact hr);obtain⟨e5, -⟩:=hP2 e3;obtain⟨r,hr1⟩:=h.hd;obtain⟨A,y,hA⟩: ∃A y,l=A++ [y]:=⟨_,_,(Er (by rw[hr1];exact yN _ _)).symm⟩;have hy:l.getLast?.getD 0=y:=by rw[hA];simp
    rw[hy]at e4 e5;refine⟨A,y,hA,e4.imp (λe4=> ?_) id,hpn.trans e5⟩;rw[hN.named (hpos y (by rw[hA];simp)).2];exact e4
   ·rw[hI.len,hlen]at p1;rw[hI.aP p p0 (by omega)]at ek;by_cases Ky:p=a
    ·rw[au Ky,Ky,hka]at ek
     have hnk:(T.ai.length:Int)∉(aG T a).take i:=λhx=>by
      have:=dW hw (Ej hx) (by omega);omega
     have hnd:((aG T a).take i++(T.ai.length:Int)::(aG T a).drop i).Nodup:=by
      have h3:=Az hI.wf (a:=a) (by omega);rw[hI.aP a (by omega) (by omega),au rfl,hka]at h3;exact h3
     have e6:=sw (M':=k::Y) hnd ek;rw[e6]at ek;have e7:=(dH (Xk ek)).2;have hkk:k∈aG T a:=pQ (by rw[e7];simp);rw[hN.el k (dW hw hkk (by omega)).2];exact hdr k Y e7
    ·rw[aj Ky,mJ T hk]at ek;have:=dW hw (show(T.ai.length:Int)∈aG T p by rw[ek];simp) p0;omega
  ·have e':l=A++y::B':=by
    rw[yO]at e;have:l++ [(T.ai.length:Int)]=(A++y::B')++ [z]:=by rw[e];simp
    exact(yP this rfl).1
   have hy:=hpos y (by rw[e'];simp);have hA: ∀x∈A,1<=x/\x<T.ai.length:=λx hx=>hpos x (by rw[e'];simp[hx])
   refine((h.pt A y B' e').add hw hk hy hA).ins (S:=λq=>q=T.ai.length) hV.wf hI (by omega) ⟨hy.1,by omega⟩ (λx hx=> ?_) ⟨by omega,by omega⟩ rfl ?_ (λx hx=> ?_) (λq hq=>by omega) ⟨by omega,by omega⟩ (.inl hel)
   ·have:=hA x hx;exact⟨by omega,this.1,by omega⟩
   ·rintro q rfl k hk2;rw[vV T hk]at hk2;cases hk2
   ·have:=hA x hx;omega
 ·obtain⟨r,rfl⟩:=h.hd;exact⟨_,rfl⟩
 ·unfold uh;by_cases hl2:2<=l.length
  ·rw[QT hl2]at hx;rcases fB.1 hx with hx|hx
   ·rw[hN.named (hpos x (pQ hx)).2];exact h.bd x hx
   ·rw[dG.1 hx,hI.jS.named (by omega)];rcases c3 with⟨c3, -, -⟩|⟨-, -,c3, -⟩
    ·exact c3
    ·rw[c3]at hl2;simp at hl2
  ·have:(l++ [(T.ai.length:Int)]).drop 2= []:=Xh (by rw[fC];simp;omega);rw[this]at hx;cases hx
end
end
structure Els (T U:aB):Prop where
 el: ∀x,aY U x=aY T x
 sp: ∀x,aX U x=aX T x
 nm: ∀x,bq U x=bq T x
 at': ∀x,bW U x=bW T x
 par: ∀x,aY T x=true->lq U x=lq T x
theorem aa0 (T:aB) (n:Int) (s:ae):Els T (iK T n (iQ s)):=by
 have e1:=rV T n (iQ s) (λ_=>rfl)
 have hg: ∀ {α:Type} (f:ND->α) (hf: ∀d,f (iQ s d)=f d) (x:Int) (z:α),((((iK T n (iQ s)).ai[x.toNat]?).map f).getD z)=(((T.ai[x.toNat]?).map f).getD z):=λf hf x z=>by
  unfold iK;simp only[xg];cases T.ai[x.toNat]? with
  |none=>simp
  |some d=>by_cases h:n.toNat=x.toNat <;>simp[h,hf]
 refine⟨e1,λx=> ?_,λx=> ?_,λx=> ?_,λx _=> ?_⟩
 ·unfold aX;rw[e1,hg _ λ_=>rfl]
 ·unfold bq;rw[e1,hg _ λ_=>rfl]
 ·unfold bW;rw[e1,hg _ λ_=>rfl]
 ·unfold lq aJ xF;rw[gU,hg _ λ_=>rfl]
section
section
variable {T U V W:aB} {H l m A B P D:List Int} {a n x y z k b:Int} {i:Nat} {S:Int->Prop} {d:ND}
theorem FR.aL (h:FR H T l) (hH:H≠ []) (on:Bool) (s:ae):((iG T (aZ T l on 0).1 (aZ T l on 0).2 s).2=0->FR H (iG T (aZ T l on 0).1 (aZ T l on 0).2 s).1 l)/\((iG T (aZ T l on 0).1 (aZ T l on 0).2 s).2=0\/(iG T (aZ T l on 0).1 (aZ T l on 0).2 s).2=43):=by
 obtain⟨i,hi,hP, -,hP3⟩:=h.place on;have hw:=h.tr.wf;have h2:=h.tr.two;generalize (aZ T l on 0).1=a at hi hP |-;generalize (aZ T l on 0).2=b at hi hP3 |-;unfold iG;rw[hP.ho,hi,pI (by omega),Bool.and_self,au rfl];by_cases hx:s.size=0
 ·rw[au hx];exact⟨λ_=>h,.inl rfl⟩
 rw[aj hx];unfold vR;rw[hi,kg];have hsn:s.toList≠ []:=λe=>hx (by rw[<-aR,e];rfl)
 have hpos: ∀x∈l,1<=x/\x<T.ai.length:=λx hx=>eP (h.el x hx)
 by_cases hc:0<i/\aY T (oU T a i)=false
 ·rw[au hc];refine⟨λ_=> ?_,.inl rfl⟩;have hE:=aa0 T (oU T a i) s;have hK: ∀j,aG (iK T (oU T a i) (iQ s)) j=aG T j:=λj=>YN T _ (f:=iQ s) (λ_=>rfl) j
  have anf: ∀j:Int,0<=j->j<T.ai.length->aJ (iK T (oU T a i) (iQ s)) j=aJ T j:=λj _ _=>by
   unfold aJ iK;simp only[xg];cases T.ai[j.toNat]? with
   |none=>simp
   |some d=>by_cases hh:(oU T a i).toNat=j.toNat <;>simp[hh,iQ]
  have hX: ∀j:Int,1<=j->j<T.ai.length->DJ T j≠ []->DJ (iK T (oU T a i) (iQ s)) j≠ []:=λj _ _ ht=>by
   unfold DJ iK at *;simp only[xg];cases e:T.ai[j.toNat]? with
   |none=>rw[e]at ht;exact absurd rfl ht
   |some d =>
    by_cases hh:(oU T a i).toNat=j.toNat
    ·simp[hh,iQ,ak5,hsn]
    ·rw[e]at ht;simpa[hh] using ht
  have hwU:WF (iK T (oU T a i) (iQ s)):=by
   have h0:0<=oU T a i:=by
    rcases mZ (oU T a i) 0 with hh|hh
    ·exfalso;unfold oU at hh;cases e:(aG T a)[i-1]? with
     |none=>rw[e]at hh;simp at hh
     |some z =>
      rw[e]at hh;have:=dW hw (El e) (by have:=hP.a1;omega);simp at hh;omega
    ·exact hh
   obtain⟨N,hN⟩:=bQ h0;rw[hN];exact NW hw N s
  have hlen:(iK T (oU T a i) (iQ s)).ai.length=T.ai.length:=gU _ _ _;generalize iK T (oU T a i) (iQ s)=U at hE hK anf hX hwU hlen |-;have hnm: ∀x N,aI U x N=aI T x N:=λx N=>by unfold aI;rw[hE.el,hE.sp,hE.nm]
  have hst: ∀x,lD U x=lD T x:=λx=>by unfold lD sZ;rw[hE.el,hE.sp,hE.nm]
  have hkf:aG U=aG T:=funext hK;show FR H U l;refine⟨⟨hwU,λp p0 p1 A j k B e=> ?_,λj j1 j2 he=> ?_,(hK 0).trans h.tr.k0,(hE.nm 1).trans h.tr.n1,(hE.el 1).trans h.tr.e1,(hE.sp 1).trans h.tr.s1,?_,by rw[hK];exact h.tr.h1,λz hz=>(hE.nm z).trans (h.tr.hm z hz),λx hx=>h.tr.nh x ((hnm x _).symm.trans hx)⟩,λx hx=>(hE.el x).trans (h.el x hx),λA y B e=> ?_,h.hd,λx hx=>(hnm x _).trans (h.bd x hx)⟩
  ·rw[hK]at e;rw[hE.el,hE.el];exact h.tr.tt p p0 (by omega) A j k B e
  ·exact hX j j1 (by omega) (h.tr.tx j j1 (by omega) (by rw[<-hE.el];exact he))
  ·rw[hK];exact(Iz λz _=>hnm z _).trans h.tr.hb
  ·obtain⟨h1,q2,h3,h4,h5⟩:=h.pt A y B e;have hpy: ∀x∈l,aJ U x=aJ T x:=λx hx=>by have:=hpos x hx;exact anf x (by omega) this.2
   have hyl:y∈l:=by rw[e];simp
   have hAl: ∀x∈A,x∈l:=λx hx=>by rw[e];simp[hx]
   refine⟨by rw[hkf];exact h1,by rw[hpy y hyl];exact q2,λht x hx=> ?_,λhr=> ?_,λA' x e2 b1 b2 p p0 p1 Z k Y ek=> ?_⟩
   ·rw[hpy x (hAl x hx),hpy y hyl];exact h3 ((hnm y _).symm.trans ht) x hx
   ·obtain⟨A',x,e3,e4,e5⟩:=h4 ((hnm y _).symm.trans hr);exact⟨A',x,e3,e4.imp (λq=>(hnm x _).trans q) id,(hpy y hyl).trans e5⟩
   ·rw[hK]at ek;rw[hE.el];exact h5 A' x e2 ((hst x).symm.trans b1) ((hst y).symm.trans b2) p p0 (by omega) Z k Y ek
 ·rw[aj hc];by_cases hm:(T.ai.length:Int)-1<T.gy
  ·rw[au hm];refine⟨λ_=> ?_,.inl rfl⟩;obtain⟨a1,a2,ho,hil, -,hdr,hsf,hi0⟩:=hP;have hI:=aaK (d:=pW s) hw rfl rfl ho i;have hV:=h.tr.add (d:=pW s) rfl rfl (.inr hsn) (by unfold pgB aI;rw[show aY (bL T (pW s)) T.ai.length=false from kG T (pW s) hw.pos];rfl);have hlen:=lv T (pW s);have hel:aY (bL T (pW s)) T.ai.length=false:=kG T (pW s) hw.pos;generalize eF (bL T (pW s)) a i T.ai.length=W at hI |-;show FR H W l;have hN:BA T W:=(kJ T (pW s)).trans hI.jS;have hka:=mJ T (d:=pW s) rfl a
   have vE: ∀Z z,(aG T a).take i=Z++ [z]->aY T z=true:=λZ z e=>by
    have hi1:0<i:=by
     rcases Lb i with h0|h0
     ·rw[h0]at e;simp at e
     ·exact h0
    have hz:oU T a i=z:=by
     have h3:((aG T a).take i)[i-1]?=some z:=by
      have hl:Z.length=i-1:=by
       have:=aW List.length e;rw[fV,rE hil]at this;simp at this;omega
      rw[e,<-hl,Ab (ay _)];simp
     rw[Lj (by omega)]at h3;unfold oU;rw[h3];rfl
    cases e2:aY T z with
    |true=>rfl
    |false=>exact absurd ⟨hi1,by rw[hz];exact e2⟩ hc
   have TD:=Sk hV hI (by omega) (by unfold uh aI;rw[hel];rfl) a1 hH λe1 e2 z Z e3=>by
    rw[mJ T (d:=pW s) rfl]at e3;have:=hi0 e1 e2 z Z e3;unfold lI at this |-;rw[(kJ T (pW s)).named (dW hw (by rw[e3];simp) (by omega)).2];exact this
   refine⟨hV.ins hI (by omega) (by omega) a1 (by omega) (λz Z hz=> ?_) (.inr λZ z e=> ?_) TD.1 TD.2 (h.tr.hms hN),λx hx=> ?_,λA y B e=> ?_,h.hd,λx hx=> ?_⟩
   ·rw[hka]at hz;rw[Jl (dW hw (show z∈aG T a from pQ (by rw[hz];simp)) (by omega)).2];exact hdr z Z hz
   ·rw[hka]at e;rw[Jl (dW hw (show z∈aG T a from Ej (by rw[e];simp)) (by omega)).2];exact vE Z z e
   ·rw[hN.el x (hpos x hx).2];exact h.el x hx
   ·have hy:=hpos y (by rw[e];simp);have hA: ∀x∈A,1<=x/\x<T.ai.length:=λx hx=>hpos x (by rw[e];simp[hx])
    refine((h.pt A y B e).add (d:=pW s) hw rfl hy hA).ins (S:=λq=>q=T.ai.length) hV.wf hI (by omega) ⟨hy.1,by omega⟩ (λx hx=> ?_) ⟨by omega,by omega⟩ rfl ?_ (λx hx=> ?_) (λq hq=>by omega) ⟨by omega,by omega⟩ (.inr λA' x e2 b1 Z hZ=> ?_)
    ·have:=hA x hx;exact⟨by omega,this.1,by omega⟩
    ·rintro q rfl k hk2;rw[vV T rfl]at hk2;cases hk2
    ·have:=hA x hx;omega
    ·rw[hka]at hZ;unfold lD at b1;rw[(kJ T (pW s)).stop (hA x (by rw[e2];simp)).2]at b1;exact hsf A y B e A' x e2 b1 Z hZ
   ·unfold uh;rw[hN.named (hpos x (pQ hx)).2];exact h.bd x hx
  ·rw[aj hm];exact⟨λhh=>absurd (show(43:Int)=0 from hh) (by decide),.inr rfl⟩
theorem FR.pre (h:FR H T (l++m)) (hd: ∃r,l=1::r):FR H T l:=by
 refine⟨h.tr,λx hx=>h.el x (sQ _ hx),h.pt.pre,hd,λx hx=>h.bd x ?_⟩;by_cases h2:2<=l.length
 ·rw[QT h2];exact sQ _ hx
 ·rw[Xh (by omega)]at hx;cases hx
theorem FR.rm (h:FR H T (A++z::B)) (hA:A≠ []) (hz:aI T z lC=false) (hb:lD T z=false):FR H T (A++B):=by
 have hz1:z≠1:=λe=>by rw[e,Av h.tr]at hb;cases hb
 have hmem: ∀x∈A++B,x∈A++z::B:=λx hx=>by
  rcases fB.1 hx with hx|hx
  ·exact sQ _ hx
  ·exact xf _ (gm _ hx)
 refine⟨h.tr,λx hx=>h.el x (hmem x hx),λC y E e=> ?_,?_,λx hx=>h.bd x ?_⟩
 ·rcases Xj.1 e with⟨C',e1,e2⟩|⟨E',e1,e2⟩
  · --y is in B
    have e3:A++z::B=(A++z::C')++y::E:=by rw[e2];simp
    obtain⟨⟨S,s1,s2,s3⟩,q2,q3,q4,q5⟩:=h.pt _ y E e3;rw[e1];refine⟨⟨S,s1,s2,λx hx=>s3 x ?_⟩,q2,λht x hx=>q3 ht x ?_,λhr=> ?_,λA' x e4 b1 b2=> ?_⟩
    ·rcases fB.1 hx with hx|hx <;>simp[hx]
    ·rcases fB.1 hx with hx|hx <;>simp[hx]
    ·obtain⟨A',x,e4,e5,e6⟩:=q4 hr;rcases yM C' with rfl|⟨C2,w,rfl⟩
     ·have:=(dH (yP e4 rfl).2).1;rw[<-this]at e5;rcases e5 with e5|e5
      ·rw[hz]at e5;cases e5
      ·exact absurd e5 hz1
     ·rw[yO]at e4 |-;have e7:A++z::(C2++ [w])=(A++z::C2)++ [w]:=by simp
      rw[e7]at e4;have:=(dH (yP e4 rfl).2).1;exact⟨A++C2,x,by rw[<-this];simp,e5,e6⟩
    ·rcases yM C' with rfl|⟨C2,w,rfl⟩
     ·exact q5 A z rfl hb b2
     ·rw[yO]at e4 q5;have e7:A++(C2++ [w])=(A++C2)++ [w]:=by simp
      rw[e7]at e4;have:=(dH (yP e4 rfl).2).1;exact q5 (A++z::C2) x (by rw[<-this];simp) b1 b2
  · --y is in A,or B's first
    cases E' with
    |nil =>
     rw[kI]at e1;rw[jZ]at e2;subst e1;have e3:A++z::B=(A++ [z])++y::E:=by rw[<-e2];simp
     obtain⟨⟨S,s1,s2,s3⟩,q2,q3,q4,q5⟩:=h.pt _ y E e3;refine⟨⟨S,s1,s2,λx hx=>s3 x (by simp[hx])⟩,q2,λht x hx=>q3 ht x (by simp[hx]),λhr=> ?_,λA' x e4 b1 b2=>q5 A z rfl hb b2⟩;obtain⟨A',x,e4,e5,e6⟩:=q4 hr;have:=(dH (yP e4 rfl).2).1;rw[<-this]at e5;rcases e5 with e5|e5
     ·rw[hz]at e5;cases e5
     ·exact absurd e5 hz1
    |cons w E' =>
     rw[mq]at e2;obtain⟨rfl,e2⟩:=dH e2;exact h.pt C y (E'++z::B) (by rw[e1];simp)
 ·obtain⟨r,hr⟩:=h.hd;cases A with
  |nil=>exact absurd rfl hA
  |cons w A=>exact⟨A++B,by rw[(dH hr).1];rfl⟩
 ·cases A with
  |nil=>exact absurd rfl hA
  |cons w A =>
   cases A with
   |nil=>exact pQ (i:=1) hx
   |cons v A =>
    have hx':x∈A++B:=hx;show x∈A++z::B;rcases fB.1 hx' with hx|hx <;>simp[hx]
end
end
section
structure Tak (T U:aB) (b:Int):Prop where
 wf:WF U
 len:U.ai.length=T.ai.length
 aP: ∀j:Int,aG U j=(aG T j).filter (· !=b)
 par: ∀j:Int,0<=j->j<T.ai.length->aJ U j=if j=b then -1 else aJ T j
 jS:BA T U
 tx: ∀x,DJ U x=DJ T x
structure Tp (T:aB) (A:List Int) (y:Int):Prop where
 sep:Sep (aG T) A y
 bnd:lD T y=false
 row:aI T y lC=false
 nst:TG T y
 hb:uh T y=false
structure FU (H:List Int) (U:aB) (l1:List Int) (last:Int) (rest:List Int):Prop where
 fr:FR H U l1
 el: ∀x∈last::rest,aY U x=true
 par:aJ U last= -1
 tp: ∀A y B,last::rest=A++y::B->Tp U (l1++A) y
 at': ∀y∈rest,0<=aJ U y
section
variable {T U V W:aB} {H l l1 l2 m A B P D rest:List Int} {a n x y z k b f last:Int} {i:Nat} {S:Int->Prop} {d:ND}
theorem aaG (T:aB) (j:Int):aG T j=aG T (j.toNat:Nat):=by unfold aG;rw[kg]
theorem ad9 (hw:WF T) (h1:1<=b) (hb:b<T.ai.length):Tak T (bG T b) b:=by
 obtain⟨N,rfl⟩:=bQ (show 0<=b by omega);refine⟨LM hw (by omega) (by omega),gL T N,λj=> ?_,λj h0 hj=> ?_,aeT T N,Z5 T N⟩
 ·rw[aaG,aaG T j];rcases lG j.toNat T.ai.length with h|h
  ·rw[Ak hw (by omega) j.toNat h];split
   ·rfl
   ·rename_i hn;refine(Eo.2 λy hy=>jJ.2 ?_).symm;rintro rfl;exact hn (hw.kid j.toNat h _ hy).2.2.symm
  ·unfold aG;rw[kg,nS (by rw[gL];exact h),nS h];rfl
 ·obtain⟨J,rfl⟩:=bQ h0;exact sW J (by omega)
theorem Tak.sub (h:Tak T U b) {j:Int} (hk:k∈aG U j):k∈aG T j:=by rw[h.aP]at hk;exact(qE.1 hk).1
theorem Tak.sep (h:Tak T U b) {A':List Int} (hs:Sep (aG T) A y) (hA: ∀x∈A',x∈A):Sep (aG U) A' y:=by
 obtain⟨S,s1,s2,s3⟩:=hs;exact⟨S,s1,λd hd k hk=>s2 d hd k (h.sub hk),λx hx=>s3 x (hA x hx)⟩
theorem Tak.cons (h:Tak T U b) (hw:WF T) {j:Int} (h0:0<=j) {x k:Int} (e:aG U j=A++x::k::B):(∃A' B',aG T j=A'++x::k::B')\/ ∃A' B',aG T j=A'++x::b::k::B':=by
 rw[h.aP]at e;rcases acg (b:=b) (Az hw h0)with⟨_,e2⟩|⟨P,D,e2,e3⟩
 ·rw[e2]at e;exact .inl ⟨A,B,e⟩
 ·rw[e3]at e;obtain⟨A',B',e4⟩:=Wj (b:=b) e;rw[e2];exact e4.imp (λe=>⟨A',B',e⟩) λe=>⟨A',B',e⟩
theorem Tak.nsx (h:Tak T U b) (hw:WF T) (hb:TG T b) (hy:TG T y):TG U y:=by
 intro p p0 p1 A k B e;rw[h.len]at p1;have hk:k∈aG T p:=h.sub (j:=p) (by rw[e];simp);rw[h.jS.el k (dW hw hk p0).2];rcases h.cons hw p0 e with⟨A',B',e'⟩|⟨A',B',e'⟩
 ·exact hy p p0 p1 A' k B' e'
 ·exact hb p p0 p1 (A'++ [y]) k B' (by rw[e'];simp)
theorem Tak.pt (h:Tak T U b) (hw:WF T) (hb:TG T b) (hp:Pt T A y) (hy:1<=y/\y<T.ai.length) (hyb:y≠b) (hA: ∀x∈A,1<=x/\x<T.ai.length/\x≠b):Pt U A y:=by
 obtain⟨h1,h2,h3,h4,h5⟩:=hp;have hpy:aJ U y=aJ T y:=by rw[h.par y (by omega) hy.2,aj hyb]
 refine⟨h.sep h1 λ_ hx=>hx,by rw[hpy];exact h2,λht x hx=> ?_,λhr=> ?_,λA' x e b1 b2=> ?_⟩
 ·obtain⟨x1,x2,x3⟩:=hA x hx;rw[hpy,h.par x (by omega) x2,aj x3];exact h3 (by unfold lI at ht |-;rw[<-h.jS.named hy.2];exact ht) x hx
 ·obtain⟨A',x,e,e2,e3⟩:=h4 (by unfold xw at hr |-;rw[<-h.jS.named hy.2];exact hr);exact⟨A',x,e,e2.imp (λe2=>by rw[h.jS.named (hA x (by rw[e];simp)).2.1];exact e2) id,hpy.trans e3⟩
 ·unfold lD at b1 b2;rw[h.jS.stop (hA x (by rw[e];simp)).2.1]at b1;rw[h.jS.stop hy.2]at b2;exact h.nsx hw hb (h5 A' x e b1 b2)
theorem Tak.tr (h:Tak T U b) (ht:Tr H T) (hb:TG T b) (hb1:b≠1) (hbh:uh T b=false):Tr H U:=by
 have h2:=ht.two;refine⟨h.wf,λp p0 p1 A j k B e=> ?_,λj j1 j2 he=> ?_,?_,(h.jS.nm 1 ht.e1).trans ht.n1,(h.jS.el 1 (by omega)).trans ht.e1,(h.jS.sp 1 ht.e1).trans ht.s1,?_,?_,ht.hms h.jS,ht.nhs h.jS h.len⟩
 ·rw[h.len]at p1;have hj:j∈aG T p:=h.sub (j:=p) (by rw[e];simp);have hk:k∈aG T p:=h.sub (j:=p) (by rw[e];simp);rw[h.jS.el j (dW ht.wf hj p0).2,h.jS.el k (dW ht.wf hk p0).2];rcases h.cons ht.wf p0 e with⟨A',B',e'⟩|⟨A',B',e'⟩
  ·exact ht.tt p p0 p1 A' j k B' e'
  ·exact .inr (hb p p0 p1 (A'++ [j]) k B' (by rw[e'];simp))
 ·rw[h.len]at j2;rw[h.tx];exact ht.tx j j1 j2 (by rw[<-h.jS.el j j2];exact he)
 ·rw[h.aP,ht.k0,Ll (by rw[jJ];exact λe=>hb1 e.symm)];rfl
 ·rw[h.aP];have e1:((aG T 1).filter (· !=b)).filter (uh U)=((aG T 1).filter (· !=b)).filter (uh T):=Iz λz hz=>h.jS.named (dW ht.wf (qE.1 hz).1 (by omega)).2 _
  rw[e1,List.filter_filter,<-ht.hb];refine Iz λz hz=> ?_
  by_cases e:z=b
  ·rw[e,hbh];rfl
  ·rw[show(z !=b)=true from jJ.2 e,Bool.and_true]
 ·rw[h.aP];rcases ht.h1 with⟨e1,e2⟩|⟨z,R,K,e1,e2⟩
  ·exact .inl ⟨e1,by rw[e2];rfl⟩
  ·refine .inr ⟨z,R,K.filter (· !=b),e1,?_⟩;rw[e2,Ll];rw[jJ];rintro rfl;have:z∈(aG T 1).filter (uh T):=by rw[ht.hb,e1];exact dR
   have:=(qE.1 this).2;rw[hbh]at this;cases this
theorem FR.qm (h:FR H T (l1++f::m)) (hl1:l1≠ []) (hf:aI T f lC=false) (hbn: ∀x∈f::m,lD T x=false): ∀A y B,m=A++y::B->Tp T (l1++f::A) y:=by
 have hrow: ∀(n:Nat) (A:List Int) (y:Int) (B:List Int),A.length<=n->m=A++y::B->aI T y lC=false:=by
  intro n
  induction n with
  |zero =>
   intro A y B hA e;rw[rF (Nat.le_zero.1 hA)]at e;cases hr:aI T y lC with
   |false=>rfl
   |true =>
    exfalso;have hp:=h.pt (l1++ [f]) y B (by rw[e];simp);have hb:lD T y=false:=hbn y (by rw[e];simp)
    have hnt:lI T y=false:=by
     cases ht:lI T y with
     |false=>rfl
     |true=>rw[yg ht]at hb;cases hb
    have hrb:xw T y=true:=by
     unfold xw lI aI at *;simp only[cz]at hr |-;rw[hr.1,hr.2.1,nW,nW]at hnt;have h2:=hr.2.2;unfold lC at h2;unfold lH at hnt;rw[lT,jD]at h2;rw[lT,Ae]at hnt;exact⟨hr.1,hr.2.1,h2.resolve_left (by rw[hnt.1];decide)⟩
    obtain⟨A',x,e1,e2, -⟩:=hp.row hrb;obtain rfl:=(dH (yP e1 rfl).2).1;rcases e2 with e2|e2
    ·rw[hf]at e2;cases e2
    ·have:=hbn f dR;rw[e2,Av h.tr]at this;cases this
  |succ n ih =>
   intro A y B hA e;rcases yM A with rfl|⟨A2,w,rfl⟩
   ·exact ih [] y B (bD _) e
   ·rw[yO]at e hA;cases hr:aI T y lC with
    |false=>rfl
    |true =>
     exfalso;have hp:=h.pt (l1++f::(A2++ [w])) y B (by rw[e];simp);have hb:lD T y=false:=hbn y (by rw[e];simp)
     have hnt:lI T y=false:=by
      cases ht:lI T y with
      |false=>rfl
      |true=>rw[yg ht]at hb;cases hb
     have hrb:xw T y=true:=by
      unfold xw lI aI at *;simp only[cz]at hr |-;rw[hr.1,hr.2.1,nW,nW]at hnt;have h2:=hr.2.2;unfold lC at h2;unfold lH at hnt;rw[lT,jD]at h2;rw[lT,Ae]at hnt;exact⟨hr.1,hr.2.1,h2.resolve_left (by rw[hnt.1];decide)⟩
     obtain⟨A',x,e1,e2, -⟩:=hp.row hrb;rw[show l1++f::(A2++ [w])=(l1++f::A2)++ [w] by simp]at e1;obtain rfl:=(dH (yP e1 rfl).2).1;rcases e2 with e2|e2
     ·rw[ih A2 w (y::B) (by simp at hA;omega) (by rw[e];simp)]at e2;cases e2
     ·have:=hbn w (by rw[e];simp);rw[e2,Av h.tr]at this;cases this
 intro A y B e;have hp:=h.pt (l1++f::A) y B (by rw[e];simp);have hb:lD T y=false:=hbn y (by rw[e];simp);refine⟨hp.sep,hb,hrow A.length A y B (ay _) e,?_,h.bd y ?_⟩
 ·rcases yM A with rfl|⟨A2,w,rfl⟩
  ·exact hp.nst l1 f rfl (hbn f dR) hb
  ·rw[yO]at e hp;exact hp.nst (l1++f::A2) w (by simp) (hbn w (by rw[e];simp)) hb
 ·have hy:y∈m:=by rw[e];simp
  cases l1 with
  |nil=>exact absurd rfl hl1
  |cons w l1 =>
   cases l1 with
   |nil=>exact hy
   |cons v l1=>exact xf _ (gm _ hy)
theorem FR.o' (h:FR H T (l1++f::(m++b::l2))) (hl1:l1≠ []) (hf:aI T f lC=false) (hbn: ∀x∈f::(m++b::l2),lD T x=false):FU H (bG T b) l1 b l2:=by
 have htp:=h.qm hl1 hf hbn;have hb:=htp m b l2 rfl;have hbe:=h.el b (by simp);obtain⟨b1,b2⟩:=eP hbe;have hT:=ad9 h.tr.wf b1 b2;have hnd:=uD h.pt;have hb1:b≠1:=λe=>by have:=hb.bnd;rw[e,Av h.tr]at this;cases this
 have amS: ∃r,l1=1::r:=by
  obtain⟨r,hr⟩:=h.hd;cases l1 with
  |nil=>exact absurd rfl hl1
  |cons w l1=>exact⟨l1,by rw[(dH hr).1]⟩
 have hpre:=h.pre (l:=l1) (m:=f::(m++b::l2)) amS
 have am': ∀x∈l1,x≠b:=λx hx e=>by
  rw[oK]at hnd;exact hnd.2.2 x hx b (by simp) e
 have hpos: ∀x∈l1++f::(m++b::l2),1<=x/\x<T.ai.length:=λx hx=>eP (h.el x hx)
 refine⟨⟨hT.tr h.tr hb.nst hb1 hb.hb,λx hx=> ?_,λA y B e=> ?_,amS,λx hx=> ?_⟩,λx hx=> ?_,by rw[hT.par b (by omega) b2,au rfl],λA y B e=> ?_,λy hy=> ?_⟩
 ·rw[hT.jS.el x (hpos x (by simp[hx])).2];exact hpre.el x hx
 ·have hy:y∈l1:=by rw[e];simp
  have hyp:=hpos y (by simp[hy]);refine hT.pt h.tr.wf hb.nst (hpre.pt A y B e) hyp (am' y hy) λx hx=> ?_
  have hxl:x∈l1:=by rw[e];simp[hx]
  have:=hpos x (by simp[hxl]);exact⟨this.1,this.2,am' x hxl⟩
 ·unfold uh;rw[hT.jS.named (hpos x (by simp[pQ hx])).2];exact hpre.bd x hx
 ·have hx':x∈l1++f::(m++b::l2):=by
   rcases dS.1 hx with rfl|hx
   ·simp
   ·simp[hx]
  rw[hT.jS.el x (hpos x hx').2];exact h.el x hx'
 ·obtain⟨q1,q2,q3,q4,q5⟩:=htp (m++A) y B (by rw[e];simp);have hyl:y∈l1++f::(m++b::l2):=by rw[e];simp
  have hyp:=hpos y hyl;refine⟨hT.sep q1 λx hx=> ?_,?_,?_,hT.nsx h.tr.wf hb.nst q4,?_⟩
  ·rcases fB.1 hx with hx|hx <;>simp[hx]
  ·unfold lD;rw[hT.jS.stop hyp.2];exact q2
  ·rw[hT.jS.named hyp.2];exact q3
  ·unfold uh;rw[hT.jS.named hyp.2];exact q5
 ·have hyl:y∈l1++f::(m++b::l2):=by simp[hy]
  have hyp:=hpos y hyl
  have hne:y≠b:=by
   rintro rfl;rw[oK]at hnd;have h2:=(mh.1 hnd.2.1).2;rw[oK]at h2;exact(mh.1 h2.2.1).1 hy
  rw[hT.par y (by omega) hyp.2,aj hne];obtain⟨P,Q,hPQ⟩:=vO hy;exact(h.pt (l1++f::(m++b::P)) y Q (by rw[hPQ];simp)).Bz
end
end
section
def vB (T:aB) (x:Int):ND:=fQ (aX T x) (bq T x) (bW T x)
section
variable {T U V W:aB} {H l l1 l2 m A B P D rest:List Int} {a n x y z k b f last:Int} {i:Nat} {S:Int->Prop} {d:ND}
theorem Dh (h1:1<=T.ai.length) (hd:d.elem=true):aX (bL T d) T.ai.length=d.aN/\bq (bL T d) T.ai.length=d.ah:=by
 have he:=(kG T d h1).trans hd;have hg:(bL T d).ai[T.ai.length]?=some d:=by simp[bL]
 unfold aX bq;rw[he,au rfl,au rfl,kg,hg];exact⟨rfl,rfl⟩
theorem uF (h1:1<=U.ai.length) (hx:aY T x=true) (N:List ae):aI (bL U (vB T x)) U.ai.length N=aI T x N:=by
 obtain⟨e1,e2⟩:=Dh (T:=U) (d:=vB T x) h1 rfl;unfold aI;rw[e1,e2,(kG U (vB T x) h1).trans rfl,hx];rfl
theorem PV (h1:1<=U.ai.length) (hx:aY T x=true):lD (bL U (vB T x)) U.ai.length=lD T x:=by
 obtain⟨e1,e2⟩:=Dh (T:=U) (d:=vB T x) h1 rfl;unfold lD sZ;rw[e1,e2,(kG U (vB T x) h1).trans rfl,hx];rfl
theorem PU (hx:aY T x=true):((dm T x).2.2=0/\dm T x=(bL T (vB T x),(T.ai.length:Int),0))\/(dm T x).2.2=43:=by
 unfold dm;rw[au hx];unfold qz;by_cases h:(T.ai.length:Int)-1<T.gy
 ·rw[au h];exact .inl ⟨rfl,rfl⟩
 ·rw[aj h];exact .inr rfl
theorem ahx (h1:1<=n) (hn:n<W.ai.length) (hp:aJ W n= -1):bG W n=W:=by
 obtain⟨N,rfl⟩:=bQ (show 0<=n by omega);rw[bG,iD,hp,aj (by omega)];refine BP rfl rfl λi=> ?_
 rw[zD];split
 ·rename_i hi;subst hi;rw[mi (by omega)];have:(W.ai[N]'(by omega)).parent= -1:=by rw[<-Ao W N (by omega)];exact hp
  simp only[sP,fo];rw[<-this]
 ·rfl
theorem take_add (hw:WF T) (h1:1<=n) (hn:n<T.ai.length):bG (bL T d) n=bL (bG T n) d:=by
 obtain⟨N,rfl⟩:=bQ (show 0<=n by omega);have Ky:aJ (bL T d) N=aJ T N:=yw T d N (by omega);have hpl:=(hw.par N (by omega)).2
 have hmod: ∀(V:aB) (j:Nat) (g:ND->ND),j<V.ai.length->iK (bL V d) j g=bL (iK V j g) d:=λV j g hj=>by
  refine BP rfl rfl λi=> ?_
  unfold iK bL;simp only[kg,xg];rcases Nat.lt_trichotomy i V.ai.length with h|h|h
  ·rw[vN h,vN (by rw[Lg];exact h),xg]
  ·subst h;have hne: ¬j=V.ai.length:=by omega
   rw[Ab (ay _),Ab (by rw[Lg];exact ay _),Lg,wX];simp[hne]
  ·rw[nS (by simp;omega),nS (by simp;omega)];rfl
 have hoff:iD (bL T d) N=bL (iD T N) d:=by
  unfold iD;rw[Ky];by_cases h0:0<=aJ T N
  ·rw[au h0,au h0];obtain⟨P,hP⟩:=bQ h0;have hk:aG (bL T d) P=aG T P:=wU T d P (by omega);rw[hP,hk];exact hmod T P _ (by omega)
  ·rw[aj h0,aj h0]
 unfold bG;rw[hoff];exact hmod _ N _ (by rw[yj];omega)
theorem Ins.nsx (hI:Ins V W a i n) (hw:WF V) (h1:1<=n/\n<V.ai.length) (hp:aJ V n= -1) (ha:0<=a) (hd: ∀z Z,(aG V a).drop i=z::Z->aY V z=true):TG W n:=by
 intro p p0 p1 Z k Y ek;rw[hI.len]at p1;rw[hI.aP p p0 p1]at ek
 have hno: ∀q,0<=q->n∉aG V q:=λq hq hx=>by
  have:=xC hw hq hx;omega
 by_cases Ky:p=a
 ·rw[au Ky,Ky]at ek
  have hnd:((aG V a).take i++n::(aG V a).drop i).Nodup:=by
   have h3:=Az hI.wf ha;rw[hI.aP a ha (by omega),au rfl]at h3;exact h3
  have e6:=sw (M':=k::Y) hnd ek;rw[e6]at ek;have e7:=(dH (Xk ek)).2;have hkk:k∈aG V a:=pQ (by rw[e7];simp);rw[hI.jS.el k (dW hw hkk ha).2];exact hd k Y e7
 ·rw[aj Ky]at ek;exact absurd (show n∈aG V p by rw[ek];simp) (hno p p0)
theorem FU.wrap (h:FU H U l1 last rest) (hp:d.parent= -1) (hk:d.aP= []) (he:d.elem=true) (q1:lD (bL U d) U.ai.length=false) (q2:aI (bL U d) U.ai.length lC=false) (q3:uh (bL U d) U.ai.length=false) (hH:H≠ []) :
 FU H (eF (bL U d) U.ai.length 0 last) l1 U.ai.length (last::rest)/\WF (eF (bL U d) U.ai.length 0 last):=by
 have hw:=h.fr.tr.wf;have h2:=h.fr.tr.two;have hlen:=lv U d;obtain⟨b1,b2⟩:=eP (h.el last dR);have hwV:=Bd hw d hp hk;have hEn:aY (bL U d) U.ai.length=true:=(kG U d hw.pos).trans he;have htl:=h.tp [] last rest rfl;obtain⟨S,s1,s2,s3⟩:=htl.sep;rw[kI]at s3
 have wK: ∀z∈l1++last::rest,1<=z/\z<U.ai.length:=λz hz=>by
  rcases fB.1 hz with hz|hz
  ·exact eP (h.fr.el z hz)
  ·exact eP (h.el z hz)
 have hI:Ins (bL U d) (eF (bL U d) U.ai.length 0 last) U.ai.length 0 last:=by
  refine YS (S:=λq=>S q/\0<=q/\q<U.ai.length) hwV b1 (by omega) ?_ (by unfold dw;rw[hEn,sU]) ⟨s1,by omega,b2⟩ ?_ (λq=>by omega) 0
  ·rw[Aq (by omega) b2];exact h.par
  ·rintro q ⟨hq,hq0,hq1⟩ k hk2;rw[mJ U hk]at hk2;have:=dW hw hk2 hq0;exact⟨s2 q hq k hk2,by omega,this.2⟩
 generalize eF (bL U d) U.ai.length 0 last=W at hI |-;have hN:BA U W:=(kJ U d).trans hI.jS
 have hKo: ∀j:Int,0<=j->j<U.ai.length->aG W j=aG U j:=λj j0 j1=>by
  rw[hI.aP j j0 (by omega),aj (by omega),mJ U hk]
 have hKc:aG W U.ai.length= [last]:=by
  rw[hI.aP _ (by omega) (by omega),au rfl,vV U hk];rfl
 have hPo: ∀j:Int,0<=j->j<U.ai.length->j≠last->aJ W j=aJ U j:=λj j0 j1 hne=>by
  rw[hI.par j j0 (by omega),aj hne,Aq j0 j1]
 have hPl:aJ W last=U.ai.length:=by rw[hI.par last (by omega) (by omega),au rfl]
 have hPc:aJ W U.ai.length= -1:=by rw[hI.par _ (by omega) (by omega),aj (by omega),F8 hw hp]
 have htr:Tr H W:=by
  have hV:=h.fr.tr.add hp hk (.inl he) (aeE q3)
  have TD:=Sk hV hI (by omega) (by
   unfold uh;rw[(kJ U d).named b2]
   exact htl.hb) (by omega) hH λe=>by omega
  exact hV.ins hI b1 (by omega) (by omega) (by omega) (λz Z e=>by rw[vV U hk]at e;cases e) (.inl (by rw[Jl b2];exact h.el last dR)) TD.1 TD.2 (h.fr.tr.hms hN)
 have hcl: ∀ {Q:Int->Prop},Clo (aG U) Q->Clo (aG W) λq=>Q q/\0<=q/\q<U.ai.length:=λhQ q ⟨q1,q2,q3⟩ k hk2=>by
  rw[hKo q q2 q3]at hk2;have:=dW hw hk2 q2;exact⟨hQ q q1 k hk2,by omega,this.2⟩
 have air: ∀y,y≠last->y<U.ai.length->TG U y->TG W y:=λy hne hy hns p p0 p1 Z k Y ek=>by
  rw[hI.len,hlen]at p1;rcases mZ p U.ai.length with hl|hl
  ·rw[hKo p p0 hl]at ek;rw[hN.el k (dW hw (by rw[ek];simp) p0).2];exact hns p p0 hl Z k Y ek
  ·have:p=U.ai.length:=by omega
   rw[this,hKc]at ek;have:Z.length+2<=1:=by have:=aW List.length ek;simp at this;omega
   omega
 refine⟨⟨⟨htr,λx hx=> ?_,λA y B e=> ?_,h.fr.hd,λx hx=> ?_⟩,λx hx=> ?_,hPc,λA y B e=> ?_,λy hy=> ?_⟩,hI.wf⟩
 ·rw[hN.el x (wK x (by simp[hx])).2];exact h.fr.el x hx
 ·have hyl:y∈l1:=by rw[e];simp
  have hy:=wK y (by simp[hyl]);have hA: ∀x∈A,1<=x/\x<U.ai.length:=λx hx=>wK x (by rw[e];simp[hx])
  have hyb:y≠last:=λe2=>s3 y hyl (e2▸s1)
  refine((h.fr.pt A y B e).add hw hk hy hA).ins (S:=λq=>S q/\0<=q/\q<U.ai.length) hwV hI hyb ⟨hy.1,by omega⟩ (λx hx=> ?_) ⟨b1,by omega⟩ ⟨s1,by omega,b2⟩ ?_ (λx hx q=>s3 x (by rw[e];simp[hx]) q.1) (λq hq=>hq.2.1) ⟨by omega,by omega⟩ (.inl (by rw[Jl b2];exact h.el last dR))
  ·have:=hA x hx;exact⟨λe2=>s3 x (by rw[e];simp[hx]) (e2▸s1),this.1,by omega⟩
  ·rintro q ⟨hq,hq0,hq1⟩ k hk2;rw[mJ U hk]at hk2;have:=dW hw hk2 hq0;exact⟨s2 q hq k hk2,by omega,this.2⟩
 ·unfold uh;rw[hN.named (wK x (by simp[pQ hx])).2];exact h.fr.bd x hx
 ·rcases dS.1 hx with rfl|hx
  ·rw[hI.jS.el _ (by omega)];exact hEn
  ·rw[hN.el x (wK x (xf _ hx)).2];exact h.el x hx
 ·have e0:=e;clear e;cases A with
  |nil =>
   obtain⟨rfl, -⟩:=dH e0;rw[kI];refine⟨⟨λq=>(S q/\0<=q/\q<U.ai.length)\/q=U.ai.length,.inr rfl,?_,λx hx=> ?_⟩,?_,?_,?_,?_⟩
   ·rintro q (hq|rfl) k hk2
    ·exact .inl (hcl s2 q hq k hk2)
    ·rw[hKc]at hk2;rw[dG.1 hk2];exact .inl ⟨s1,by omega,b2⟩
   ·have:=wK x (by simp[hx]);rintro(hq|hq)
    ·exact s3 x hx hq.1
    ·omega
   ·unfold lD;rw[hI.jS.stop (by omega)];exact q1
   ·rw[hI.jS.named (by omega)];exact q2
   ·intro p p0 p1 Z k Y ek;have:=xC hI.wf p0 (show(U.ai.length:Int)∈aG W p by rw[ek];simp);omega
   ·unfold uh;rw[hI.jS.named (by omega)];exact q3
  |cons w A =>
   obtain⟨rfl,e⟩:=dH e0;clear e0;obtain⟨⟨Q,t1,t2,t3⟩,u2,u3,u4,u5⟩:=h.tp A y B e;have hyl:y∈l1++last::rest:=by rw[e];simp
   have hy:=wK y hyl;refine⟨⟨λq=>Q q/\0<=q/\q<U.ai.length,⟨t1,by omega,hy.2⟩,hcl t2,λx hx=> ?_⟩,?_,?_,?_,?_⟩
   ·rcases fB.1 hx with hx|hx
    ·exact λq=>t3 x (by simp[hx]) q.1
    ·rcases dS.1 hx with rfl|hx
     ·exact λq=>by omega
     ·exact λq=>t3 x (by simp[hx]) q.1
   ·unfold lD;rw[hN.stop hy.2];exact u2
   ·rw[hN.named hy.2];exact u3
   ·by_cases hne:y=last
    ·subst hne;exact hI.nsx hwV ⟨b1,by omega⟩ (by rw[Aq (by omega) b2];exact h.par) (by omega) λz Z e=>by rw[vV U hk]at e;cases e
    ·exact air y hne hy.2 u4
   ·unfold uh;rw[hN.named hy.2];exact u5
 ·by_cases hne:y=last
  ·rw[hne,hPl];omega
  ·have hyr:y∈rest:=(dS.1 hy).resolve_left hne;have:=wK y (by simp[hyr]);rw[hPo y (by omega) this.2 hne];exact h.at' y hyr
theorem FU.mV (h:FU H U l1 last rest) (hH:H≠ []) (on:Bool): ∃i:Nat,eT U (aZ U l1 on 0).1 (aZ U l1 on 0).2=i/\PL U l1 (aZ U l1 on 0).1 i/\((aZ U l1 on 0).2=0\/((aZ U l1 on 0).2∈l1/\(aZ U l1 on 0).2∈aG U (aZ U l1 on 0).1))/\FR H (eF U (aZ U l1 on 0).1 i last) (l1++last::rest)/\ ∀y∈last::rest,TG (eF U (aZ U l1 on 0).1 i last) y:=by
 obtain⟨i,hi,hP, -,hP3⟩:=h.fr.place on;refine⟨i,hi,hP,hP3,?_⟩;clear hi hP3;generalize (aZ U l1 on 0).1=a at hP |-;obtain⟨a1,a2,ho,hil,hln,hdr,hsf,hi0⟩:=hP;have hw:=h.fr.tr.wf;have h2:=h.fr.tr.two;obtain⟨b1,b2⟩:=eP (h.el last dR);have hle:=h.el last dR;have htl:=h.tp [] last rest rfl;obtain⟨S,s1,s2,s3⟩:=htl.sep;rw[kI]at s3
 have hno: ∀ {Q:Int->Prop},Clo (aG U) Q->(∀x∈l1,¬Q x)-> ¬Q a:=λhQ hx ha=>by
  rcases hln with hl|⟨z,hz,hzk⟩
  ·exact hx a hl ha
  ·exact hx z hz (hQ a ha z hzk)
 have wK: ∀z∈l1++last::rest,1<=z/\z<U.ai.length:=λz hz=>by
  rcases fB.1 hz with hz|hz
  ·exact eP (h.fr.el z hz)
  ·exact eP (h.el z hz)
 have hI:=YS hw b1 b2 h.par ho s1 s2 (hno s2 s3) i;generalize eF U a i last=W at hI |-;have TD:=Sk h.fr.tr hI b2 htl.hb a1 hH hi0
 have hcl: ∀ {Q:Int->Prop},Clo (aG U) Q->(∀x∈l1,¬Q x)->Clo (aG W) λq=>Q q/\0<=q/\q<U.ai.length:=fun {Q} hQ hx q ⟨q1,q2,q3⟩ k hk2=>by
  rw[hI.aP q q2 q3,aj (λe=>hno hQ hx (show Q a from by rw[<-e];exact q1))]at hk2;have:=dW hw hk2 q2;exact⟨hQ q q1 k hk2,by omega,this.2⟩
 have air: ∀y∈last::rest,TG W y:=by
  intro y hyr;by_cases hne:y=last
  ·rw[hne];exact hI.nsx hw ⟨b1,b2⟩ h.par (by omega) hdr
  ·obtain⟨C',B,e2⟩:=vO hyr;have u4:=(h.tp C' y B e2).nst;intro p p0 p1 Z k Y ek;rw[hI.len]at p1;rw[hI.aP p p0 p1]at ek
   have key: ∀Z' Y',aG U p=Z'++y::k::Y'->aY W k=true:=λZ' Y' e'=>by
    rw[hI.jS.el k (dW hw (by rw[e'];simp) p0).2];exact u4 p p0 p1 Z' k Y' e'
   by_cases Ky:p=a
   ·rw[au Ky]at ek;rcases G6 ek with⟨Z',Y',e'⟩|e'|⟨e',_⟩
    ·rw[nQ]at e';exact key Z' Y' e'
    ·rw[e',hI.jS.el last b2];exact hle
    ·exact absurd e' hne
   ·rw[aj Ky]at ek;exact key Z Y ek
 refine⟨⟨h.fr.tr.ins hI b1 b2 a1 a2 hdr (.inl hle) TD.1 TD.2 (h.fr.tr.hms hI.jS),λx hx=> ?_,λA y B e=> ?_,?_,λx hx=> ?_⟩,air⟩
 ·have:=wK x hx;rw[hI.jS.el x this.2];rcases fB.1 hx with hx|hx
  ·exact h.fr.el x hx
  ·exact h.el x hx
 ·rcases Xj.1 e with⟨C',e1,e2⟩|⟨E',e1,e2⟩
  · --from last on
    obtain⟨⟨Q,t1,t2,t3⟩,u2,u3,u4,u5⟩:=h.tp C' y B e2;rw[<-e1]at t3;have hyl:y∈l1++last::rest:=by rw[e];simp
    have hy:=wK y hyl;have hl1: ∀x∈l1,¬Q x:=λx hx=>t3 x (by rw[e1];simp[hx])
    refine⟨⟨λq=>Q q/\0<=q/\q<U.ai.length,⟨t1,by omega,hy.2⟩,hcl t2 hl1,λx hx q=>t3 x hx q.1⟩,?_,λht=> ?_,λhr=> ?_,λA' x _ _ _=> ?_⟩
    ·rw[hI.par y (by omega) hy.2];split
     ·omega
     ·rename_i hne;refine h.at' y ?_;cases C' with
      |nil=>exact absurd (dH e2).1.symm hne
      |cons w C'=>rw[(dH e2).2];simp
    ·exfalso;unfold lI at ht;rw[hI.jS.named hy.2]at ht;have:=yg (show lI U y=true from ht);rw[u2]at this;cases this
    ·exfalso;unfold xw aI at hr
     have hr2:aI W y lC=true:=by
      unfold aI;simp only[cz]at hr |-;refine⟨hr.1,hr.2.1,?_⟩;unfold lC;rw[lT,hr.2.2,sU]
     rw[hI.jS.named hy.2,u3]at hr2;cases hr2
    ·exact air y (by rw[e2];simp)
  · --under it
    cases E' with
    |nil =>
     rw[kI]at e1;rw[jZ]at e2;have e3:=dH e2;subst e1;obtain⟨⟨Q,t1,t2,t3⟩,u2,u3,u4,u5⟩:=h.tp [] last rest rfl;rw[e3.1];rw[kI]at t3;refine⟨⟨λq=>Q q/\0<=q/\q<U.ai.length,⟨t1,by omega,b2⟩,hcl t2 t3,λx hx q=>t3 x hx q.1⟩,?_,λht=> ?_,λhr=> ?_,λA' x _ _ _=>hI.nsx hw ⟨b1,b2⟩ h.par (by omega) hdr⟩
     ·rw[hI.par last (by omega) b2,au rfl];omega
     ·exfalso;unfold lI at ht;rw[hI.jS.named b2]at ht;have:=yg (show lI U last=true from ht);rw[u2]at this;cases this
     ·exfalso;unfold xw aI at hr
      have hr2:aI W last lC=true:=by
       unfold aI;simp only[cz]at hr |-;refine⟨hr.1,hr.2.1,?_⟩;unfold lC;rw[lT,hr.2.2,sU]
      rw[hI.jS.named b2,u3]at hr2;cases hr2
    |cons w E' =>
     have e3:=dH e2;obtain rfl:=e3.1;have hyl:y∈l1:=by rw[e1];simp
     have hy:=wK y (by simp[hyl]);have hA: ∀x∈A,x∈l1:=λx hx=>by rw[e1];simp[hx]
     refine(h.fr.pt A y E' e1).ins (S:=λq=>S q/\0<=q/\q<U.ai.length) hw hI (λe=>s3 y hyl (e▸s1)) hy (λx hx=> ?_) ⟨b1,b2⟩ ⟨s1,by omega,b2⟩ ?_ (λx hx q=>s3 x (hA x hx) q.1) (λq hq=>hq.2.1) ⟨by omega,a2⟩ (.inl hle)
     ·have:=wK x (by simp[hA x hx]);exact⟨λe=>s3 x (hA x hx) (e▸s1),this.1,this.2⟩
     ·rintro q ⟨hq,hq0,hq1⟩ k hk2;have:=dW hw hk2 hq0;exact⟨s2 q hq k hk2,by omega,this.2⟩
 ·obtain⟨r,rfl⟩:=h.fr.hd;exact⟨_,rfl⟩
 ·have hx2:x∈l1.drop 2\/x∈last::rest:=by
   by_cases hl2:2<=l1.length
   ·rw[QT hl2]at hx;exact fB.1 hx
   ·rw[List.drop_append]at hx;rcases fB.1 hx with hx|hx
    ·exact .inl hx
    ·exact .inr (pQ hx)
  unfold uh;rcases hx2 with hx2|hx2
  ·rw[hI.jS.named (wK x (by simp[pQ hx2])).2];exact h.fr.bd x hx2
  ·rw[hI.jS.named (wK x (xf _ hx2)).2];obtain⟨C,D,hCD⟩:=vO hx2;exact(h.tp C x D hCD).hb
end
end
section
section
variable {T U:aB} {l l1 l2 m D rest:List Int} {W s:List ax} {a b f n x t last:Int}
theorem Uw {A B:List Int} (h:x∉B):aT (A++x::B) x=A.length:=by
 rw[FZ,X9];have: ¬0<=aT B x:=by have:=ae6.1 h;omega
 rw[aj this,au rfl,au (vQ _),Int.add_zero]
theorem ajz {A B:List Int} (h:x∉B):vg (A++x::B) x=A++B:=by
 unfold vg iX;rw[Uw h,au (by omega),kg,Xg (ay _),wX];rfl
theorem ahB {A B:List Int} (h:x∉B) (y:Int):oO (A++x::B) x y=A++y::B:=by
 unfold oO;rw[Uw h,au (by omega),kg,Ei _ _ (ay _),wX];rfl
theorem aky {A B:List Int} (h:x∉B) (y:Int):Co (A++x::B) x y=A++x::y::B:=by
 unfold Co;rw[Uw h,au (by omega),kg];unfold qd;have e:A++x::B=(A++ [x])++B:=by simp
 have e2:A.length+1=(A++ [x]).length:=by simp
 rw[e,e2,List.take_left,List.drop_left];simp
theorem amy (T:aB) (a b:Int) (P R:List Int) (i:Int):DJ (MV T a b P R) i=DJ T i:=by
 unfold DJ;rw[JE];cases T.ai[i.toNat]? <;>rfl
theorem Zq {A B:List Int} {f b:Int} (hn:(l1++f::(A++b::B)).Nodup):df (l1++f::(A++b::B)) f b=A/\nX (l1++f::(A++b::B)) f=l1.getLast?.getD 0:=by
 have hn0:=hn;rw[oK]at hn0;obtain⟨n1,n2,n3⟩:=hn0;have hf:f∉A++b::B:=(mh.1 n2).1;have hb:b∉B:=(mh.1 (oK.1 (mh.1 n2).2).2.1).1;have e1:aT (l1++f::(A++b::B)) f=l1.length:=Uw hf
 have e2:aT (l1++f::(A++b::B)) b=(l1++f::A).length:=by
  rw[show l1++f::(A++b::B)=(l1++f::A)++b::B by simp];exact Uw hb
 unfold df nX;rw[e1,e2,kg,kg];refine⟨?_,?_⟩
 ·rw[show l1++f::(A++b::B)=(l1++f::A)++b::B by simp,List.take_left,show l1++f::A=(l1++ [f])++A by simp,show l1.length+1=(l1++ [f]).length by simp,List.drop_left]
 ·cases h:l1 with
  |nil=>rfl
  |cons y r =>
   rw[au (by simp),<-h];rw[Xf,vN (by rw[h];simp),List.getLast?_eq_getElem?]
end
end
section
structure Und (T W:aB) (d:ND) (b:Int):Prop where
 wf:WF W
 len:W.ai.length=T.ai.length+1
 kb:aG W b= [(T.ai.length:Int)]
 kc:aG W T.ai.length=aG T b
 ko: ∀j:Int,0<=j->j<T.ai.length->j≠b->aG W j=aG T j
 pc:aJ W T.ai.length=b
 pk: ∀k∈aG T b,aJ W k=T.ai.length
 po: ∀j:Int,0<=j->j<T.ai.length->j∉aG T b->aJ W j=aJ T j
 jS:BA (bL T d) W
 tx: ∀x,DJ W x=DJ (bL T d) x
structure Cp (T:aB) (x:Int):Prop where
 el:aY T x=true
 bnd:lD T x=false
 row:aI T x lC=false
 hb:uh T x=false
section
variable {T U V W:aB} {H l l1 l2 m A B P D rest:List Int} {a n x y z k b f last:Int} {i:Nat} {S:Int->Prop} {d:ND}
theorem Rx (hw:WF T) (hok:nu T a b n=true) (j:Int) (h0:0<=j) (hj:j<T.ai.length):aJ (fe T a b n).1 j=if j=n then a else aJ T j:=by
 have hok2:=hok;simp only[nu,cz]at hok2;obtain⟨⟨⟨⟨ha,hn⟩, -⟩, -⟩, -⟩:=hok2;obtain⟨a0,a1⟩:=jU hw.pos ha;obtain⟨n1,n2⟩:=Cn hn;obtain⟨A,rfl⟩:=bQ a0;obtain⟨N,rfl⟩:=bQ (show 0<=n by omega);obtain⟨J,rfl⟩:=bQ h0;rw[fe,au hok];show aJ (kr T A b N) J=_;unfold kr;rw[xG _ A N _ J (by rw[gL];omega),sW J (by omega)];split <;>rfl
theorem aet (hw:WF T) (hS:S b) (hc:Clo (aG T) S) (h:Reach T b x):x<T.ai.length->0<=b->S x:=by
 induction h with
 |here=>exact λ_ _=>hS
 | @up n h0 hr ih =>
   intro hn hb;have hp:=aeH hw (by omega) hn
   have h0p:0<=aJ T n:=by
    rcases mZ (aJ T n) 0 with hh|hh
    ·have:=(su (T:=T) (top:=b) (n:=aJ T n) (by omega)).1 hr;omega
    ·exact hh
   exact hc _ (ih hp hb) n (YO hw (by omega) hn h0p)
theorem akb (hw:WF T) (hbe:aY T b=true) (hp:d.parent= -1) (hk:d.aP= []) (he:d.elem=true):Und T (fe (kD (bL T d) b T.ai.length).1 b 0 T.ai.length).1 d b/\ ∀y,Reach T b y->y≠b->y<T.ai.length-> ∀k∈aG T y,Reach T b k/\k≠b:=by
 obtain⟨b1,b2⟩:=eP hbe;have hp0:=hw.pos;have hwV:=Bd hw d hp hk;have hlen:=lv T d;have hEn:aY (bL T d) T.ai.length=true:=(kG T d hp0).trans he;have hEb:aY (bL T d) b=true:=(Jl b2).trans hbe
 have hbf:gM (bL T d) T.ai.length b=false:=by
  have hnr: ¬Reach (bL T d) b T.ai.length:=λhr=>by
   have h1:=(Mk (T:=bL T d) (top:=b) (n:=T.ai.length) (by omega) (by omega)).1 hr;rw[F8 hw hp]at h1;have:=(su (T:=bL T d) (top:=b) (n:= -1) (by omega)).1 h1;omega
  simp[ky,hnr]
 have hcl: ∀y,Reach T b y->y≠b->y<T.ai.length-> ∀k∈aG T y,Reach T b k/\k≠b:=by
  intro y hy hne hyl k hk2
  have hy0:0<=y:=by
   rcases mZ 0 y with h|h
   ·omega
   ·have:=(su (T:=T) (top:=b) (n:=y) h).1 hy;omega
  have hkr:=dW hw hk2 hy0;have hpk:=xC hw hy0 hk2;refine⟨.up (by omega) (by rw[hpk];exact hy),?_⟩;rintro rfl;obtain⟨r,hr⟩:=hw.rank;obtain⟨K,rfl⟩:=bQ (show 0<=k by omega)
  have hy1:1<=y:=by
   rcases mZ 0 y with h|h
   ·exact h
   ·have:=(su (T:=T) (top:=(K:Int)) (n:=y) h).1 hy;omega
  have h5:=hr K (by omega) (by rw[hpk];exact hy1);rw[hpk]at h5;have h6:=Ml hw hr (by omega) hy hyl;omega
 refine⟨?_,hcl⟩;obtain⟨B,rfl⟩:=bQ (show 0<=b by omega)
 have hmv:(kD (bL T d) B T.ai.length).1=MV (bL T d) B T.ai.length (aG (bL T d) B) []:=by
  unfold kD;rw[hbf];unfold dw;rw[hEb,hEn];simp only[sU,QZ,Bool.and_self,dY];exact acr hwV (by omega) (by omega) (by unfold dw;rw[hEn,sU]) hbf
 have hwM:=(ae2 hwV B T.ai.length).1;have akF:=aeU (bL T d) B T.ai.length;rw[hmv]at hwM akF |-;rw[mJ T hk]at hwM akF |-
 have hKM: ∀j:Int,0<=j->j<T.ai.length+1->aG (MV (bL T d) B T.ai.length (aG T B) []) j=if j=T.ai.length then aG T B else if j=B then []else aG T j:=λj h0 hj=>by
  obtain⟨J,rfl⟩:=bQ h0;rw[Tq J (by omega)];by_cases e:(J:Int)=T.ai.length
  ·rw[au e,au e,vV T hk,jZ]
  ·rw[aj e,aj e,mJ T hk]
 have hPM: ∀j:Int,0<=j->j<T.ai.length+1->aJ (MV (bL T d) B T.ai.length (aG T B) []) j=if j∈aG T B then(T.ai.length:Int)else aJ (bL T d) j:=λj h0 hj=>by
  obtain⟨J,rfl⟩:=bQ h0;exact JD J (by omega)
 have hXM: ∀j,DJ (MV (bL T d) B T.ai.length (aG T B) []) j=DJ (bL T d) j:=λj=>amy _ _ _ _ _ j
 have hEM: ∀j,aY (MV (bL T d) B T.ai.length (aG T B) []) j=aY (bL T d) j:=λj=>abb _ _ _ _ _ j
 have hLM:(MV (bL T d) B T.ai.length (aG T B) []).ai.length=T.ai.length+1:=(N9 _ _ _ _ _).trans hlen;have hNM:BA (bL T d) (MV (bL T d) B T.ai.length (aG T B) []):=Ce (by omega) hEM akF;generalize MV (bL T d) B T.ai.length (aG T B) []=M at hwM hKM hPM hXM hEM hLM hNM |-
 have hok:nu M B 0 T.ai.length=true:=by
  refine aew (by unfold dw;rw[hEM,hEb,sU]) (by omega) (by omega) ?_;refine Df (S:=λy=>y=T.ai.length\/(Reach T B y/\y≠B/\y<T.ai.length/\0<=y)) hwM (by omega) (.inl rfl) ?_ (by omega) ?_
  ·intro y hy k hk2;rcases hy with rfl|⟨hy,hne,hyl,hy0⟩
   ·rw[hKM _ (by omega) (by omega),au rfl]at hk2;have hkr:=dW hw hk2 (by omega);have hpk:=xC hw (by omega) hk2;exact .inr ⟨.up (by omega) (by rw[hpk];exact .here),λe=>by rw[e]at hpk hkr;exact zA hw hkr.1 hkr.2 hpk,hkr.2,by omega⟩
   ·rw[hKM y hy0 (by omega),aj (by omega),aj hne]at hk2;have hkr:=dW hw hk2 hy0;obtain⟨g1,g2⟩:=hcl y hy hne hyl k hk2;exact .inr ⟨g1,g2,hkr.2,by omega⟩
  ·rintro(e|⟨-,e, -⟩)
   ·omega
   ·exact e rfl
 have hno: ∀j:Int,0<=j->(aG T j).filter (· !=(T.ai.length:Int))=aG T j:=λj hj=>Eo.2 λy hy=>jJ.2 (by have:=dW hw hy hj;omega)
 have hcB:(T.ai.length:Int)∉aG T B:=λhx=>by have:=dW hw hx (by omega);omega
 refine⟨by rw[fe,au hok];exact aah hwM hok,?_,?_,?_,λj h0 hj hne=> ?_,?_,λk hk2=> ?_,λj h0 hj hnk=> ?_,?_,λx=>(akc _ _ _ _ x).trans (hXM x)⟩
 ·rw[fe,au hok];exact(qa _ _ _ _).trans hLM
 ·rw[Mq hwM hok B (by omega) (by omega),hKM B (by omega) (by omega),aj (by omega),au rfl,au rfl];rfl
 ·rw[Mq hwM hok _ (by omega) (by omega),hKM _ (by omega) (by omega),au rfl,aj (by omega),hno B (by omega),kI]
 ·rw[Mq hwM hok j h0 (by omega),hKM j h0 (by omega),aj (by omega),aj hne,aj hne,hno j h0,kI]
 ·rw[Rx hwM hok _ (by omega) (by omega),au rfl]
 ·have hkr:=dW hw hk2 (by omega);rw[Rx hwM hok k (by omega) (by omega),aj (by omega),hPM k (by omega) (by omega),au hk2]
 ·rw[Rx hwM hok j h0 (by omega),aj (by omega),hPM j h0 (by omega),aj hnk,Aq h0 hj]
 ·refine hNM.trans (Ce (uu ?_) (λx=>aez _ _ _ _ x) (Yw _ _ _ _));rw[fe,au hok];exact(qa _ _ _ _).symm
theorem FR.under (h:FR H T (l1++b::l2)) (hU:Und T W d b) (hRe: ∀y,Reach T b y->y≠b->y<T.ai.length-> ∀k∈aG T y,Reach T b k/\k≠b) (hp:d.parent= -1) (hk:d.aP= []) (he:d.elem=true) (htp: ∀y∈b::l2,lD T y=false/\aI T y lC=false/\TG T y/\uh T y=false) (q1:lD (bL T d) T.ai.length=false) (q2:aI (bL T d) T.ai.length lC=false) (q3:uh (bL T d) T.ai.length=false):FR H W (l1++b::(T.ai.length:Int)::l2):=by
 have hw:=h.tr.wf;have h2:=h.tr.two;have hlen:=hU.len;have hal:=lv T d;have hpos: ∀x∈l1++b::l2,1<=x/\x<T.ai.length:=λx hx=>eP (h.el x hx)
 have hb:=hpos b (by simp);have hN:BA T W:=(kJ T d).trans hU.jS;have hnd:=uD h.pt;have hEn:aY (bL T d) T.ai.length=true:=(kG T d hw.pos).trans he;have hc1:(1:Int)≠b:=λe=>by have:=(htp b dR).1;rw[<-e,Av h.tr]at this;cases this
 --the neighbours are Fx they were
 have ajK: ∀ {p:Int} {A x k B},0<=p->p<W.ai.length->aG W p=A++x::k::B-> ∃q:Int,0<=q/\q<T.ai.length/\aG T q=A++x::k::B:=fun {p A x k B} p0 p1 e=>by
  rw[hlen]at p1;by_cases e1:p=T.ai.length
  ·rw[e1,hU.kc]at e;exact⟨b,by omega,hb.2,e⟩
  ·by_cases e2:p=b
   ·rw[e2,hU.kb]at e;have:=aW List.length e;simp at this;omega
   ·rw[hU.ko p p0 (by omega) e2]at e;exact⟨p,p0,by omega,e⟩
 have hns: ∀y,TG T y->TG W y:=λy hy p p0 p1 A k B e=>by
  obtain⟨q,r0,r1,e'⟩:=ajK p0 p1 e;rw[hN.el k (dW hw (by rw[e'];simp) r0).2];exact hy q r0 r1 A k B e'
 have hk1:aG W 1=aG T 1:=hU.ko 1 (by omega) (by omega) hc1
 have htr:Tr H W:=by
  refine⟨hU.wf,λp p0 p1 A j k B e=> ?_,λj j1 j2 hej=> ?_,(hU.ko 0 (by omega) (by omega) (by omega)).trans h.tr.k0,(hN.nm 1 h.tr.e1).trans h.tr.n1,(hN.el 1 (by omega)).trans h.tr.e1,(hN.sp 1 h.tr.e1).trans h.tr.s1,(aaT hN hw hk1).trans h.tr.hb,by rw[hk1];exact h.tr.h1,h.tr.hms hN,(h.tr.add hp hk (.inl he) (aeE q3)).nhs hU.jS (by rw[lv];exact hU.len)⟩
  ·obtain⟨q,r0,r1,e'⟩:=ajK p0 p1 e;rw[hN.el j (dW hw (show j∈aG T q by rw[e'];simp) r0).2,hN.el k (dW hw (show k∈aG T q by rw[e'];simp) r0).2];exact h.tr.tt q r0 r1 A j k B e'
  ·rw[hU.tx];rcases mZ j T.ai.length with hl|hl
   ·rw[adX j (by omega) hl];exact h.tr.tx j j1 hl (by rw[<-hN.el j hl];exact hej)
   ·have:j=T.ai.length:=by omega
    rw[this,hU.jS.el _ (by omega),hEn]at hej;cases hej
 --dO sets,with the new one where b is
 have apT: ∀ {Q:Int->Prop},Clo (aG T) Q->Clo (aG W) λq=>(Q q/\0<=q/\q<T.ai.length)\/(q=T.ai.length/\Q b):=fun {Q} hQ q hq k hk2=>by
  rcases hq with⟨hq,q0,q1⟩|⟨rfl,hq⟩
  ·by_cases e:q=b
   ·rw[e,hU.kb]at hk2;rw[e]at hq;exact .inr ⟨dG.1 hk2,hq⟩
   ·rw[hU.ko q q0 q1 e]at hk2;have:=dW hw hk2 q0;exact .inl ⟨hQ q hq k hk2,by omega,this.2⟩
  ·rw[hU.kc]at hk2;have:=dW hw hk2 (by omega);exact .inl ⟨hQ b hq k hk2,by omega,this.2⟩
 have hsep: ∀ {A y},Sep (aG T) A y->(1<=y/\y<T.ai.length)->(∀x∈A,x<T.ai.length)->Sep (aG W) A y:=fun {A y} ⟨Q,t1,t2,t3⟩ hy hA =>
  ⟨_,.inl ⟨t1,by omega,hy.2⟩,apT t2,λx hx hq=>by
   rcases hq with hq|hq
   ·exact t3 x hx hq.1
   ·have:=hA x hx;omega⟩
 --whose parents stay
 have afI: ∀x∈l1++ [b],x∉aG T b:=λx hx hxk=>by
  have hpx:=xC hw (by omega) hxk;rcases fB.1 hx with hx|hx
  ·exact RB hw (h.pt l1 b l2 rfl) hx (h.el x (by simp[hx])) (by omega) hpx
  ·rw[dG.1 hx]at hpx;exact zA hw hb.1 hb.2 hpx
 have hpx: ∀x∈l1++ [b],aJ W x=aJ T x:=λx hx=>by
  have:=hpos x (by
   rcases fB.1 hx with hx|hx
   ·simp[hx]
   ·rw[dG.1 hx];simp)
  exact hU.po x (by omega) this.2 (afI x hx)
 have hnt: ∀y:Int,y<T.ai.length->lD T y=false->lI W y=false:=λy hy hb0=>by
  unfold lI;rw[hN.named hy];cases ht:aI T y lH with
  |false=>rfl
  |true=>rw[yg (show lI T y=true from ht)]at hb0;cases hb0
 have hnr: ∀y:Int,y<T.ai.length->aI T y lC=false->xw W y=false:=λy hy hr0=>by
  unfold xw;rw[hN.named hy];unfold aI at hr0 |-;unfold lC at hr0;rw[lT]at hr0;cases e1:aY T y <;>cases e2:(aX T y==0) <;>simp_all
 refine⟨htr,λx hx=> ?_,λA y B e=> ?_,?_,λx hx=> ?_⟩
 ·rcases fB.1 hx with hx|hx
  ·rw[hN.el x (hpos x (by simp[hx])).2];exact h.el x (by simp[hx])
  ·rcases dS.1 hx with rfl|hx
   ·rw[hN.el x hb.2];exact h.el x (by simp)
   ·rcases dS.1 hx with rfl|hx
    ·rw[hU.jS.el _ (by omega)];exact hEn
    ·rw[hN.el x (hpos x (by simp[hx])).2];exact h.el x (by simp[hx])
 ·rcases Xj.1 e with⟨C',e1,e2⟩|⟨E',e1,e2⟩
  ·cases C' with
   |nil =>
    have e3:=dH e2;rw[kI]at e1;obtain⟨rfl,rfl⟩:=e3;rw[e1];have hq:=h.pt l1 b l2 rfl;obtain⟨t1,t2,t3,t4⟩:=htp b dR;exact⟨hsep hq.sep hb λx hx=>(hpos x (by simp[hx])).2,by rw[hpx b (by simp)];exact hq.Bz,λht=>(by rw[hnt b hb.2 t1]at ht;cases ht),λhr=>(by rw[hnr b hb.2 t2]at hr;cases hr),λ_ _ _ _ _=>hns b t3⟩
   |cons w C' =>
    have e3:=dH e2;obtain⟨rfl,e4⟩:=e3;cases C' with
    |nil =>
     have e5:=dH e4;obtain⟨rfl,rfl⟩:=e5;rw[e1];obtain⟨Q,t1,t2,t3⟩:=(h.pt l1 b l2 rfl).sep;refine⟨⟨λq=>q=T.ai.length\/(Reach T b q/\q≠b/\0<=q/\q<T.ai.length),.inl rfl,?_,λx hx hq=> ?_⟩,by rw[hU.pc];omega,λht=> ?_,λhr=> ?_,λ_ _ _ _ _ p p0 p1 Z k Y ek=> ?_⟩
     ·rintro q (rfl|⟨g1,g2,g3,g4⟩) k hk2
      ·rw[hU.kc]at hk2;have hkr:=dW hw hk2 (by omega);have hpk:=xC hw (by omega) hk2;exact .inr ⟨.up (by omega) (by rw[hpk];exact .here),λe=>afI b (by simp) (e▸hk2),by omega,hkr.2⟩
      ·rw[hU.ko q g3 g4 g2]at hk2;have hkr:=dW hw hk2 g3;obtain⟨g5,g6⟩:=hRe q g1 g2 g4 k hk2;exact .inr ⟨g5,g6,by omega,hkr.2⟩
     ·rcases fB.1 hx with hx|hx
      ·have hxp:=hpos x (by simp[hx]);rcases hq with hq|⟨g1, -⟩
       ·omega
       ·exact t3 x hx (aet hw t1 t2 g1 hxp.2 (by omega))
      ·rw[dG.1 hx]at hq;rcases hq with hq|⟨-,g, -⟩
       ·omega
       ·exact g rfl
     ·exfalso;unfold lI at ht;rw[hU.jS.named (by omega)]at ht;rw[yg (show lI (bL T d) T.ai.length=true from ht)]at q1;cases q1
     ·exfalso
      have:aI W T.ai.length lC=true:=by
       unfold xw aI at hr;unfold aI lC;simp only[cz]at hr |-;exact⟨hr.1,hr.2.1,by rw[lT,hr.2.2,sU]⟩
      rw[hU.jS.named (by omega),q2]at this;cases this
     ·have:=xC hU.wf p0 (show(T.ai.length:Int)∈aG W p by rw[ek];simp);rw[hU.pc]at this;rw[<-this,hU.kb]at ek;have:=aW List.length ek;simp at this;omega
    |cons v C' =>
     have e5:=dH e4;obtain⟨rfl,e6⟩:=e5;have hy2:y∈l2:=by rw[e6];simp
     have hy:=hpos y (by simp[hy2]);have hq:=h.pt (l1++b::C') y B (by rw[e6];simp);obtain⟨t1,t2,t3,t4⟩:=htp y (gm _ hy2);rw[e1];obtain⟨Q,u1,u2,u3⟩:=hq.sep;refine⟨⟨λq=>Q q/\0<=q/\q<T.ai.length,⟨u1,by omega,hy.2⟩,λq ⟨g1,g2,g3⟩ k hk2=> ?_,λx hx hqx=> ?_⟩,?_,λht=>(by rw[hnt y hy.2 t1]at ht;cases ht),λhr=>(by rw[hnr y hy.2 t2]at hr;cases hr),λ_ _ _ _ _=>hns y t3⟩
     ·rw[hU.ko q g2 g3 (λe=>u3 b (by simp) (e▸g1))]at hk2;have:=dW hw hk2 g2;exact⟨u2 q g1 k hk2,by omega,this.2⟩
     ·rcases fB.1 hx with hx|hx
      ·exact u3 x (by simp[hx]) hqx.1
      ·rcases dS.1 hx with rfl|hx
       ·exact u3 x (by simp) hqx.1
       ·rcases dS.1 hx with rfl|hx
        ·omega
        ·exact u3 x (by simp[hx]) hqx.1
     ·by_cases hyk:y∈aG T b
      ·rw[hU.pk y hyk];omega
      ·rw[hU.po y (by omega) hy.2 hyk];exact hq.Bz
  ·cases E' with
   |nil =>
    rw[kI]at e1;have e3:=dH e2;obtain⟨rfl,rfl⟩:=e3;rw[<-e1];have hq:=h.pt l1 y l2 rfl;obtain⟨t1,t2,t3,t4⟩:=htp y dR;exact⟨hsep hq.sep hb λx hx=>(hpos x (by simp[hx])).2,by rw[hpx y (by simp)];exact hq.Bz,λht=>(by rw[hnt y hb.2 t1]at ht;cases ht),λhr=>(by rw[hnr y hb.2 t2]at hr;cases hr),λ_ _ _ _ _=>hns y t3⟩
   |cons w E' =>
    have e3:=dH e2;obtain⟨rfl,e4⟩:=e3;have hq:=h.pt A y (E'++b::l2) (by rw[e1];simp);have hy:=hpos y (by rw[e1];simp);have hA: ∀x∈A,1<=x/\x<T.ai.length:=λx hx=>hpos x (by rw[e1];simp[hx])
    have hpA: ∀x∈A,aJ W x=aJ T x:=λx hx=>hpx x (by rw[e1];simp[hx])
    have hpy:aJ W y=aJ T y:=hpx y (by rw[e1];simp);refine⟨hsep hq.sep hy λx hx=>(hA x hx).2,by rw[hpy];exact hq.Bz,λht x hx=> ?_,λhr=> ?_,λA' x e5 b1 b2=> ?_⟩
    ·rw[hpA x hx,hpy];exact hq.tab (by unfold lI at ht |-;rw[<-hN.named hy.2];exact ht) x hx
    ·obtain⟨A',x,e5,e6,e7⟩:=hq.row (by unfold xw at hr |-;rw[<-hN.named hy.2];exact hr);exact⟨A',x,e5,e6.imp (λe6=>by rw[hN.named (hA x (by rw[e5];simp)).2];exact e6) id,hpy.trans e7⟩
    ·unfold lD at b1 b2;rw[hN.stop (hA x (by rw[e5];simp)).2]at b1;rw[hN.stop hy.2]at b2;exact hns y (hq.nst A' x e5 b1 b2)
 ·obtain⟨r,hr⟩:=h.hd;cases l1 with
  |nil=>exact⟨_,by rw[(dH hr).1];rfl⟩
  |cons w l1=>exact⟨_,by rw[(dH hr).1];rfl⟩
 ·have hx2:x∈(l1++b::l2).drop 2\/x=T.ai.length\/x∈b::l2:=by
   rw[List.drop_append]at hx |-;rcases fB.1 hx with hx|hx
   ·exact .inl (sQ _ hx)
   ·right;rcases dS.1 (pQ hx)with hx|hx
    ·exact .inr (by rw[hx];exact dR)
    ·rcases dS.1 hx with hx|hx
     ·exact .inl hx
     ·exact .inr (gm _ hx)
  unfold uh;rcases hx2 with hx2|hx2|hx2
  ·rw[hN.named (hpos x (pQ hx2)).2];exact h.bd x hx2
  ·rw[hx2,hU.jS.named (by omega)];exact q3
  ·rw[hN.named (hpos x (xf _ hx2)).2];exact(htp x hx2).2.2.2
end
end
end Go.Proofs.YtnlbcifhedjbfaaGreatDoor
