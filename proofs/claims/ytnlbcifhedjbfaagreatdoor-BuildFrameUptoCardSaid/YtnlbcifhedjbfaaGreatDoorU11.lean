/- oZ joined for a claim: FrH, TxD, FrI, FrJ: plain laws and contracts. No conditions beyond those that each lemma types. -/
import Derived.Test.YtnlbcifhedjbfaaGreatDoorU10
import Derived.Test.YtnlbcifhedjbfaaGreatDoorU08
import Derived.Test.YtnlbcifhedjbfaaGreatDoorU09
set_option linter.unusedVariables false
set_option linter.unusedSimpArgs false
namespace Go.Proofs.YtnlbcifhedjbfaaGreatDoor
open Go.RowKit Mem
section
def xK:List ae:= [⟨#[97]⟩,⟨#[98]⟩,⟨#[98,105,103]⟩,⟨#[99,111,100,101]⟩,⟨#[101,109]⟩,⟨#[102,111,110,116]⟩,⟨#[105]⟩,⟨#[110,111,98,114]⟩,⟨#[115]⟩,⟨#[115,109,97,108,108]⟩,⟨#[115,116,114,105,107,101]⟩,⟨#[115,116,114,111,110,103]⟩,⟨#[116,116]⟩,⟨#[117]⟩]
def Ent (T:aB) (x:Int):Prop:=x= -1\/aI T x xK=true
section
variable {T U V W:aB} {H l l1 l2 m A B P D rest aF:List Int} {a n x y z k b f last:Int} {i:Nat} {S:Int->Prop} {d:ND}
theorem Np {N:List ae} (h:aI T x xK=true) (hN:(xK.all λy=> !fU N y)=true):aI T x N=false/\fU N (bq T x)=false:=by
 unfold aI at h |-;simp only[cz]at h;obtain⟨y,hy,he⟩:=nU.1 h.2.2;have h2:=qF.1 hN y hy;rw[og (eq_of_beq he)];have h3:fU N y=false:=by simpa using h2
 rw[h3,jd,jd];exact⟨rfl,rfl⟩
theorem Nq (h:aI T x xK=true):Cp T x:=by
 have h0:=h;unfold aI at h0;simp only[cz,cO]at h0;refine⟨h0.1,?_,(Np h (by kernel_rfl)).1,(Np h (by kernel_rfl)).1⟩;unfold lD sZ iY;rw[h0.2.1,au rfl,au rfl,(Np h (by kernel_rfl)).2,jd]
theorem Cp.jS (h:Cp T x) (hN:BA T U):Cp U x:=by
 have:=(eP h.el).2;exact⟨(hN.el x this).trans h.el,(hN.stop this 0).trans h.bnd,(hN.named this _).trans h.row,(hN.named this _).trans h.hb⟩
theorem Ent.jS (h:Ent T x) (hN:BA T U):Ent U x:=h.imp id λe=>by rw[hN.named (eP (Nq e).el).2];exact e
theorem F5 (T:aB) (a b n:Int):BA T (fe T a b n).1:=by
 refine Ce (uu ?_) (λx=>aez _ _ _ _ x) (Yw _ _ _ _);unfold fe;split
 ·exact(qa _ _ _ _).symm
 ·rfl
theorem aeu (hw:WF T) (h1:1<=last) (hn:last<T.ai.length) (hp:d.parent= -1) (hk:d.aP= []) (he:d.elem=true):(fe (bL T d) T.ai.length 0 last).1=eF (bL (bG T last) d) T.ai.length 0 last:=by
 have hp0:=hw.pos;have hEn:aY (bL T d) T.ai.length=true:=(kG T d hp0).trans he
 have hok:nu (bL T d) T.ai.length 0 last=true:=by
  refine aew (by unfold dw;rw[hEn,sU]) h1 (by rw[lv];omega) λhr=> ?_
  have h3:=(Mk (T:=bL T d) (top:=last) (n:=T.ai.length) (by omega) (by omega)).1 hr;rw[F8 hw hp]at h3;have:=(su (T:=bL T d) (top:=last) (n:= -1) (by omega)).1 h3;omega
 rw[fe,au hok];show kr (bL T d) T.ai.length 0 last=_;unfold kr;rw[take_add hw h1 hn]
 have:eT (bL (bG T last) d) T.ai.length 0=0:=by
  unfold eT;have hl:((bG T last).ai.length:Int)=T.ai.length:=by rw[gL]
  rw[au rfl,<-hl,vV _ hk];rfl
 rw[this];rfl
theorem FJ (hH:H≠ []) (l1:List Int) (f b:Int) (l2:List Int): ∀(r:List Int) (c:Nat) (S:TS) (rest:List Int),FU H (bG S.T S.last) l1 S.last rest->WF S.T->S.l=l1++f::(r.reverse++S.last::rest)->S.l.Nodup->(∀x∈f::r,Cp S.T x)->(∃q,S.last::rest=q++b::l2)->(∀x∈S.aF,Ent S.T x) ->
 ((eB b r c S).2=0-> ∃rest',FU H (bG (eB b r c S).1.T (eB b r c S).1.last) l1 (eB b r c S).1.last rest'/\WF (eB b r c S).1.T/\(eB b r c S).1.l=l1++f::(eB b r c S).1.last::rest'/\(eB b r c S).1.l.Nodup/\ ∃q,(eB b r c S).1.last::rest'=q++b::l2)/\BA S.T (eB b r c S).1.T/\(∀x∈(eB b r c S).1.aF,Ent (eB b r c S).1.T x)/\((eB b r c S).2=0\/(eB b r c S).2=43)
 | [],c,S,rest,h,hw,hl,hn,he,hq,hen=>⟨λ_=>⟨rest,h,hw,by show S.l=l1++f::S.last::rest;simpa using hl,hn,hq⟩,⟨ay _,λ_ _=>rfl,λ_ _=>rfl,λ_ _=>rfl⟩,hen,.inl rfl⟩
 |x::r,c,S,rest,h,hw,hl,hn,he,hq,hen=>by
  have hl2:S.l=(l1++f::r.reverse)++x::(S.last::rest):=by rw[hl];simp
  have hx:x∉S.last::rest:=by
   rw[hl2,oK]at hn;exact(mh.1 hn.2.1).1
  have hrm:vg S.l x=l1++f::(r.reverse++S.last::rest):=by rw[hl2,ajz hx];simp
  have hnr:(vg S.l x).Nodup:=hn.sublist (nY _ _)
  have her: ∀y∈f::r,Cp S.T y:=λy hy=>he y (by
   rcases dS.1 hy with rfl|hy
   ·exact dR
   ·exact gm _ (gm _ hy))
  rw[eB];split
  ·rename_i hmem;split
   ·exact FJ hH l1 f b l2 r (c+1) _ rest h hw hrm hnr her hq λy hy=>hen y ((nG _ _).subset hy)
   ·have hcx:=he x (by simp);rcases PU hcx.el with⟨h0,e⟩|h43
    ·rw[au h0,e];have hlen:(bG S.T S.last).ai.length=S.T.ai.length:=gL _ _;have hlr:=eP (h.el S.last dR);rw[hlen]at hlr;have hwr:=h.wrap (d:=vB S.T x) rfl rfl rfl (by rw[PV (by omega) hcx.el];exact hcx.bnd) (by rw[uF (by omega) hcx.el];exact hcx.row) (by unfold uh;rw[uF (by omega) hcx.el];exact hcx.hb) hH;rw[hlen]at hwr;have hput:=aeu hw hlr.1 hlr.2 (d:=vB S.T x) rfl rfl rfl;have hNm:BA S.T (fe (bL S.T (vB S.T x)) S.T.ai.length 0 S.last).1:=(kJ _ _).trans (F5 _ _ _ _)
     have hxe:Ent S.T x:=by
      have h5:=(dC S.aF x).2.2.2 (aT S.aF x).toNat (by have:=(dC S.aF x).2.1;omega) (by omega);exact hen x (by rw[<-h5];exact kH _)
     have hnew:Ent (fe (bL S.T (vB S.T x)) S.T.ai.length 0 S.last).1 (S.T.ai.length:Int):=by
      have h6:=F5 (bL S.T (vB S.T x)) S.T.ai.length 0 S.last;have hx1:=eP hcx.el;refine .inr ?_;rw[h6.named (by rw[lv];omega),uF (by omega) hcx.el];exact hxe.resolve_left (by omega)
     have htk:bG (fe (bL S.T (vB S.T x)) S.T.ai.length 0 S.last).1 S.T.ai.length=(fe (bL S.T (vB S.T x)) S.T.ai.length 0 S.last).1:=by
      rw[hput];refine ahx (by omega) (by rw[nN,lv,hlen];omega) hwr.1.par
     have hfr:FU H (bG (fe (bL S.T (vB S.T x)) S.T.ai.length 0 S.last).1 S.T.ai.length) l1 S.T.ai.length (S.last::rest):=by
      rw[htk,hput];exact hwr.1
     have hno:(S.T.ai.length:Int)∉S.l:=λhx=>by
      rw[hl]at hx;rcases fB.1 hx with hx|hx
      ·have:=eP (h.fr.el _ hx);rw[hlen]at this;omega
      ·rcases dS.1 hx with hx|hx
       ·have:=eP (he f dR).el;omega
       ·rcases fB.1 hx with hx|hx
        ·have:=eP (he _ (gm _ (jM.1 hx))).el;omega
        ·have:=eP (h.el _ hx);rw[hlen]at this;omega
     have hsw:oO S.l x (S.T.ai.length:Int)=l1++f::(r.reverse++(S.T.ai.length:Int)::(S.last::rest)):=by rw[hl2,ahB hx];simp
     obtain⟨q,hq⟩:=hq
     obtain⟨k1,k2,k3,k4⟩:=FJ hH l1 f b l2 r (c+1) ⟨(fe (bL S.T (vB S.T x)) S.T.ai.length 0 S.last).1,oO S.l x (S.T.ai.length:Int),S.aF.set (aT S.aF x).toNat (S.T.ai.length:Int),if S.last=b then aT S.aF x+1 else S.keep,(S.T.ai.length:Int)⟩ (S.last::rest) hfr (by show WF (fe _ _ _ _).1;rw[hput];exact hwr.2) hsw (by
      have e1:(oO S.l x (S.T.ai.length:Int)).Perm ((S.T.ai.length:Int)::vg S.l x):=by
       have e2:l1++f::(r.reverse++S.last::rest)=(l1++f::r.reverse)++S.last::rest:=by simp
       have e3:l1++f::(r.reverse++(S.T.ai.length:Int)::S.last::rest)=(l1++f::r.reverse)++(S.T.ai.length:Int)::S.last::rest:=by simp
       rw[hsw,hrm,e2,e3];exact List.perm_middle
      exact e1.nodup_iff.2 (mh.2 ⟨λhx=>hno ((nY _ _).subset hx),hnr⟩)) (λy hy=>(her y hy).jS hNm) ⟨(S.T.ai.length:Int)::q,by rw[hq];rfl⟩ (λy hy=>by
       rcases ET hy with hy|rfl
       ·exact(hen y hy).jS hNm
       ·exact hnew)
     exact⟨k1,hNm.trans k2,k3,k4⟩
    ·rw[aj (by rw[h43];decide)]
     have hNm:BA S.T (dm S.T x).1:=by
      unfold dm;rw[au hcx.el];unfold qz;split
      ·exact kJ _ _
      ·exact⟨ay _,λ_ _=>rfl,λ_ _=>rfl,λ_ _=>rfl⟩
     exact⟨λhh=>absurd (show(dm S.T x).2.2=0 from hh) (by rw[h43];decide),hNm,λy hy=>(hen y hy).jS hNm,.inr h43⟩
  ·exact FJ hH l1 f b l2 r (c+1) _ rest h hw hrm hnr her hq hen
theorem aeA (hw:WF T) (h:FU H (bG T last) l1 last rest) (hH:H≠ []) (on:Bool) (hl:l=l1++f::last::rest) (hlen:last<T.ai.length) (hf:lI T f=false):FR H (fe T (aZ T l on (l1.getLast?.getD 0)).1 (aZ T l on (l1.getLast?.getD 0)).2 last).1 (l1++last::rest)/\ ∀y∈last::rest,TG (fe T (aZ T l on (l1.getLast?.getD 0)).1 (aZ T l on (l1.getLast?.getD 0)).2 last).1 y:=by
 obtain⟨i,hi,hP,hP3,hfr⟩:=h.mV hH on;have hlr:=eP (h.el last dR);have hT:=ad9 hw hlr.1 hlen;have hu:l1.getLast?.getD 0≠0:=by have:=last_pos h.fr.el h.fr.hd;omega
 obtain⟨r1,hr1⟩:=h.fr.hd;have hpos: ∀x∈l1,1<=x/\x<T.ai.length:=λx hx=>by have:=eP (h.fr.el x hx);rw[hT.len]at this;exact this
 have htp:=h.tp [] last rest rfl;obtain⟨S,s1,s2,s3⟩:=htp.sep;rw[kI]at s3
 --the same place
 have hpq:aZ T l on (l1.getLast?.getD 0)=aZ (bG T last) l1 on 0:=by
  have hn: ∀x∈l1,∀N,aI (bG T last) x N=aI T x N:=λx hx N=>hT.jS.named (hpos x hx).2 N
  have hp: ∀x∈l1,lq (bG T last) x=lq T x:=λx hx=>by
   have:=hpos x hx;unfold lq xF;rw[hT.len,au (by simp;omega),au (by simp;omega),hT.par x (by omega) this.2,aj];exact λe=>s3 x hx (e▸s1)
  have hfo: ∀(g:Int) (r:List Int),(∀x∈r,x∈l1)->lW (bG T last) g r=lW T g r:=by
   intro g r
   induction r with
   |nil=>intro _;rfl
   |cons x r ih =>
    intro hh;rw[lW,lW,hn x (hh x dR),hp x (hh x dR),ih λy hy=>hh y (gm _ hy)]
  have htop:l1.getLast?.getD 0∈l1:=by
   cases e:l1.getLast? with
   |none=>rw[e]at hu;exact absurd rfl hu
   |some x=>exact Xe e
  have hnt: ∀x∈last::rest,lI T x=false:=λx hx=>by
   obtain⟨C,D,hCD⟩:=vO hx;have h1:=(h.tp C x D hCD).bnd;have h2:=eP (h.el x hx);rw[hT.len]at h2;unfold lD at h1;rw[hT.jS.stop h2.2]at h1;cases ht:lI T x with
   |false=>rfl
   |true=>have:=yg ht;unfold lD at this;rw[this]at h1;cases h1
  have eL:aZ T l on (l1.getLast?.getD 0)=if on&&aI T (l1.getLast?.getD 0) lC then lW T (l.head?.getD 0) l.reverse else(l1.getLast?.getD 0,0):=by
   unfold aZ;rw[aj (by rw[hl];simp)];simp only[aj hu]
  have eR:aZ (bG T last) l1 on 0=if on&&aI (bG T last) (l1.getLast?.getD 0) lC then lW (bG T last) (l1.head?.getD 0) l1.reverse else(l1.getLast?.getD 0,0):=by
   unfold aZ;rw[aj (by rw[hr1];exact yN _ _)];simp only[dY]
  rw[eL,eR,hn _ htop,hfo _ _ λx hx=>jM.1 hx];have e1:l.head?.getD 0=l1.head?.getD 0:=by rw[hl,hr1];rfl
  have e2:l.reverse=((last::rest).reverse++ [f])++l1.reverse:=by rw[hl];simp
  rw[e1,e2,Je T _ _ _ λx hx=>by
   rcases fB.1 hx with hx|hx
   ·exact hnt x (jM.1 hx)
   ·rw[dG.1 hx];exact hf]
 rw[hpq];generalize (aZ (bG T last) l1 on 0).1=a at hi hP hP3 hfr |-;generalize (aZ (bG T last) l1 on 0).2=b0 at hi hP3 |-
 have hna: ¬S a:=by
  rcases hP.ln with hl|⟨z,hz,hzk⟩
  ·exact s3 a hl
  ·exact λha=>s3 z hz (s2 a ha z hzk)
 have ha2:=hP.a2;have ha1:=hP.a1;rw[hT.len]at ha2
 have hok:nu T a b0 last=true:=by
  simp only[nu,cz,mX,jJ,Af];refine⟨⟨⟨⟨?_,?_⟩,?_⟩,?_⟩,?_⟩
  ·have:=hP.ho;unfold dw at this |-;rw[hT.jS.el a ha2]at this;exact this
  ·simp only[xF,cz,mX];omega
  ·rcases hP3 with e|⟨e, -⟩
   ·omega
   ·exact λe2=>s3 b0 e (e2▸s1)
  ·unfold eT;rcases hP3 with e|⟨e,e2⟩
   ·rw[au e];omega
   ·split
    ·omega
    ·obtain⟨j, -,j2, -⟩:=xI (aG T a) b0 0 (hT.sub e2);have j3:xJ (aG T a) b0 0=((0+j:Nat):Int):=j2;rw[j3];omega
  ·have hr: ¬Reach T last a:=by
    refine Df (S:=S) hw hlr.1 s1 (λd hd k hk=> ?_) ha2 hna;by_cases e:k=last
    ·rw[e];exact s1
    ·exact s2 d hd k (by rw[hT.aP];exact qE.2 ⟨hk,jJ.2 e⟩)
   simp[ky,hr]
 rw[fe,au hok];show FR H (kr T a b0 last) _/\ ∀y∈last::rest,TG (kr T a b0 last) y;unfold kr;rw[hi];exact hfr
theorem FR.turn (hH:H≠ []) (h:FR H T (l1++f::(m++b::l2))) (hl1:l1≠ []) (hf:aI T f xK=true) (hbn: ∀x∈m++b::l2,lD T x=false) (hen: ∀x∈aF,Ent T x) (on:Bool):((gN T (l1++f::(m++b::l2)) aF on f b).2.2.2=0->FR H (gN T (l1++f::(m++b::l2)) aF on f b).1 (gN T (l1++f::(m++b::l2)) aF on f b).2.1/\(∀x∈(gN T (l1++f::(m++b::l2)) aF on f b).2.2.1,Ent (gN T (l1++f::(m++b::l2)) aF on f b).1 x)/\BA T (gN T (l1++f::(m++b::l2)) aF on f b).1/\ ∀x∈l1,x∈(gN T (l1++f::(m++b::l2)) aF on f b).2.1)/\((gN T (l1++f::(m++b::l2)) aF on f b).2.2.2=0\/(gN T (l1++f::(m++b::l2)) aF on f b).2.2.2=43):=by
 have hn:=uD h.pt;obtain⟨e1,e2⟩:=Zq hn;have hcf:=Nq hf
 have am9: ∀x∈f::(m++b::l2),lD T x=false:=λx hx=>by
  rcases dS.1 hx with rfl|hx
  ·exact hcf.bnd
  ·exact hbn x hx
 have ajF:=h.qm hl1 hcf.row am9;have hbe:=eP (h.el b (by simp));unfold gN;simp only;rw[e1,e2]
 obtain⟨k1,k2,k3,k4⟩:=FJ hH l1 f b l2 m.reverse 1 ⟨T,l1++f::(m++b::l2),aF,aT aF f,b⟩ l2 (h.o' hl1 hcf.row am9) h.tr.wf (by simp) hn (λx hx=>by
  rcases dS.1 hx with rfl|hx
  ·exact hcf
  ·rw[jM]at hx;obtain⟨C,D,hCD⟩:=vO hx;have ht:=ajF C x (D++b::l2) (by rw[hCD];simp)
   exact⟨h.el x (by simp[hx]),ht.bnd,ht.row,ht.hb⟩) ⟨[],rfl⟩ hen
 generalize eB b m.reverse 1 ⟨T,l1++f::(m++b::l2),aF,aT aF f,b⟩=q at k1 k2 k3 k4 |-;rcases k4 with k4|k4
 ·rw[au k4];obtain⟨rest',hU,hqw,hql,hqn,q0,hq0⟩:=k1 k4;have hu:l1.getLast?.getD 0≠0:=by have:=last_pos hU.fr.el hU.fr.hd;omega
  rw[au hu];have aiu:=hcf.jS k2
  have hft:lI q.1.T f=false:=by
   cases ht:lI q.1.T f with
   |false=>rfl
   |true=>have:=yg ht;rw[aiu.bnd]at this;cases this
  have hll:=eP (hU.el q.1.last dR);rw[gL]at hll;obtain⟨hB,hBn⟩:=aeA hqw hU hH on hql hll.2 hft;have hN3:BA q.1.T (fe q.1.T (aZ q.1.T q.1.l on (l1.getLast?.getD 0)).1 (aZ q.1.T q.1.l on (l1.getLast?.getD 0)).2 q.1.last).1:=F5 _ _ _ _;have Sj:=aiu.jS hN3
  have hfm:aI (fe q.1.T (aZ q.1.T q.1.l on (l1.getLast?.getD 0)).1 (aZ q.1.T q.1.l on (l1.getLast?.getD 0)).2 q.1.last).1 f xK=true:=by
   rw[hN3.named (eP aiu.el).2,k2.named (eP hcf.el).2];exact hf
  have am2: ∀x∈q.1.aF,Ent (fe q.1.T (aZ q.1.T q.1.l on (l1.getLast?.getD 0)).1 (aZ q.1.T q.1.l on (l1.getLast?.getD 0)).2 q.1.last).1 x:=λx hx=>(k3 x hx).jS hN3
  --what stands from b on
  have aio: ∀y∈b::l2,lD (fe q.1.T (aZ q.1.T q.1.l on (l1.getLast?.getD 0)).1 (aZ q.1.T q.1.l on (l1.getLast?.getD 0)).2 q.1.last).1 y=false/\aI (fe q.1.T (aZ q.1.T q.1.l on (l1.getLast?.getD 0)).1 (aZ q.1.T q.1.l on (l1.getLast?.getD 0)).2 q.1.last).1 y lC=false/\uh (fe q.1.T (aZ q.1.T q.1.l on (l1.getLast?.getD 0)).1 (aZ q.1.T q.1.l on (l1.getLast?.getD 0)).2 q.1.last).1 y=false:=λy hy=>by
   obtain⟨C,D,hCD⟩:=vO hy;have ht:=ajF (m++C) y D (by rw[hCD];simp);have hyl:=eP (h.el y (by simp[dS.1 hy]));have hcy:Cp T y:=⟨h.el y (by simp[dS.1 hy]),ht.bnd,ht.row,ht.hb⟩;have:=(hcy.jS k2).jS hN3;exact⟨this.bnd,this.row,this.hb⟩
  have apy:q.1.l=l1++f::(q0++b::l2):=by rw[hql,hq0]
  rw[hq0]at hB hBn;have ana:aY (fe q.1.T (aZ q.1.T q.1.l on (l1.getLast?.getD 0)).1 (aZ q.1.T q.1.l on (l1.getLast?.getD 0)).2 q.1.last).1 b=true:=hB.el b (by simp);have hNV:=k2.trans hN3;clear hU hqw hN3 aiu hft hll;generalize (fe q.1.T (aZ q.1.T q.1.l on (l1.getLast?.getD 0)).1 (aZ q.1.T q.1.l on (l1.getLast?.getD 0)).2 q.1.last).1=V at hB hBn Sj hfm am2 aio ana hNV |-;rw[apy]at hqn |-
  have hfn:f∉q0++b::l2:=by
   rw[oK]at hqn;exact(mh.1 hqn.2.1).1
  have Y1:b∉l2:=by
   have:=uD hB.pt;rw[oK]at this;have:=this.2.1;rw[oK]at this;exact(mh.1 this.2.1).1
  have apB: ∀y∈b::l2,TG V y:=λy hy=>hBn y (xf _ hy)
  unfold jE;rw[ajz hfn];rcases PU Sj.el with⟨h0,e⟩|h43
  ·rw[au h0,e];have h5:FR H V ((l1++q0)++b::l2):=by rw[vP];exact hB
   obtain⟨hUn,hRe⟩:=akb (d:=vB V f) hB.tr.wf ana rfl rfl rfl;have hp1:1<=V.ai.length:=by have:=hB.tr.two;omega
   have:=h5.under hUn hRe rfl rfl rfl (λy hy=>⟨(aio y hy).1,(aio y hy).2.1,apB y hy,(aio y hy).2.2⟩) (by rw[PV hp1 Sj.el];exact Sj.bnd) (by rw[uF hp1 Sj.el];exact Sj.row) (by unfold uh;rw[uF hp1 Sj.el];exact Sj.hb);rw[show l1++(q0++b::l2)=(l1++q0)++b::l2 by simp,aky Y1];refine⟨λ_=>⟨this,λx hx=> ?_,hNV.trans ((kJ _ _).trans hUn.jS),λx hx=>by simp[hx]⟩,.inl rfl⟩;rcases I4 hx with hx|rfl
   ·exact(am2 x ((nG _ _).subset hx)).jS ((kJ _ _).trans hUn.jS)
   ·refine .inr ?_;show aI _ (V.ai.length:Int) xK=true;rw[hUn.jS.named (by rw[lv];omega),uF hp1 Sj.el];exact hfm
  ·rw[aj (by rw[h43];decide)];exact⟨λhh=>absurd (show(dm V f).2.2=0 from hh) (by rw[h43];decide),.inr h43⟩
 ·rw[aj (by rw[k4];decide)];exact⟨λhh=>absurd (show q.2=0 from hh) (by rw[k4];decide),.inr k4⟩
structure FA (H:List Int) (S:AS):Prop where
 fr:FR H S.T S.l
 en: ∀x∈S.aF,Ent S.T x
theorem Gm (h:Tr H T) {N:List ae} (hn:fU N (⟨#[104,116,109,108]⟩:ae)=false) (hx:aI T x N=true):x≠1:=by
 rintro rfl;unfold aI at hx;rw[h.n1,hn,jd,jd]at hx;cases hx
theorem Nr (T:aB) (ah:ae): ∀l:List Int,yt T ah l≠0->aI T (yt T ah l) [ah]=true
 | [],h=>absurd rfl h
 |x::r,h=>by
  rw[yt]at h |-;by_cases hx:aI T x [ah]=true
  ·rw[au hx];exact hx
  ·rw[aj hx]at h |-;exact Nr T ah r h
theorem Dj {ah:ae} (hn:fU xK ah=true) (h:aI T x [ah]=true):aI T x xK=true:=by
 unfold aI at h |-;simp only[cz]at h |-;refine⟨h.1,h.2.1,?_⟩;have h2:=h.2.2;rw[lT,jD]at h2;rcases h2 with h2|h2
 ·rw[og (eq_of_beq h2)];exact hn
 ·cases h2
theorem Mg {x:Int} (h:0<=aT l x): ∃A B,l=A++x::B/\l.drop (aT l x+1).toNat=B/\l.take (aT l x).toNat=A:=by
 obtain⟨h1,h2,h3,h4⟩:=dC l x;have hk:(aT l x).toNat<l.length:=by omega
 have he:=h4 (aT l x).toNat hk (by omega);refine⟨l.take (aT l x).toNat,l.drop ((aT l x).toNat+1),?_,by rw[show(aT l x+1).toNat=(aT l x).toNat+1 by omega],rfl⟩
 conv=>lhs;rw[<-nQ (aT l x).toNat l,kR hk,he]
theorem FX {st:Int->Bool} {f:Int} {s:List Int}: ∀r:List Int,f∉r->oQ (λx=>x==f) st (r++f::s)=true-> ∀x∈r,st x=false
 | [],_,_,x,hx=>by cases hx
 |y::r,hf,h,x,hx=>by
  rw[mq,oQ]at h;have hne:(y==f)=false:=aV.2 λe=>hf (e▸dR)
  rw[hne,Ev,cz]at h;rcases dS.1 hx with rfl|hx
  ·simpa using h.1
  ·exact FX r (λhx=>hf (gm _ hx)) h.2 x hx
theorem VR {x:Int} (h: ∃r,l=1::r) (e:l=A++x::B) (hx:x≠1):A≠ []/\ ∃r,A=1::r:=by
 obtain⟨r,hr⟩:=h;cases A with
 |nil=>rw[e]at hr;exact absurd (dH hr).1 hx
 |cons y A=>rw[e]at hr;exact⟨yN _ _,A,by rw[(dH hr).1]⟩
structure Lat (S R:AS):Prop where
 jS:BA S.T R.T
 kp: ∀x∈S.l,lD S.T x=true->x∈R.l
theorem Lat.same {S R:AS} (hT:R.T=S.T) (hl: ∀x∈S.l,lD S.T x=true->x∈R.l):Lat S R:=⟨by rw[hT];exact⟨ay _,λ_ _=>rfl,λ_ _=>rfl,λ_ _=>rfl⟩,hl⟩
theorem Lat.trans {S R Q:AS} (h:Lat S R) (g:Lat R Q) (he: ∀x∈S.l,aY S.T x=true):Lat S Q:=⟨h.jS.trans g.jS,λx hx hb=>g.kp x (h.kp x hx hb) ((h.jS.stop (eP (he x hx)).2 0).trans hb)⟩
theorem Qr (hH:H≠ []) (on:Bool) {ah:ae} (hnm:fU xK ah=true): ∀(r t:Nat) (S:AS),FA H S->((jF on ah r t S).2.2=0->FA H (jF on ah r t S).1/\Lat S (jF on ah r t S).1)/\((jF on ah r t S).2.2=0\/(jF on ah r t S).2.2=43)
 |0,_,_,h=>⟨λ_=>⟨h,.same rfl λ_ hx _=>hx⟩,.inl rfl⟩
 |r+1,t,S,h=>by
  rw[jF];split
  ·exact⟨λ_=>⟨h,.same rfl λ_ hx _=>hx⟩,.inl rfl⟩
  ·rename_i hf0;have hfm:aI S.T (findF S.T S.aF ah) xK=true:=Dj hnm (Nr S.T ah _ hf0);have hf1:findF S.T S.aF ah≠1:=Gm h.fr.tr (by kernel_rfl) hfm;split
   ·exact⟨λ_=>⟨⟨h.fr,λx hx=>h.en x ((nY _ _).subset hx)⟩,.same rfl λ_ hx _=>hx⟩,.inl rfl⟩
   ·rename_i hf;obtain⟨A,B,e1,e2,e4⟩:=Mg (show 0<=aT S.l (findF S.T S.aF ah) by omega);obtain⟨ha1,ha2⟩:=VR h.fr.hd e1 hf1;split
    ·exact⟨λ_=>⟨h,.same rfl λ_ hx _=>hx⟩,.inl rfl⟩
    ·rename_i hno
     have hab: ∀x∈B,lD S.T x=false:=by
      have hs:vG S.T S.l (findF S.T S.aF ah)=true:=by simpa using hno
      have hnd:=uD h.fr.pt;rw[e1,oK]at hnd;have hfB:=(mh.1 hnd.2.1).1;unfold vG at hs
      have e5:S.l.reverse=B.reverse++findF S.T S.aF ah::A.reverse:=by
       conv=>lhs;rw[e1]
       simp
      rw[e5]at hs;intro x hx;exact FX _ (λhx=>hfB (jM.1 hx)) hs x (jM.2 hx)
     have hkA: ∀x∈S.l,lD S.T x=true->x∈A:=λx hx hb=>by
      rw[e1]at hx;rcases fB.1 hx with hx|hx
      ·exact hx
      ·rcases dS.1 hx with hx|hx
       ·rw[hx,(Nq hfm).bnd]at hb;cases hb
       ·rw[hab x hx]at hb;cases hb
     split
     ·refine⟨λ_=>⟨⟨?_,λx hx=>h.en x ((nY _ _).subset hx)⟩,.same rfl λx hx hb=> ?_⟩,.inl rfl⟩
      ·show FR H S.T (S.l.take _);rw[e4];have:=h.fr;rw[e1]at this;exact this.pre ha2
      ·show x∈S.l.take _;rw[e4];exact hkA x hx hb
     ·rename_i hb;have hm:=Fu S.T _ hb;unfold ik at hb |-;rw[e2]at hm hb |-;obtain⟨m,l2,e3⟩:=vO hm;have h':=h.fr;rw[e1,e3]at h';have h1:=h'.turn hH ha1 hfm (λx hx=>hab x (by rw[e3];exact hx)) h.en on;rw[<-e3,<-e1]at h1;obtain⟨k1,k2⟩:=h1;split
      ·rename_i h0;obtain⟨g1,g2,g3,g4⟩:=k1 h0;obtain⟨j1,j2⟩:=Qr hH on hnm r (t+1) ⟨_,_,_⟩ ⟨g1,g2⟩;exact⟨λhh=>⟨(j1 hh).1,(Lat.trans (R:=⟨_,_,_⟩) ⟨g3,λx hx hb=>g4 x (hkA x hx hb)⟩ (j1 hh).2 h.fr.el)⟩,j2⟩
      ·rename_i h0;exact⟨λhh=>absurd hh h0,k2⟩
theorem aiH (h: ∃r,l=1::r) (h1:l.getLast?.getD 0≠1): ∃r,l.dropLast=1::r:=by
 obtain⟨r,rfl⟩:=h;cases r with
 |nil=>exact absurd rfl h1
 |cons y r=>exact⟨(y::r).dropLast,rfl⟩
theorem FR.drop (h:FR H T l) (h1:l.getLast?.getD 0≠1):FR H T l.dropLast:=by
 obtain⟨r,hr⟩:=h.hd;have hne:l≠ []:=by rw[hr];exact yN _ _
 have e:=Er hne;have hd:=aiH h.hd h1;rw[<-e]at h;exact h.pre hd
theorem DF {S:AS} (hH:H≠ []) (h:FA H S) (on:Bool) {ah:ae} (hnm:fU xK ah=true):((gW on ah S).2.2=0->FA H (gW on ah S).1/\Lat S (gW on ah S).1)/\((gW on ah S).2.2=0\/(gW on ah S).2.2=43):=by
 unfold gW;split
 ·rename_i hc;rw[cz]at hc;have hf1:=Gm h.fr.tr (by kernel_rfl) (Dj hnm hc.1);refine⟨λ_=>⟨⟨h.fr.drop hf1,h.en⟩,.same rfl λx hx hb=> ?_⟩,.inl rfl⟩;show x∈S.l.dropLast;obtain⟨r,hr⟩:=h.fr.hd;have hne:S.l≠ []:=by rw[hr];exact yN _ _
  have e:=Er hne;have hx':=hx;rw[<-e]at hx';rcases fB.1 hx' with hx'|hx'
  ·exact hx'
  ·exfalso;have hl:S.l.getLast?.getD 0=x:=by rw[<-e,dG.1 hx'];simp
   have:=Dj hnm hc.1;rw[hl]at this;rw[(Nq this).bnd]at hb;cases hb
 ·exact Qr hH on hnm 8 0 S h
theorem FR.ins (hH:H≠ []) (h:FR H T l) (on:Bool) (sp:Int) (nm:ae) (at':List dD)
 (c1:sp=0->fU [⟨#[116,98,111,100,121]⟩,⟨#[116,102,111,111,116]⟩,⟨#[116,104,101,97,100]⟩,⟨#[116,114]⟩] nm=true->(on&&aI T (l.getLast?.getD 0) lC)=false/\(aI T (l.getLast?.getD 0) lC=true\/l.getLast?.getD 0=1))
 (c2:sp=0->fU lH nm=true->(on&&aI T (l.getLast?.getD 0) lC)=false) (c3:sp=0->fU [⟨#[104,101,97,100]⟩,⟨#[98,111,100,121]⟩,⟨#[104,116,109,108]⟩] nm=false) :
 FR H (aU T l on sp nm at').1 (aU T l on sp nm at').2.1/\BA T (aU T l on sp nm at').1/\(((aU T l on sp nm at').2.2.2=0/\(aU T l on sp nm at').2.1=l++ [(T.ai.length:Int)]/\(aU T l on sp nm at').2.2.1=T.ai.length/\aY (aU T l on sp nm at').1 T.ai.length=true/\aX (aU T l on sp nm at').1 T.ai.length=sp/\bq (aU T l on sp nm at').1 T.ai.length=nm)\/((aU T l on sp nm at').2.2.2=43/\(aU T l on sp nm at').2.1=l/\(aU T l on sp nm at').1=T/\(aU T l on sp nm at').2.2.1=0)):=by
 by_cases hm:(T.ai.length:Int)-1<T.gy
 ·have hmk:qz T (fQ sp nm at')=(bL T (fQ sp nm at'),(T.ai.length:Int),0):=by unfold qz;rw[au hm]
  have e:aU T l on sp nm at'=((fe (bL T (fQ sp nm at')) (aZ (bL T (fQ sp nm at')) l on 0).1 (aZ (bL T (fQ sp nm at')) l on 0).2 T.ai.length).1,l++ [(T.ai.length:Int)],(T.ai.length:Int),0):=by
   unfold aU;simp only[hmk,dY]
  rw[e];have hp1:1<=T.ai.length:=by have:=h.tr.two;omega
  obtain⟨q1,q2⟩:=Dh (T:=T) (d:=fQ sp nm at') hp1 rfl
  have hnn: ∀N,aI (bL T (fQ sp nm at')) T.ai.length N=((sp==0)&&fU N nm):=λN=>by
   unfold aI;rw[q1,q2,(kG T (fQ sp nm at') hp1).trans rfl];rfl
  have hN:=F5 (bL T (fQ sp nm at')) (aZ (bL T (fQ sp nm at')) l on 0).1 (aZ (bL T (fQ sp nm at')) l on 0).2 T.ai.length;have hlt:(T.ai.length:Int)<(bL T (fQ sp nm at')).ai.length:=by rw[lv];omega
  have hne:aY (bL T (fQ sp nm at')) T.ai.length=true:=(kG T (fQ sp nm at') hp1).trans rfl
  have key: ∀N,((sp==0)&&fU N nm)=true->sp=0/\fU N nm=true:=λN hh=>by
   rw[cz,cO]at hh;exact hh
  refine⟨h.new (d:=fQ sp nm at') on rfl rfl rfl (λhh=> ?_) (λhh=> ?_) (.inl ⟨?_,rfl,hH⟩),(kJ _ _).trans hN,.inl ⟨rfl,rfl,rfl,(hN.el _ hlt).trans hne,(hN.sp _ hne).trans q1,(hN.nm _ hne).trans q2⟩⟩
  ·unfold xw at hh;rw[hnn]at hh;exact c1 (key _ hh).1 (key _ hh).2
  ·unfold lI at hh;rw[hnn]at hh;exact c2 (key _ hh).1 (key _ hh).2
  ·unfold uh;rw[hnn];cases hs:(sp==0)with
   |false=>rfl
   |true=>exact c3 (eq_of_beq hs)
 ·rw[mK hm];exact⟨h,⟨ay _,λ_ _=>rfl,λ_ _=>rfl,λ_ _=>rfl⟩,.inr ⟨rfl,rfl,rfl,rfl⟩⟩
theorem Uz (hH:H≠ []) (on:Bool): ∀(r i:Nat) (S:AS),FA H S->(∀(k:Nat) (h:k<S.aF.length),i<=k->S.aF[k]≠ -1)->i+r=S.aF.length->FA H (qU on r i S).1/\Lat S (qU on r i S).1/\((qU on r i S).2=0\/(qU on r i S).2=43)
 |0,_,_,h,_,_=>⟨h,.same rfl λ_ hx _=>hx,.inl rfl⟩
 |r+1,i,S,h,hk,hi=>by
  rw[qU];have hlt:i<S.aF.length:=by omega
  have hx:S.aF.getD i 0=S.aF[i]:=by rw[Xf,mi hlt];rfl
  have hfm:aI S.T (S.aF.getD i 0) xK=true:=by rw[hx];exact(h.en _ (kH hlt)).resolve_left (hk i hlt (ay _))
  have hsp:aX S.T (S.aF.getD i 0)=0:=by
   unfold aI at hfm;simp only[cz,cO]at hfm;exact hfm.2.1
  have hno: ∀ {N:List ae},(xK.all λy=> !fU N y)=true->fU N (bq S.T (S.aF.getD i 0))=false:=λhN=>(Np hfm hN).2
  have hfw:fU xK (bq S.T (S.aF.getD i 0))=true:=by
   unfold aI at hfm;simp only[cz]at hfm;exact hfm.2.2
  obtain⟨k1,k2,k3⟩:=h.fr.ins hH on (aX S.T (S.aF.getD i 0)) (bq S.T (S.aF.getD i 0)) (bW S.T (S.aF.getD i 0)) (λ_ hh=>by rw[hno (by kernel_rfl)]at hh;cases hh) (λ_ hh=>by rw[hno (by kernel_rfl)]at hh;cases hh) (λ_=>hno (by kernel_rfl));generalize aU S.T S.l on (aX S.T (S.aF.getD i 0)) (bq S.T (S.aF.getD i 0)) (bW S.T (S.aF.getD i 0))=q at k1 k2 k3 |-;rcases k3 with⟨e0,e1,e2,e3,e4,e5⟩|⟨e0,e1,e2,e3⟩
  ·rw[au e0]
   have f1: ∀x∈S.aF.set i q.2.2.1,Ent q.1 x:=λx hx=>by
    rcases Xd hx with hx|rfl
    ·exact(h.en x hx).jS k2
    ·refine .inr ?_;rw[e2];unfold aI;rw[e3,e4,e5,hsp,hfw];rfl
   have f2: ∀(k:Nat) (hkl:k<(S.aF.set i q.2.2.1).length),i+1<=k->(S.aF.set i q.2.2.1)[k]≠ -1:=λk hkl hik=>by
    have hkl':k<S.aF.length:=by rw[nR]at hkl;exact hkl
    rw[List.getElem_set,aj (by omega)];exact hk k hkl' (by omega)
   obtain⟨j1,j2,j3⟩:=Uz hH on r (i+1) ⟨q.1,q.2.1,S.aF.set i q.2.2.1⟩ ⟨k1,f1⟩ f2 (by show i+1+r=(S.aF.set i q.2.2.1).length;rw[nR];omega);exact⟨j1,Lat.trans (R:=⟨q.1,q.2.1,S.aF.set i q.2.2.1⟩) ⟨k2,λx hx _=>by show x∈q.2.1;rw[e1];exact sQ _ hx⟩ j2 h.fr.el,j3⟩
  ·rw[aj (by rw[e0];decide)];exact⟨⟨k1,λx hx=>(h.en x hx).jS k2⟩,⟨k2,λx hx _=>by show x∈q.2.1;rw[e1];exact hx⟩,.inr e0⟩
theorem Mh {S:AS} (hH:H≠ []) (h:FA H S) (on:Bool):FA H (mP on S).1/\Lat S (mP on S).1/\((mP on S).2=0\/(mP on S).2=43):=by
 have hs:=(adh S.l S.aF).1;have hle:=aa5 S.l S.aF;refine Uz hH on _ _ S h (λk hk hi e=> ?_) (by omega);have:=hs k hk hi;unfold uy at this;rw[e]at this;simp at this
end
end
section
section
variable {T:aB} {l:List Int} {W:List ax}
theorem Jd:((⟨#[104,116,109,108]⟩:ae):ae).toList=([104,116,109,108]:List ax):=by kernel_rfl
theorem R4 {S:List ae} {x y:ae} (h:x.toList=y.toList):fU S x=fU S y:=by unfold fU;rw[h]
theorem Dq {nm:ae} (hn:(nm.toList==([104,116,109,108]:List ax))=false):fU [nm] (⟨#[104,116,109,108]⟩:ae)=false:=by
 unfold fU;rw[Eu,List.any_nil,Ad,Jd,aV];intro e;rw[<-e,iL]at hn;cases hn
end
section
variable {T:aB} {l:List Int} {W:List ax}
theorem afT {s:List Int} (h: ∃r,l=1::r) (hs:s <:+l.reverse) (hne:s≠ []): ∃r,s.reverse=1::r:=by
 obtain⟨r,rfl⟩:=h;obtain⟨p,hp⟩:=hs;obtain⟨q,y,rfl⟩: ∃q y,s=q++ [y]:=⟨_,_,(Er hne).symm⟩;rw[<-vP,List.reverse_cons]at hp;have:=Xi hp rfl;rw[(dH this).1];exact⟨q.reverse,by simp⟩
theorem acM (T:aB) (but:ae): ∀r,jG T but r <:+r
 | []=>wZ _
 |x::r=>by
  rw[jG];split
  ·exact(acM T but r).trans (vL _ _)
  ·exact wZ _
theorem IE (T:aB) (names:List ae): ∀r,fH T names r <:+r
 | []=>wZ _
 |x::r=>by
  rw[fH];split
  ·exact vL _ _
  ·exact(IE T names r).trans (vL _ _)
theorem L6 {p st:Int->Bool}: ∀r:List Int,oQ p st r=true-> ∃x∈r,p x=true
 | [],h=>by cases h
 |x::r,h=>by
  rw[oQ,jD]at h;rcases h with h|h
  ·exact⟨x,dR,h⟩
  ·rw[cz]at h;obtain⟨y,hy,hp⟩:=L6 r h.2;exact⟨y,gm _ hy,hp⟩
theorem aaU {sc:Int} {names:List ae} (h:afY T l sc names=true): ∃x∈l,aI T x names=true:=by
 obtain⟨x,hx,hp⟩:=L6 _ h;exact⟨x,jM.1 hx,hp⟩
def EN (names:List ae) (but:ae):Prop:=names= [but]\/ ∀n∈names,fU DL n=false
theorem not_imp {names:List ae} {but:ae} (h:EN names but) {x:Int} (hx:aI T x names=true):(aI T x DL&& !aI T x [but])=false:=by
 rcases h with rfl|h
 ·rw[hx,Bool.not_true,jd]
 ·have:aI T x DL=false:=by
   unfold aI at hx |-;rw[cz,cz]at hx;obtain⟨n,hn,he⟩:=nU.1 hx.2.2;rw[R4 (eq_of_beq he),h n hn,jd,jd]
  rw[this];rfl
end
section
variable {b c:aC} {m:aO} {W:List ax}
theorem U7 {S:List ae} {x:ae} (h:dh S x=true) (hS:fU S (⟨#[104,116,109,108]⟩:ae)=false):(x.toList==([104,116,109,108]:List ax))=false:=by
 unfold dh at h;rw[cz]at h;rw[aV];intro e;rw[R4 (y:=(⟨#[104,116,109,108]⟩:ae)) (e.trans Jd.symm),hS]at h;cases h.1
theorem Yz {T:aB} {x:Int} (he:aY T x=true) (hs:aX T x=0):aI T x [bq T x]=true:=by
 unfold aI fU;rw[he,hs];simp
theorem TK {S:List ae} {x:ae} (h:dh S x=true) (hS: ∀y∈S,fU DL y=false) (but:ae):EN [x] but:= .inr λn hn=>by
 rw[dG.1 hn];unfold dh at h;rw[cz]at h;obtain⟨y,hy,he⟩:=nU.1 h.1;rw[R4 (eq_of_beq he)];exact hS y hy
theorem Hd {S:List ae} (h:(S.all λy=> !fU DL y)=true): ∀y∈S,fU DL y=false:=λy hy=>by
 have:=qF.1 h y hy;simpa using this
theorem abm {S:List ae} {x:ae} (h:dh S x=true) (hp:(x.toList==([112]:List ax))=false) (hS:(S.all λy=> !fU DL y||(y.toList==([112]:List ax)))=true) (but:ae):EN [x] but:= .inr λn hn=>by
 rw[dG.1 hn];unfold dh at h;rw[cz]at h;obtain⟨y,hy,he⟩:=nU.1 h.1;have h2:=qF.1 hS y hy;rw[R4 (eq_of_beq he)];rw[eq_of_beq he]at hp;rw[hp,Ad]at h2;simpa using h2
end
end
section
def oW:List ae:= [⟨#[116,100]⟩,⟨#[116,104]⟩]
def nI (T:aB) (x:Int):Bool:=aI T x oW
def Oz:List ae:= [⟨#[116,98,111,100,121]⟩,⟨#[116,102,111,111,116]⟩,⟨#[116,104,101,97,100]⟩,⟨#[116,114]⟩,⟨#[116,97,98,108,101]⟩,⟨#[104,101,97,100]⟩,⟨#[98,111,100,121]⟩,⟨#[104,116,109,108]⟩]
structure JF (H:List Int) (o:Bool) (V:ae) (c:Bool) (b:aC):Prop where
 hH:H≠ []
 on:b.on=o
 wt:b.iJ=V
 fa:b.dJ=0->FA H b.S
 ce:b.dJ=0->c=true-> ∃x∈b.S.l,nI b.S.T x=true
 er:b.dJ=0\/b.dJ=43
 lm:Lm 1000 b.S.T
section
variable {T U:aB} {H l A B s r:List Int} {x y:Int} {S N:List ae} {nm:ae}
theorem GA (hS:(S.all λy=> !fU N y)=true) (h:fU N nm=true):fU S nm=false:=by
 cases e:fU S nm with
 |false=>rfl
 |true =>
  obtain⟨y,hy,he⟩:=nU.1 e;have:=qF.1 hS y hy;rw[<-og (S:=N) (eq_of_beq he),h]at this;cases this
theorem Au (h:dh S nm=true):fU S nm=true:=by
 unfold dh at h;rw[cz]at h;exact h.1
theorem yU (hS:(S.all λy=>fU N y)=true) (h:fU S nm=true):fU N nm=true:=by
 obtain⟨y,hy,he⟩:=nU.1 h;rw[og (eq_of_beq he)];exact qF.1 hS y hy
theorem jq (h:dh S nm=true) (hN:(N.all λy=> !fU S y)=true):fU N nm=false:=GA hN (Au h)
theorem RF (h:dh S nm=false) (hS:(S.all λy=> !y.toList.isEmpty)=true):fU S nm=false:=by
 cases e:fU S nm with
 |false=>rfl
 |true =>
  obtain⟨y,hy,he⟩:=nU.1 e;have:=qF.1 hS y hy;unfold dh at h;rw[e,nW,eq_of_beq he,this]at h;cases h
theorem kC {x:Int} (h:aI T x N=true):aY T x=true/\aX T x=0/\fU N (bq T x)=true:=by
 unfold aI at h;simp only[cz,cO]at h;exact⟨h.1,h.2.1,h.2.2⟩
theorem Di (h:aI T x N=true) (hS:(S.all λy=> !fU N y)=true):aI T x S=false:=by
 unfold aI;rw[GA hS (kC h).2.2,jd,jd]
theorem PK (h:aI T x N=true) (hS: ∀y∈N,fU S y=false):aI T x S=false:=by
 obtain⟨y,hy,he⟩:=nU.1 (kC h).2.2;unfold aI;rw[og (eq_of_beq he),hS y hy,jd,jd]
theorem Qk {sc:Int} (hs:sc=0\/sc=1\/sc=2) (h:nI T x=true):sZ T sc x=true:=by
 obtain⟨h1,h2,h3⟩:=kC h;unfold sZ iY;rcases hs with rfl|rfl|rfl
 ·rw[h1,h2,au rfl,au rfl,yU (by kernel_rfl) h3];rfl
 ·rw[h1,h2,aj (by decide),au rfl,au rfl,yU (by kernel_rfl) h3];rfl
 ·rw[h1,h2,aj (by decide),aj (by decide),au rfl,au rfl,yU (by kernel_rfl) h3];rfl
theorem Ql (h:nI T x=true):gJ (aX T x) (bq T x)=true:=by
 obtain⟨h1,h2,h3⟩:=kC h;unfold gJ;rw[h2,aj (by decide),aj (by decide),au rfl,yU (N:=zw) (by kernel_rfl) h3,sU]
theorem Wp {R Q:AS} (h:Lat R Q) (he: ∀x∈R.l,aY R.T x=true) (hc: ∃x∈R.l,nI R.T x=true): ∃x∈Q.l,nI Q.T x=true:=by
 obtain⟨x,hx,hc⟩:=hc;exact⟨x,h.kp x hx (Qk (.inl rfl) hc),(h.jS.named (eP (he x hx)).2 _).trans hc⟩
theorem Da {p st:Int->Bool}: ∀r:List Int,oQ p st r=true-> ∃A x B,r=A++x::B/\p x=true/\ ∀y∈A,st y=false
 | [],h=>by cases h
 |x::r,h=>by
  rw[oQ,jD]at h;rcases h with h|h
  ·exact⟨[],x,r,rfl,h,λy hy=>by cases hy⟩
  ·rw[cz]at h;obtain⟨A,y,B,e,h1,h2⟩:=Da r h.2;refine⟨x::A,y,B,by rw[e];rfl,h1,λz hz=> ?_⟩;rcases dS.1 hz with rfl|hz
   ·simpa using h.1
   ·exact h2 z hz
theorem Ex (hx:aI T x N=true) (B:List Int): ∀A:List Int,∃q,fH T N (A++x::B)=q++B
 | []=>⟨[],by rw[jZ,fH,au hx];rfl⟩
 |y::A=>by
  rw[mq,fH];split
  ·exact⟨A++ [x],by simp⟩
  ·exact Ex hx B A
theorem JL {but:ae} (h: ∀x,aI T x N=true->(aI T x DL&& !aI T x [but])=false): ∀r:List Int,fH T N (jG T but r)=fH T N r
 | []=>rfl
 |x::r=>by
  rw[jG];split
  ·rename_i hx;rw[JL h r]
   conv=>rhs;rw[fH]
   rw[aj];intro hn;rw[h x hn]at hx;cases hx
  ·rfl
theorem adg (h: ∃r,l=1::r) (e:l.reverse=A++x::B) (hx:x≠1):B≠ []:=by
 rintro rfl;obtain⟨r,rfl⟩:=h;rw[List.reverse_cons]at e;exact hx (dH (Xi e rfl)).1.symm
theorem aaa (h:s <:+l.reverse): ∃m,l=s.reverse++m:=by
 obtain⟨p,hp⟩:=h;refine⟨p.reverse,?_⟩;rw[<-pO,hp,vM]
theorem Md (h:l=A++x::B) (hn:l.Nodup):vg l x=A++B:=by
 have hx:x∈l:=by rw[h];simp
 have h0:0<=aT l x:=by
  rcases mZ (aT l x) 0 with hl|hl
  ·obtain⟨k,hk,e⟩:=List.mem_iff_getElem.1 hx;exact absurd e ((dC l x).2.2.1 k hk (by omega))
  ·exact hl
 obtain⟨A',B',e1,e2,e3⟩:=Mg h0;have e4:A'=A:=sw (M':=B) (by rw[<-e1];exact hn) (e1.symm.trans h);unfold vg iX;rw[au h0,List.eraseIdx_eq_take_drop_succ,e3,e4];have e5:l.drop ((aT l x).toNat+1)=B':=by rw[<-e2];congr 1;omega
 rw[e5];rw[e4,h]at e1;rw[(dH (Xk e1)).2]
theorem aae (h:x∉l):vg l x=l:=by
 unfold vg iX;rw[aj λh0=>h (by obtain⟨A,B,e, -⟩:=Mg h0;rw[e];simp)]
theorem Ug (T:aB) (a b:Int) (t:ae):BA T (iG T a b t).1:=by
 have h0:BA T T:=⟨ay _,λ_ _=>rfl,λ_ _=>rfl,λ_ _=>rfl⟩;unfold iG;split
 ·split
  ·exact h0
  ·unfold vR;split
   ·have hE:=aa0 T (oU T a (eT T a b).toNat) t;exact⟨uu (gU _ _ _).symm,λx _=>hE.el x,λx _=>hE.sp x,λx _=>hE.nm x⟩
   ·split
    ·exact(kJ _ _).trans (MK _ _ _ _)
    ·exact h0
 ·exact h0
end
section
variable {b:aC} {m:aO} {H:List Int} {o c:Bool} {V nm:ae} {names:List ae} {x:Int}
theorem JF.same (h:JF H o V c b) {r:aC} (h1:r.on=b.on) (h2:r.iJ=b.iJ) (h3:r.S=b.S) (h4:r.dJ=b.dJ):JF H o V c r :=
 ⟨h.hH,h1.trans h.on,h2.trans h.wt,λe=>h3▸h.fa (h4▸e),λe=>h3▸h.ce (h4▸e),h4▸h.er,h3▸h.lm⟩
theorem JF.keep' (h:JF H o V c b) {S:AS} {u:Nat} {e:Int} (h1:b.dJ=0->e=0->FA H S/\(c=true-> ∃x∈S.l,nI S.T x=true)) (h2:b.dJ=0->e=0\/e=43) (hl:Lm 1000 S.T):JF H o V c (({b with S:=S,used:=u}:aC).keep e):=by
 unfold aC.keep;by_cases he:e=0
 ·rw[au he];exact⟨h.hH,h.on,h.wt,λhb=>(h1 hb he).1,λhb=>(h1 hb he).2,h.er,hl⟩
 ·rw[aj he];unfold aC.fail;by_cases hb:b.dJ=0
  ·rw[au (show({b with S:=S,used:=u}:aC).dJ=0 from hb)];exact⟨h.hH,h.on,h.wt,λhx=>absurd hx he,λhx=>absurd hx he,.inr ((h2 hb).resolve_left he),hl⟩
  ·rw[aj (show ¬({b with S:=S,used:=u}:aC).dJ=0 from hb)];exact⟨h.hH,h.on,h.wt,λhx=>absurd hx hb,λhx=>absurd hx hb,h.er,hl⟩
theorem JF.jv (h:JF H o V c b) (sp:Int) (at':List dD) (c1:sp=0->fU [⟨#[116,98,111,100,121]⟩,⟨#[116,102,111,111,116]⟩,⟨#[116,104,101,97,100]⟩,⟨#[116,114]⟩] nm=true->b.dJ=0->o=false/\(aI b.S.T b.top lC=true\/b.top=1)) (c2:sp=0->fU lH nm=true->o=false) (c3:sp=0->fU [⟨#[104,101,97,100]⟩,⟨#[98,111,100,121]⟩,⟨#[104,116,109,108]⟩] nm=false) :
 JF H o V c (b.jv sp nm at').1/\((b.jv sp nm at').1.dJ=0-> ∃n,(b.jv sp nm at').1.S.l=b.S.l++ [n]/\n≠1/\(b.jv sp nm at').2=n/\aY (b.jv sp nm at').1.S.T n=true/\aX (b.jv sp nm at').1.S.T n=sp/\bq (b.jv sp nm at').1.S.T n=nm):=by
 have key:=λhb:b.dJ=0=>(h.fa hb).fr.ins h.hH b.on sp nm at' (λe1 e2=>by
  obtain⟨q1,q2⟩:=c1 e1 e2 hb;rw[h.on,q1]
  exact⟨rfl,q2⟩) (λe1 e2=>by rw[h.on,c2 e1 e2];rfl) c3
 refine⟨h.keep' (S:=⟨(aU b.S.T b.S.l b.on sp nm at').1,(aU b.S.T b.S.l b.on sp nm at').2.1,b.S.aF⟩) (u:=b.used) (e:=(aU b.S.T b.S.l b.on sp nm at').2.2.2) (λhb he=> ?_) (λhb=> ?_) (rR h.lm _ _ _ _ _),λhe=> ?_⟩
 ·obtain⟨k1,k2,k3⟩:=key hb;refine⟨⟨k1,λx hx=>((h.fa hb).en x hx).jS k2⟩,λhc=> ?_⟩;obtain⟨x,hx,hcx⟩:=h.ce hb hc;refine⟨x,?_,(k2.named (eP ((h.fa hb).fr.el x hx)).2 _).trans hcx⟩;show x∈(aU b.S.T b.S.l b.on sp nm at').2.1;rcases k3 with⟨-,e1, -⟩|⟨-,e1, -⟩
  ·rw[e1];exact sQ _ hx
  ·rw[e1];exact hx
 ·obtain⟨-, -,k3⟩:=key hb;exact k3.imp (λq=>q.1) λq=>q.1
 ·obtain⟨e1,e2⟩:=aC.ou he;obtain⟨-, -,k3⟩:=key e2;have hS:(b.jv sp nm at').1.S=⟨(aU b.S.T b.S.l b.on sp nm at').1,(aU b.S.T b.S.l b.on sp nm at').2.1,b.S.aF⟩:=aC.vW _ _;rw[hS];rcases k3 with⟨-,e3,e4,e5,e6,e7⟩|⟨e3, -⟩
  ·exact⟨_,e3,by have:=(h.fa e2).fr.tr.two;omega,e4,e5,e6,e7⟩
  ·have:(43:Int)=0:=e3.symm.trans e1;exact absurd this (by decide)
theorem Jv (h:fU Oz nm=false):fU [⟨#[116,98,111,100,121]⟩,⟨#[116,102,111,111,116]⟩,⟨#[116,104,101,97,100]⟩,⟨#[116,114]⟩] nm=false/\fU lH nm=false/\fU [⟨#[104,101,97,100]⟩,⟨#[98,111,100,121]⟩,⟨#[104,116,109,108]⟩] nm=false:=by
 have key: ∀S:List ae,(S.all λy=>fU Oz y)=true->fU S nm=false:=λS hS=>by
  cases e:fU S nm with
  |false=>rfl
  |true=>rw[yU hS e]at h;cases h
 exact⟨key _ (by kernel_rfl),key _ (by kernel_rfl),key _ (by kernel_rfl)⟩
theorem JF.R8 (h:JF H o V c b) (sp:Int) (at':List dD) (hn:sp=0->fU Oz nm=false) :
 JF H o V c (b.jv sp nm at').1/\((b.jv sp nm at').1.dJ=0-> ∃n,(b.jv sp nm at').1.S.l=b.S.l++ [n]/\n≠1/\(b.jv sp nm at').2=n/\aY (b.jv sp nm at').1.S.T n=true/\aX (b.jv sp nm at').1.S.T n=sp/\bq (b.jv sp nm at').1.S.T n=nm) :=
 h.jv sp at' (λe1 e2=>by rw[(Jv (hn e1)).1]at e2;cases e2) (λe1 e2=>by rw[(Jv (hn e1)).2.1]at e2;cases e2) λe1=>(Jv (hn e1)).2.2
theorem JF.ins (h:JF H o V c b) (hn:fU Oz nm=false) (at':List dD):JF H o V c (b.ins nm at'):=(h.R8 0 at' λ_=>hn).1
theorem JF.put (h:JF H o V c b) (t:ae):JF H o V c (b.iq t):=by
 refine h.keep' (S:=⟨(iG b.S.T (aZ b.S.T b.S.l b.on 0).1 (aZ b.S.T b.S.l b.on 0).2 t).1,b.S.l,b.S.aF⟩) (u:=b.used+t.size) (λhb he=> ?_) (λhb=>((h.fa hb).fr.aL h.hH b.on t).2) (Ui _ _ _ h.lm);have hN:=Ug b.S.T (aZ b.S.T b.S.l b.on 0).1 (aZ b.S.T b.S.l b.on 0).2 t;refine⟨⟨((h.fa hb).fr.aL h.hH b.on t).1 he,λx hx=>((h.fa hb).en x hx).jS hN⟩,λhc=> ?_⟩;obtain⟨x,hx,hcx⟩:=h.ce hb hc;exact⟨x,hx,(hN.named (eP ((h.fa hb).fr.el x hx)).2 _).trans hcx⟩
theorem JF.cut (h:JF H o V c b) {s:List Int} (hs:s <:+b.S.l.reverse) (hk:b.dJ=0-> ∃A x B q,b.S.l.reverse=A++x::B/\x≠1/\s=q++B/\(c=true->(∀y∈A,nI b.S.T y=false)/\nI b.S.T x=false)):JF H o V c (b.oP s.reverse):=by
 refine⟨h.hH,h.on,h.wt,λhb=> ?_,λhb hc=> ?_,h.er,h.lm⟩
 ·obtain⟨A,x,B,q,e1,hx,e2, -⟩:=hk hb;obtain⟨m,hm⟩:=aaa hs;have hf:=(h.fa hb).fr;have hne:=adg hf.hd e1 hx;have hd:=afT hf.hd hs (by rw[e2];simp[hne]);rw[hm]at hf;exact⟨hf.pre hd,(h.fa hb).en⟩
 ·obtain⟨A,x,B,q,e1,hx,e2,hcl⟩:=hk hb;obtain⟨k1,k2⟩:=hcl hc;obtain⟨y,hy,hcy⟩:=h.ce hb hc;refine⟨y,?_,hcy⟩;show y∈s.reverse;have hy':=jM.2 hy;rw[e1]at hy';rw[jM,e2];rcases fB.1 hy' with hy'|hy'
  ·rw[k1 y hy']at hcy;cases hcy
  ·rcases dS.1 hy' with rfl|hy'
   ·rw[k2]at hcy;cases hcy
   ·exact xf _ hy'
theorem JF.lst (h:JF H o V c b) {e:List Int} (he:b.dJ=0-> ∀x∈e,Ent b.S.T x):JF H o V c (b.lst e):=⟨h.hH,h.on,h.wt,λhb=>⟨(h.fa hb).fr,he hb⟩,h.ce,h.er,h.lm⟩
theorem JF.amz (h:JF H o V c b) {e:List Int} (he:e.Sublist b.S.aF):JF H o V c (b.lst e):=h.lst λhb x hx=>(h.fa hb).en x (he.subset hx)
theorem JF.vz (h:JF H o V c b):JF H o V c b.vz:=h.lst λhb x hx=>by
 rcases fB.1 hx with hx|hx
 ·exact(h.fa hb).en x hx
 ·exact .inl (dG.1 hx)
theorem JF.tK (h:JF H o V c b):JF H o V c b.tK:=h.amz (NF _)
theorem JF.goto (h:JF H o V c b) (n:Int):JF H o V c (b.goto n):=h.same rfl rfl rfl rfl
theorem JF.less (h:JF H o V c b):JF H o V false b:=⟨h.hH,h.on,h.wt,h.fa,λ_ hc=>(by cases hc),h.er,h.lm⟩
theorem JF.Rc (h:JF H o V c b) (hb:b.dJ=0):b.top∈b.S.l:=by
 obtain⟨r,hr⟩:=(h.fa hb).fr.hd;have hne:b.S.l≠ []:=by rw[hr];exact yN _ _
 unfold aC.top;rw[List.getLast?_eq_some_getLast hne];exact List.getLast_mem hne
theorem JF.WH (h:JF H o V c b) (hc:b.at' names=true) (hb:b.dJ=0):aI b.S.T b.top names=true:=by
 unfold aC.at' at hc;rw[cz]at hc;unfold aI;rw[(h.fa hb).fr.el _ (h.Rc hb),show(aX b.S.T b.top==0)=true from hc.1,show fU names (bq b.S.T b.top)=true from Au hc.2];rfl
theorem JF.no1 (h:JF H o V c b) (hb:b.dJ=0) (hn:fU names (⟨#[104,116,109,108]⟩:ae)=false) (hx:aI b.S.T x names=true):x≠1:=Gm (h.fa hb).fr.tr hn hx
theorem V9 {l:List Int} (h:l≠ []):l.reverse=l.getLast?.getD 0::l.dropLast.reverse:=by
 obtain⟨A,x,rfl⟩: ∃A x,l=A++ [x]:=⟨_,_,(Er h).symm⟩;simp
theorem JF.pop (h:JF H o V c b) (hk:b.dJ=0->b.top≠1/\(c=true->nI b.S.T b.top=false)):JF H o V c b.pop:=by
 have e:b.pop=b.oP (b.S.l.dropLast.reverse).reverse:=by rw[vM];rfl
 rw[e];refine h.cut ?_ λhb=> ?_
 ·by_cases hl:b.S.l= []
  ·rw[hl];exact wZ _
  ·rw[V9 hl];exact vL _ _
 ·have hl:b.S.l≠ []:=λe=>by have:=h.Rc hb;rw[e]at this;cases this
  obtain⟨h1,h2⟩:=hk hb;exact⟨[],_,_,[],V9 hl,h1,rfl,λhc=>⟨λy hy=>(by cases hy),h2 hc⟩⟩
theorem JF.akl (h:JF H o V c b) (hc:b.at' names=true) (h1:fU names (⟨#[104,116,109,108]⟩:ae)=false) (h2:(oW.all λy=> !fU names y)=true):JF H o V c b.pop :=
 h.pop λhb=>⟨h.no1 hb h1 (h.WH hc hb),λ_=>Di (h.WH hc hb) h2⟩
theorem JF.single (h:JF H o V c b) (hn:fU Oz nm=false) (hc:fU oW nm=false) (at':List dD):JF H o V c (b.single nm at'):=by
 obtain⟨h1,h2⟩:=h.R8 0 at' λ_=>hn
 refine JF.pop h1 λhb=> ?_
 obtain⟨n,e1,e2, -,e4,e5,e6⟩:=h2 hb
 have ht:(b.ins nm at').top=n:=by
  show(b.jv 0 nm at').1.S.l.getLast?.getD 0=n;rw[e1];simp
 rw[ht];refine⟨e2,λ_=> ?_⟩;have e7:bq (b.ins nm at').S.T n=nm:=e6;unfold nI aI;rw[e7,hc,jd,jd]
theorem JF.close (h:JF H o V c b) {but:ae} (hx:b.dJ=0-> ∃A x B,b.S.l.reverse=A++x::B/\aI b.S.T x names=true/\(c=true-> ∀y∈A,nI b.S.T y=false)) (h1:fU names (⟨#[104,116,109,108]⟩:ae)=false) (h2:EN names but) (h3:c=true-> ∀y∈names,fU oW y=false):JF H o V c ((b.jw but).mG names):=by
 have e:(b.jw but).mG names=b.oP (fH b.S.T names b.S.l.reverse).reverse:=by
  show b.oP (fH b.S.T names ((jG b.S.T but b.S.l.reverse).reverse).reverse).reverse=_;rw[vM,JL λx hx=>not_imp h2 hx]
 rw[e];refine h.cut (IE _ _ _) λhb=> ?_
 obtain⟨A,x,B,e1,hn,hc⟩:=hx hb;obtain⟨q,hq⟩:=Ex hn B A;exact⟨A,x,B,q,e1,h.no1 hb h1 hn,by rw[e1,hq],λhcc=>⟨hc hcc,PK hn (h3 hcc)⟩⟩
theorem JF.gZ (h:JF H o V c b) {sc:Int} {but:ae} (hs:sc=0\/sc=1\/sc=2) (h1:fU names (⟨#[104,116,109,108]⟩:ae)=false) (h2:EN names but) (h3: ∀y∈names,fU oW y=false):JF H o V c (b.gZ sc but names):=by
 unfold aC.gZ;by_cases hc:b.has sc names=true
 ·rw[au hc];refine h.close (λ_=> ?_) h1 h2 λ_=>h3
  obtain⟨A,x,B,e1,e2,e3⟩:=Da _ hc
  exact⟨A,x,B,e1,e2,λ_ y hy=>by
   cases e:nI b.S.T y with
   |false=>rfl
   |true=>exact absurd ((Qk hs e).symm.trans (e3 y hy)) (by decide)⟩
 ·rw[aj hc];exact h
theorem JF.shut (h:JF H o V c b) {sc:Int} {but:ae} (hc:b.has sc names=true) (h1:fU names (⟨#[104,116,109,108]⟩:ae)=false) (h2:EN names but):JF H o V false ((b.jw but).mG names):=by
 refine h.less.close (λ_=> ?_) h1 h2 λhh=>by cases hh
 obtain⟨A,x,B,e1,e2, -⟩:=Da _ hc;exact⟨A,x,B,e1,e2,λhh=>by cases hh⟩
theorem JF.ll (h:JF H o V c b) {n:Int} (hn:b.dJ=0->aI b.S.T n xK=true):JF H o V c (b.ll n):=by
 refine⟨h.hH,h.on,h.wt,λhb=>⟨?_,(h.fa hb).en⟩,λhb hc=> ?_,h.er,h.lm⟩
 ·show FR H b.S.T (vg b.S.l n);have hf:=(h.fa hb).fr;by_cases hm:n∈b.S.l
  ·obtain⟨A,B,e⟩:=vO hm;obtain⟨ha, -⟩:=VR hf.hd e (Gm hf.tr (by kernel_rfl) (hn hb));rw[Md e (uD hf.pt)];have hcp:=Nq (hn hb);rw[e]at hf;exact hf.rm ha hcp.row hcp.bnd
  ·rw[aae hm];exact hf
 ·obtain⟨x,hx,hcx⟩:=h.ce hb hc;refine⟨x,?_,hcx⟩;show x∈vg b.S.l n
  have hne:x≠n:=by
   rintro rfl;have am5:aI b.S.T x oW=true:=hcx;rw[(Np (hn hb) (by kernel_rfl)).1]at am5;cases am5
  by_cases hm:n∈b.S.l
  ·obtain⟨A,B,e⟩:=vO hm;rw[Md e (uD (h.fa hb).fr.pt)];rw[e]at hx;rcases fB.1 hx with hx|hx
   ·exact sQ _ hx
   ·exact xf _ ((dS.1 hx).resolve_left hne)
  ·rw[aae hm];exact hx
theorem JF.dx (h:JF H o V c b):JF H o V c b.dx :=
 h.keep' (S:=(mP b.on b.S).1) (u:=b.used) (e:=(mP b.on b.S).2) (λhb _=>⟨(Mh h.hH (h.fa hb) b.on).1,λhc=>Wp (Mh h.hH (h.fa hb) b.on).2.1 (h.fa hb).fr.el (h.ce hb hc)⟩) (λhb=>(Mh h.hH (h.fa hb) b.on).2.2) (UB h.lm _)
theorem JF.ow (h:JF H o V c b) (hn:fU xK nm=true):JF H o V c (b.ow nm) :=
 h.keep' (S:=(gW b.on nm b.S).1) (u:=b.used) (e:=(gW b.on nm b.S).2.2) (λhb he=>⟨((DF h.hH (h.fa hb) b.on hn).1 he).1,λhc=>Wp ((DF h.hH (h.fa hb) b.on hn).1 he).2 (h.fa hb).fr.el (h.ce hb hc)⟩) (λhb=>(DF h.hH (h.fa hb) b.on hn).2) (Qt h.lm _ _)
theorem JF.eX {p:Prop} [Decidable p] {r q:aC} (h1:p->JF H o V c r) (h2: ¬p->JF H o V c q):JF H o V c (if p then r else q):=by
 by_cases h:p
 ·rw[au h];exact h1 h
 ·rw[aj h];exact h2 h
end
end
section
def R5 (r:aC):Prop:=r.dJ=0->r.top≠1/\r.qm=0/\nI r.S.T r.top=false
def MX (n:Int) (r:aC):Prop:=r.aD=n\/r.aD=6\/r.aD=12\/(r.aD=5/\r.mV=n/\R5 r)
structure JM (H:List Int) (o:Bool) (V:ae) (c:Bool) (n:Int) (r:aC):Prop where
 jf:JF H o V c r
 mx:MX n r
def ant:List ae:= [⟨#[116,98,111,100,121]⟩,⟨#[116,102,111,111,116]⟩,⟨#[116,104,101,97,100]⟩,⟨#[116,114]⟩,⟨#[104,101,97,100]⟩,⟨#[98,111,100,121]⟩,⟨#[104,116,109,108]⟩]
section
variable {b:aC} {m:aO} {H:List Int} {o c:Bool} {V nm w:ae} {names N S:List ae} {x n:Int} {l:List ax}
theorem Dm (h:(nm.toList==l)=true) (hw:w.toList=l):fU N nm=fU N w:=og ((eq_of_beq h).trans hw.symm)
theorem rY (h:cB m S=true):dh S m.ah=true:=by
 unfold cB at h;rw[cz]at h;exact h.2
theorem Sy (h:iO m S=true):dh S m.ah=true:=by
 unfold iO at h;rw[cz]at h;exact h.2
theorem akx (h1:fU S nm=false) (h2:fU names nm=false) (hS:(N.all λy=>fU S y||fU names y)=true):fU N nm=false:=by
 cases e:fU N nm with
 |false=>rfl
 |true =>
  obtain⟨y,hy,he⟩:=nU.1 e;have:=qF.1 hS y hy;rw[<-og (S:=S) (eq_of_beq he),<-og (S:=names) (eq_of_beq he),h1,h2]at this;cases this
theorem JM.nL {α:Type} {p:Prop} [Decidable p] {r q:aC×α} (h1:p->JM H o V c n r.1) (h2: ¬p->JM H o V c n q.1):JM H o V c n (if p then r else q).1:=by
 by_cases h:p
 ·rw[au h];exact h1 h
 ·rw[aj h];exact h2 h
theorem JM.eX {p:Prop} [Decidable p] {r q:aC} (h1:p->JM H o V c n r) (h2: ¬p->JM H o V c n q):JM H o V c n (if p then r else q):=by
 by_cases h:p
 ·rw[au h];exact h1 h
 ·rw[aj h];exact h2 h
theorem JF.jm (h:JF H o V c b) (hm:b.aD=n):JM H o V c n b:=⟨h,.inl hm⟩
theorem JF.pE (h:JF H o V c b) (hm:b.aD=n) (k:Int) (hn:fU Oz m.ah=false) (hc:fU oW m.ah=false):JM H o V c n (b.pE m k):=by
 obtain⟨h1,h2⟩:=h.R8 0 m.aA λ_=>hn
 refine⟨h1.same rfl rfl rfl rfl,.inr (.inr (.inr ⟨rfl,(iB b _ _).trans hm,λhe=> ?_⟩))⟩;obtain⟨x,e1,e2, -,e4,e5,e6⟩:=h2 he
 have ht:(b.pE m k).top=x:=by
  show(b.jv 0 m.ah m.aA).1.S.l.getLast?.getD 0=x;rw[e1];simp
 unfold aC.qm;rw[ht];refine⟨e2,e5,?_⟩;have e7:bq (b.pE m k).S.T x=m.ah:=e6;unfold nI aI;rw[e7,hc,jd,jd]
theorem JF.gV (h:JF H o V c b) (hm:b.aD=n) (m:aO):JM H o V c n (b.gV m).1:=by
 unfold aC.gV;exact .nL (λq=>(h.single (jq (rY q) (by kernel_rfl)) (jq (rY q) (by kernel_rfl)) m.aA).jm ((iB b m.ah m.aA).trans hm)) λ_=> .nL (λq=>h.pE hm 1 (jq (rY q) (by kernel_rfl)) (jq (rY q) (by kernel_rfl))) λ_=> .nL (λq=>h.pE hm 2 (jq (rY q) (by kernel_rfl)) (jq (rY q) (by kernel_rfl))) λ_=>h.jm hm
theorem JF.gB (h:JF H o V c b):JF H o V c b.gB:=h.gZ (.inr (.inr rfl)) (by kernel_rfl) (.inl rfl) λy hy=>by rw[dG.1 hy];kernel_rfl
def Past (b:aC) (l:List Int):Prop:= ∃A,b.S.l.reverse=A++l/\ ∀y∈A,nI b.S.T y=false
theorem Past.next {r:List Int} (h:Past b (x::r)) (hx:nI b.S.T x=false):Past b r:=by
 obtain⟨A,e,h2⟩:=h;refine⟨A++ [x],by rw[e];simp,λy hy=> ?_⟩;rcases fB.1 hy with hy|hy
 ·exact h2 y hy
 ·rw[dG.1 hy];exact hx
theorem JF.Xo (h:JF H o V c b) {r:List Int} (hp:Past b (x::r)) (hb:b.dJ=0) (hc:((aX b.S.T x==0)&&dh names (bq b.S.T x))=true):aI b.S.T x names=true:=by
 obtain⟨A,e, -⟩:=hp;rw[cz]at hc;have hx:x∈b.S.l:=jM.1 (by rw[e];simp);unfold aI;rw[(h.fa hb).fr.el x hx,hc.1,Au hc.2];rfl
theorem JF.tO (h:JF H o V c b) (h1:fU names (⟨#[104,116,109,108]⟩:ae)=false) (h3:(oW.all λy=> !fU names y)=true): ∀l,Past b l->JF H o V c (aC.tO names b l)
 | [],_=>h
 |x::r,hl=>by
  rw[aC.tO];refine .eX (λhc=> ?_) λhno=> .eX (λ_=>h) λhs=>h.tO h1 h3 r (hl.next ?_)
  ·have hc2:=(cz _ _).mp hc;refine h.close (λhb=> ?_) (Dq (U7 hc2.2 h1)) (.inl rfl) λ_ y hy=>by rw[dG.1 hy];exact jq hc2.2 h3
   obtain⟨A,e,h2⟩:=hl;exact⟨A,x,r,e,Yz ((h.fa hb).fr.el x (jM.1 (by rw[e];simp))) (eq_of_beq hc2.1),λ_=>h2⟩
  ·cases e:nI b.S.T x with
   |false=>rfl
   |true =>
    exfalso;obtain⟨-,e2,e3⟩:=kC e;apply hs;rw[Ql e,nW];unfold dh;rw[GA (N:=oW) (by kernel_rfl) e3,Ew,jd];rfl
theorem Mv (b:aC):Past b b.S.l.reverse:=⟨[],rfl,λy hy=>by cases hy⟩
theorem JF.oL (h:JF H o V c b) {want:ae} (hw:(want.toList==([104,116,109,108]:List ax))=false) (h3:c=true->fU oW want=false): ∀l,Past b l->JF H o V c (aC.oL want b l)
 | [],_=>h
 |x::r,hl=>by
  rw[aC.oL];refine .eX (λhc=> ?_) λhno=> .eX (λ_=>h) λhs=>h.oL hw h3 r (hl.next ?_)
  ·obtain⟨A,e,h2⟩:=hl;by_cases hb:b.dJ=0
   ·have hn:aI b.S.T x [want]=true:=h.Xo ⟨A,e,h2⟩ hb hc
    --what is aok is popped first:all that stands behind x stays
    have hni:=not_imp (.inl rfl:EN [want] want) hn
    have hdw: ∀L:List Int,x∉L->((L++x::r).dropWhile λy=>y !=x).drop 1=r:=λL=>by
     induction L with
     |nil=>intro _;simp
     |cons y L ih =>
      intro hy;rw[mq,Ep,au (by simp;exact λe=>hy (e▸dR)),ih λhh=>hy (gm _ hh)]
    have hxA:x∉A:=by
     have:=uD (h.fa hb).fr.pt;have h4:b.S.l.reverse.Nodup:=List.pairwise_reverse.2 (this.imp λhh=>Ne.symm hh);rw[e,oK]at h4;exact λhx=>h4.2.2 x hx x (by simp) rfl
    have him: ∀L:List Int,x∉L->((jG b.S.T want (L++x::r)).dropWhile λy=>y !=x).drop 1=r:=λL=>by
     induction L with
     |nil =>
      intro _;rw[jZ,jG,aj (by rw[hni];decide)];exact hdw [] (by simp)
     |cons y L ih =>
      intro hy;rw[mq,jG];split
      ·exact ih λhh=>hy (gm _ hh)
      ·exact hdw (y::L) hy
    have e2:(b.jw want).ui x=b.oP r.reverse:=by
     show b.oP (((((jG b.S.T want b.S.l.reverse).reverse).reverse).dropWhile λy=>y !=x).drop 1).reverse=_;rw[vM,e,him A hxA]
    rw[e2];exact h.cut ⟨A++ [x],by rw[e];simp⟩ λ_=>⟨A,x,r,[],e,h.no1 hb (Dq hw) hn,rfl,λhcc=>⟨h2,PK hn λy hy=>by rw[dG.1 hy];exact h3 hcc⟩⟩
   ·exact⟨h.hH,h.on,h.wt,λhx=>absurd hx hb,λhx=>absurd hx hb,h.er,h.lm⟩
  ·cases e:nI b.S.T x with
   |false=>rfl
   |true=>exact absurd (Ql e) hs
theorem JF.other (h:JF H o V c b) {want:ae} (hw:(want.toList==([104,116,109,108]:List ax))=false) (h3:c=true->fU oW want=false):JF H o V c (b.other want):=h.oL hw h3 _ (Mv b)
theorem aiA (h:fU xK nm=true):fU Oz nm=false:=GA (by kernel_rfl) h
theorem JF.forms (h:JF H o V c b) (hn:fU xK m.ah=true):JF H o V c (b.forms m):=by
 obtain⟨h1,h2⟩:=h.dx.R8 0 m.aA λ_=>aiA hn
 unfold aC.forms;refine .eX (λ_=>h1) λhne=>JF.lst h1 λhb x hx=> ?_
 obtain⟨n,e1,e2,e3,e4,e5,e6⟩:=h2 hb
 have hx':x∈(b.dx.ins m.ah m.aA).S.aF\/x=b.dx.yX m.ah m.aA:=by
  unfold Bj at hx;rcases fB.1 hx with hx|hx
  ·left;split at hx
   ·unfold iX at hx;split at hx
    ·exact List.mem_of_mem_eraseIdx hx
    ·exact hx
   ·exact hx
  ·exact .inr (dG.1 hx)
 rcases hx' with hx'|rfl
 ·exact(h1.fa hb).en x hx'
 ·refine .inr ?_;have e3':b.dx.yX m.ah m.aA=n:=e3;rw[e3'];unfold aI;rw[e4,e5,e6,hn];rfl
theorem JF.ng (h:JF H o V c b) (hm:b.aD=n) (hn:dh [⟨#[116,101,120,116,97,114,101,97]⟩,⟨#[120,109,112]⟩,⟨#[105,102,114,97,109,101]⟩,⟨#[110,111,101,109,98,101,100]⟩] m.ah=true):JM H o V c n (b.ng m):=by
 have h1:=jq (N:=Oz) hn (by kernel_rfl);have h2:=jq (N:=oW) hn (by kernel_rfl);unfold aC.ng;refine .eX (λ_=> ?_) λ_=> .eX (λ_=>h.gB.dx.pE ((gI _).trans ((qy b).trans hm)) 2 h1 h2) λ_=>h.pE hm 2 h1 h2
 obtain⟨k1,k2⟩:=h.pE hm 1 h1 h2;exact⟨k1.same rfl rfl rfl rfl,k2⟩
theorem JF.phrases (h:JF H o V c b) (hn:fU Oz m.ah=false):JF H o V c (b.phrases m):=by
 have h1: ∀r:aC,JF H o V c r->JF H o V c (if dh [⟨#[97,112,112,108,101,116]⟩,⟨#[109,97,114,113,117,101,101]⟩,⟨#[111,98,106,101,99,116]⟩] m.ah then(r.dx.ins m.ah m.aA).vz else r.dx.ins m.ah m.aA):=λr hr=> .eX (λ_=>(hr.dx.ins hn _).vz) λ_=>hr.dx.ins hn _
 unfold aC.phrases;refine h1 _ (.eX (λ_=>h.gZ (sc:=0) (but:=⟨#[]⟩) (names:= [⟨#[98,117,116,116,111,110]⟩]) (.inl rfl) (by kernel_rfl) (.inr λy hy=> ?_) λy hy=> ?_) λ_=> .eX (λ_=> .eX (λhc=>h.akl hc (by kernel_rfl) (by kernel_rfl)) λ_=>h) λ_=>h)
 ·rw[dG.1 hy];kernel_rfl
 ·rw[dG.1 hy];kernel_rfl
theorem JF.uk (h:JF H o V c b) (m:aO) {sp:Int} (hs:sp≠0):JF H o V c (b.uk m sp):=by
 obtain⟨h1,h2⟩:=h.R8 (nm:=oq sp m.ah) sp (jb sp m.aA) λe=>absurd e hs
 unfold aC.uk;refine .eX (λ_=>h1.pop λhb=> ?_) λ_=>h1
 obtain⟨n,e1,e2, -,e4,e5,e6⟩:=h2 hb;have ht:(b.jv sp (oq sp m.ah) (jb sp m.aA)).1.top=n:=by unfold aC.top;rw[e1];simp
 rw[ht];refine⟨e2,λ_=> ?_⟩;unfold nI aI;rw[e5,aV.2 hs,Ew,jd]
theorem JF.blocks (h:JF H o V c b) (hm:b.aD=n) (hn:fU ant m.ah=false) (ht:fU lH m.ah=true->o=false):JM H o V c n (b.blocks m):=by
 have h2:JF H o V c (aC.gB (if m.ah.toList==([108,105]:List ax)then b.item [⟨#[108,105]⟩]else if(m.ah.toList==([100,100]:List ax))||(m.ah.toList==([100,116]:List ax))then b.item [⟨#[100,100]⟩,⟨#[100,116]⟩]else b)) :=
  JF.gB (.eX (λ_=>h.tO (by kernel_rfl) (by kernel_rfl) _ (Mv b)) λ_=> .eX (λ_=>h.tO (by kernel_rfl) (by kernel_rfl) _ (Mv b)) λ_=>h)
 have hm2:(aC.gB (if m.ah.toList==([108,105]:List ax)then b.item [⟨#[108,105]⟩]else if(m.ah.toList==([100,100]:List ax))||(m.ah.toList==([100,116]:List ax))then b.item [⟨#[100,100]⟩,⟨#[100,116]⟩]else b)).aD=n :=
  (qy _).trans (iT ((Ch _ _ _).trans hm) (iT ((Ch _ _ _).trans hm) hm))
 unfold aC.blocks;simp only;generalize aC.gB (if m.ah.toList==([108,105]:List ax)then b.item [⟨#[108,105]⟩]else if(m.ah.toList==([100,100]:List ax))||(m.ah.toList==([100,116]:List ax))then b.item [⟨#[100,100]⟩,⟨#[100,116]⟩]else b)=b2 at h2 hm2 |-;have h4:JF H o V c (if kY m.ah&&b2.at' kN then b2.pop else b2):= .eX (λhc=>h2.akl ((cz _ _).mp hc).2 (by kernel_rfl) (by kernel_rfl)) λ_=>h2
 have hm4:(if kY m.ah&&b2.at' kN then b2.pop else b2).aD=n:=iT hm2 hm2;generalize (if kY m.ah&&b2.at' kN then b2.pop else b2)=b3 at h4 hm4 |-
 have key: ∀S:List ae,(S.all λy=>fU ant y)=true->fU S m.ah=false:=λS hS=>by
  cases e:fU S m.ah with
  |false=>rfl
  |true=>rw[yU hS e]at hn;cases hn
 have h5:JF H o V c (b3.ins m.ah m.aA):=(h4.jv (nm:=m.ah) 0 m.aA (λ_ e=>by rw[key _ (by kernel_rfl)]at e;cases e) (λ_ e=>ht e) λ_=>key _ (by kernel_rfl)).1;have hm5:(b3.ins m.ah m.aA).aD=n:=(iB b3 _ _).trans hm4;exact .eX (λ_=>(h2.single (by kernel_rfl) (by kernel_rfl) m.aA).jm ((iB b2 _ _).trans hm2)) λ_=> .eX (λ_=>⟨h5.same rfl rfl rfl rfl,.inl hm5⟩) λ_=> .eX (λ_=>⟨h5.goto 6,.inr (.inl rfl)⟩) λ_=>h5.jm hm5
theorem WN (h:JF H o V c b) (hn:fU xK nm=true) (he:(b.ow nm).dJ=0) (hx:aI b.S.T x N=true):aI (b.ow nm).S.T x N=true:=by
 obtain⟨e1,e2⟩:=aC.ou he;have hS:(b.ow nm).S=(gW b.on nm b.S).1:=aC.vW _ _;rw[hS,((DF h.hH (h.fa e2) b.on hn).1 e1).2.jS.named (eP (kC hx).1).2];exact hx
theorem JF.opens (h:JF H o V c b) (hm:b.aD=n) (m:aO) (ht:fU lH m.ah=true->o=false):JM H o V c n (b.opens m).1:=by
 rw[aC.opens.eq_1];refine .nL (λ_=>h.jm hm) λn1=> .nL (λ_=>h.gV hm m) λ_=> .nL (λhc=>h.blocks hm ?_ ht) λn2=> .nL (λhc=> ?_) λ_=> .nL (λhc=>(h.forms ?_).jm ((zF b m).trans hm)) λ_=> .nL (λhc=> ?_) λ_=> .nL (λhc=>(h.single (jq hc (by kernel_rfl)) (jq hc (by kernel_rfl)) _).jm ((iB b _ _).trans hm)) λ_=> .nL (λhc=> ?_) λ_=> .nL (λhc=>h.ng hm hc) λ_=> .nL (λhc=> ?_) λ_=>(h.phrases ?_).jm ((MS b m).trans hm)
 ·rw[jD,jD]at hc;rcases hc with(hc|hc)|hc
  ·exact jq hc (by kernel_rfl)
  ·exact jq hc (by kernel_rfl)
  ·exact jq hc (by kernel_rfl)
 ·have hf:fU xK m.ah=true:=(Dm hc (w:=(⟨#[97]⟩:ae)) (by kernel_rfl)).trans (by kernel_rfl);have hm2:(if b.find (⟨#[97]⟩:ae)=0 then b else((b.ow (⟨#[97]⟩:ae)).Ay (b.find (⟨#[97]⟩:ae))).ll (b.find (⟨#[97]⟩:ae))).aD=n:=iT hm ((vv b _).trans hm);refine JF.jm (JF.forms (.eX (λ_=>h) λhne=> ?_) hf) ((zF _ m).trans hm2);have ha:=h.ow (nm:=(⟨#[97]⟩:ae)) (by kernel_rfl);refine(ha.amz (nY _ _)).ll λhb=> ?_
  exact Dj (by kernel_rfl) (WN h (by kernel_rfl) hb (Nr _ _ _ hne))
 ·exact yU (by kernel_rfl) (Au hc)
 ·have hf:fU xK m.ah=true:=(Dm hc (w:=(⟨#[110,111,98,114]⟩:ae)) (by kernel_rfl)).trans (by kernel_rfl);exact JF.jm (JF.forms (.eX (λ_=>h.dx.ow (by kernel_rfl)) λ_=>h.dx) hf) ((zF _ m).trans (iT ((vv _ _).trans ((gI b).trans hm)) ((gI b).trans hm)))
 ·have key: ∀m1:aO,dh [⟨#[97,114,101,97]⟩,⟨#[98,114]⟩,⟨#[101,109,98,101,100]⟩,⟨#[105,109,103]⟩,⟨#[105,109,97,103,101]⟩,⟨#[105,110,112,117,116]⟩,⟨#[107,101,121,103,101,110]⟩,⟨#[119,98,114]⟩] m1.ah=true->JM H o V c n (b.dx.single m1.ah m1.aA):=λm1 h1=>(h.dx.single (jq h1 (by kernel_rfl)) (jq h1 (by kernel_rfl)) _).jm ((iB b.dx _ _).trans ((gI b).trans hm))
  refine key _ ?_;split
  ·kernel_rfl
  ·exact hc
 ·refine⟨h.dx.uk m ?_,.inl ((Cj _ _ _).1.trans ((gI b).trans hm))⟩;split <;>decide
 ·rw[Bool.not_eq_true]at n1 n2;rw[Ae]at n2;exact akx (RF n1 (by kernel_rfl)) (RF n2.2 (by kernel_rfl)) (by kernel_rfl)
theorem JF.closes (h:JF H o V c b) (hm:b.aD=n) (m:aO) (h3:c=true->fU oW m.ah=false):JM H o V c n (b.closes m).1:=by
 rw[aC.closes.eq_1];refine .nL (λ_=> .nL (λ_=>⟨h.goto 12,.inr (.inr (.inl rfl))⟩) λ_=>h.jm hm) λhb=> ?_
 have hno:(m.ah.toList==([104,116,109,108]:List ax))=false:=by
  rw[aV];intro e;apply hb;unfold dh;rw[og (y:=(⟨#[104,116,109,108]⟩:ae)) (e.trans Jd.symm),e]
  kernel_rfl
 have hc1:fU oW m.ah=false-> ∀y∈ [m.ah],fU oW y=false:=λq y hy=>by rw[dG.1 hy];exact q
 refine .nL (λ_=>(JF.gB (.eX (λ_=>h) λ_=>h.ins (by kernel_rfl) _)).jm ((qy _).trans (iT hm ((iB b _ _).trans hm)))) λhnp=> .nL (λhc=>(h.gZ (.inl rfl) (Dq hno) ?_ (hc1 ?_)).jm ((uT _ _ _ _).trans hm)) λ_=> .nL (λ_=>(h.gZ (.inr (.inl rfl)) (by kernel_rfl) (.inl rfl) λy hy=>by rw[dG.1 hy];kernel_rfl).jm ((uT _ _ _ _).trans hm)) λ_=> .nL (λhc=>(h.gZ (.inl rfl) (Dq hno) (.inl rfl) (hc1 (jq hc (by kernel_rfl)))).jm ((uT _ _ _ _).trans hm)) λ_=> .nL (λ_=>(h.gZ (.inl rfl) (by kernel_rfl) (.inr (Hd (by kernel_rfl))) (λy hy=> ?_)).jm ((uT _ _ _ _).trans hm)) λ_=> .nL (λhc=> ?_) λ_=> .nL (λhc=>(JF.eX (λ_=>(h.gZ (.inl rfl) (Dq hno) (TK hc (Hd (by kernel_rfl)) _) (hc1 (jq hc (by kernel_rfl)))).tK) λ_=>h).jm (iT ((uT b _ _ _).trans hm) hm)) λ_=> .nL (λ_=>(h.dx.single (by kernel_rfl) (by kernel_rfl) _).jm ((iB b.dx _ _).trans ((gI b).trans hm))) λ_=>(h.other hno h3).jm ((Gq b _).trans hm)
 ·rw[jD]at hc;rcases hc with hc|hc
  ·exact abm hc (Ag.2 hnp) (by kernel_rfl) _
  ·exact TK hc (Hd (by kernel_rfl)) _
 ·rw[jD]at hc;rcases hc with hc|hc
  ·exact jq hc (by kernel_rfl)
  ·exact jq hc (by kernel_rfl)
 ·have:=qF.1 (show(kN.all λy=> !fU oW y)=true by kernel_rfl) y hy;simpa using this
 ·have hf:fU xK m.ah=true:=by
   rw[jD,jD]at hc;rcases hc with(hc|hc)|hc
   ·exact(Dm hc (w:=(⟨#[97]⟩:ae)) (by kernel_rfl)).trans (by kernel_rfl)
   ·exact(Dm hc (w:=(⟨#[110,111,98,114]⟩:ae)) (by kernel_rfl)).trans (by kernel_rfl)
   ·exact yU (by kernel_rfl) (Au hc)
  exact(JF.eX (λ_=>(h.ow hf).other hno h3) λ_=>h.ow hf).jm (iT ((Gq _ _).trans ((vv b _).trans hm)) ((vv b _).trans hm))
theorem JF.eO (h:JF H o V c b) (hm:b.aD=n) (m:aO) (ht:m.aH=2->fU lH m.ah=true->o=false) (h3:c=true->m.aH=3->fU oW m.ah=false):JM H o V c n (b.eO m).1:=by
 rw[aC.eO.eq_1];exact .nL (λ_=>(h.dx.put _).jm ((vT _ _).trans ((gI b).trans hm))) λ_=> .nL (λk2=>h.opens hm m (ht (eq_of_beq k2))) λ_=> .nL (λk3=>h.closes hm m λhc=>h3 hc (eq_of_beq k3)) λ_=>h.jm hm
end
end
end Go.Proofs.YtnlbcifhedjbfaaGreatDoor
