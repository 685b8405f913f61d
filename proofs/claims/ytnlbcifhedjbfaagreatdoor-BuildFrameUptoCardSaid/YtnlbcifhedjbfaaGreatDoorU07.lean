/- oZ joined for a claim: avS, avX, av0, aw7, avQ, arE, Bytes, awP, awO, awI, awN, awM: plain laws and contracts. No conditions beyond those that each lemma types. -/
import Derived.Test.YtnlbcifhedjbfaaGreatDoorU06
import Derived.BigQuiet
import Derived.Deep.Cut
import Derived.Deep.CutBlock
import Derived.Deep.CutRange
import Derived.Deep.RegionHeld3
import Derived.Deep.RegionLaw
import Derived.Test.YtnlbcifhedjbfaaGreatDoorU03
import Derived.Test.YtnlbcifhedjbfaaGreatDoorU04
import Derived.Test.YtnlbcifhedjbfaaGreatDoorU01
import Derived.Deep.QuietTactic
import Derived.Deep.RegionWith
import Derived.Test.YtnlbcifhedjbfaaGreatDoorRows
import Derived.Test.YtnlbcifhedjbfaaGreatDoorU05
set_option linter.unusedVariables false
set_option linter.unusedSimpArgs false
set_option maxRecDepth 100000
set_option maxHeartbeats 8000000
open Go.Proofs.Tryz
section
namespace Go.Proofs.YtnlbcifhedjbfaaGreatDoor
open Go.RowKit Mem
def zW (T U:aB):Prop:=T.ai.length<=U.ai.length/\U.gy=T.gy/\ ∀x,aY T x=true->aY U x=true
theorem zW.refl (T:aB):zW T T:=⟨ay _,rfl,λ_ h=>h⟩
theorem zW.trans {T U V:aB} (h:zW T U) (k:zW U V):zW T V:=⟨bY h.1 k.1,k.2.1.trans h.2.1,λx hx=>k.2.2 x (h.2.2 x hx)⟩
theorem WO (T:aB) (d:ND):zW T (bL T d):=by
 refine⟨by simp[bL],rfl,λx hx=> ?_⟩;obtain⟨i,hi,rfl,h1,_⟩:=Dv hx;rw[DI T d i hi];exact hx
theorem RL (T:aB) (d:ND):zW T (qz T d).1:=by
 unfold qz;split
 ·exact WO T d
 ·exact zW.refl T
theorem wQ (T:aB) (n:Int):zW T (dm T n).1:=by
 unfold dm;split
 ·exact RL _ _
 ·exact zW.refl T
theorem rV (T:aB) (n:Int) (f:ND->ND) (hf: ∀d,(f d).elem=d.elem) (x:Int):aY (iK T n f) x=aY T x:=by
 rw[show iK T n f=iK T ((n.toNat:Nat):Int) f from by unfold iK;rw[kg]];exact wT T n.toNat f hf x
theorem yV (T:aB) (a:Int) (i:Nat) (n x:Int):aY (eF T a i n) x=aY T x:=by
 unfold eF;rw[rV _ _ (fo a) (λ_=>rfl),rV _ _ (iC _) (λ_=>rfl)]
theorem JR (T:aB) (n x:Int):aY (bG T n) x=aY T x:=by
 unfold bG;rw[rV _ _ (fo (-1)) (λ_=>rfl)];unfold iD;split
 ·rw[rV _ _ (iC _) (λ_=>rfl)]
 ·rfl
theorem Pn (T:aB) (a b n x:Int):aY (kr T a b n) x=aY T x:=by rw[kr,yV,JR]
theorem zz (T:aB) (a b n:Int):zW T (fe T a b n).1:=by
 unfold fe;split
 ·exact⟨uu (qa ..).symm,IQ ..,λx hx=>by rw[Pn];exact hx⟩
 ·exact zW.refl T
theorem acs (T:aB) (a b:Int):zW T (kD T a b).1:=by
 unfold kD;split
 ·have: ∀(l:List Int) (U:aB),zW T U->zW T (moveF U b l):=by
   intro l
   induction l with
   |nil=>exact λ_ h=>h
   |cons x r ih=>exact λU h=>ih _ (h.trans (zz _ _ _ _))
  exact this _ _ (zW.refl T)
 ·exact zW.refl T
theorem abE (T:aB) (a b:Int) (s:ae):zW T (iG T a b s).1:=by
 unfold iG;split
 ·split
  ·exact zW.refl T
  ·unfold vR;split
   ·exact⟨uu (gU ..).symm,rfl,λx hx=>(rV _ _ (iQ s) (λ_=>rfl) x).trans hx⟩
   ·split
    ·refine(WO T (pW s)).trans ⟨uu (nN ..).symm,rfl,λx hx=>(yV _ _ _ _ x).trans hx⟩
    ·exact zW.refl T
 ·exact zW.refl T
theorem ym (T:aB) (l:List Int) (on:Bool) (sp:Int) (nm:ae) (at':List dD):zW T (aU T l on sp nm at').1:=by
 unfold aU;simp only;split
 ·exact(RL _ _).trans (zz _ _ _ _)
 ·exact RL _ _
theorem nM {T:aB} (hm:(T.ai.length:Int)-1<T.gy) (l:List Int) (on:Bool) (sp:Int) (nm:ae) (at':List dD) :
 (aU T l on sp nm at').2.1=l++ [(T.ai.length:Int)]/\(aU T l on sp nm at').2.2=((T.ai.length:Int),0)/\(aU T l on sp nm at').1.ai.length=T.ai.length+1:=by
 have e:qz T (fQ sp nm at')=(bL T (fQ sp nm at'),(T.ai.length:Int),0):=by rw[qz,au hm]
 unfold aU;rw[e];refine⟨rfl,rfl,?_⟩;show(fe _ _ _ _).1.ai.length=_
 have h: ∀(U:aB) (a b n:Int),(fe U a b n).1.ai.length=U.ai.length:=λU a b n=>by
  unfold fe;split
  ·exact qa ..
  ·rfl
 rw[h];simp[bL]
theorem mK {T:aB} (hm: ¬(T.ai.length:Int)-1<T.gy) (l:List Int) (on:Bool) (sp:Int) (nm:ae) (at':List dD):aU T l on sp nm at'=(T,l,0,43):=by
 have e:qz T (fQ sp nm at')=(T,0,43):=by rw[qz,aj hm]
 unfold aU;rw[e];rfl
theorem VH (T:aB) (l:List Int) (on:Bool) (sp:Int) (nm:ae) (at':List dD):(aU T l on sp nm at').2.1.length<=l.length+1:=by
 by_cases hm:(T.ai.length:Int)-1<T.gy
 ·rw[(nM hm l on sp nm at').1];simp
 ·rw[mK hm];exact wY _
def uy (l:List Int) (x:Int):Bool:=decide (x= -1)||decide (0<=aT l x)
def G9 (l:List Int):List Int->Nat
 | []=>0
 |x::r=>if uy l x then r.length+1 else G9 l r
def NM (l aF:List Int):Nat:=G9 l aF.reverse
theorem Qm (l aF:List Int) (k:Nat) (h:k<aF.length):G9 l (aF.take (k+1)).reverse=if uy l aF[k]then k+1 else G9 l (aF.take k).reverse:=by
 rw[jL h,pO,xe,xc,G9,Iq,fV,rE (by omega)]
theorem aa4 (l:List Int): ∀r:List Int,G9 l r<=r.length
 | []=>ay _
 |x::r=>by
  rw[G9];split
  ·exact ay _
  ·exact Nat.le_succ_of_le (aa4 l r)
theorem aa5 (l aF:List Int):NM l aF<=aF.length:=by
 have:=aa4 l aF.reverse
 rwa [Iq]at this
theorem adh (l aF:List Int):(∀(k:Nat) (h:k<aF.length),NM l aF<=k->uy l aF[k]=false)/\(0<NM l aF-> ∃h:NM l aF-1<aF.length,uy l aF[NM l aF-1]=true):=by
 have key: ∀n:Nat,n<=aF.length->(∀(k:Nat) (h:k<aF.length),k<n->G9 l (aF.take n).reverse<=k->uy l aF[k]=false)/\(0<G9 l (aF.take n).reverse-> ∃h:G9 l (aF.take n).reverse-1<aF.length,uy l aF[G9 l (aF.take n).reverse-1]=true):=by
  intro n
  induction n with
  |zero=>exact λ_=>⟨λk _ h=>absurd h (Nat.not_lt_zero k),λh=>by simp[G9]at h⟩
  |succ n ih =>
   intro hn;obtain⟨h1,h2⟩:=ih (by omega);rw[Qm l aF n (by omega)];cases hs:uy l aF[n]
   ·simp only[gQ,dM];refine⟨λk h hk hb=> ?_,h2⟩;rcases lG k n with hlt|hge
    ·exact h1 k h hlt hb
    ·obtain rfl:k=n:=by omega
     exact hs
   ·simp only[dY];exact⟨λk h hk hb=>by omega,λ_=>⟨by omega,by simpa using hs⟩⟩
 have:=key aF.length (ay _);rw[iH (ay _)]at this;exact⟨λk h hb=>this.1 k h h hb,this.2⟩
noncomputable def qU (on:Bool):Nat->Nat->AS->AS×Int
 |0,_,S=>(S,0)
 |r+1,i,S =>
  if(aU S.T S.l on (aX S.T (S.aF.getD i 0)) (bq S.T (S.aF.getD i 0)) (bW S.T (S.aF.getD i 0))).2.2.2=0 then
   qU on r (i+1) ⟨(aU S.T S.l on (aX S.T (S.aF.getD i 0)) (bq S.T (S.aF.getD i 0)) (bW S.T (S.aF.getD i 0))).1,(aU S.T S.l on (aX S.T (S.aF.getD i 0)) (bq S.T (S.aF.getD i 0)) (bW S.T (S.aF.getD i 0))).2.1,S.aF.set i (aU S.T S.l on (aX S.T (S.aF.getD i 0)) (bq S.T (S.aF.getD i 0)) (bW S.T (S.aF.getD i 0))).2.2.1⟩
  else(⟨(aU S.T S.l on (aX S.T (S.aF.getD i 0)) (bq S.T (S.aF.getD i 0)) (bW S.T (S.aF.getD i 0))).1,(aU S.T S.l on (aX S.T (S.aF.getD i 0)) (bq S.T (S.aF.getD i 0)) (bW S.T (S.aF.getD i 0))).2.1,S.aF⟩,(aU S.T S.l on (aX S.T (S.aF.getD i 0)) (bq S.T (S.aF.getD i 0)) (bW S.T (S.aF.getD i 0))).2.2.2)
noncomputable def mP (on:Bool) (S:AS):AS×Int:=qU on (S.aF.length-NM S.l S.aF) (NM S.l S.aF) S
section
variable {w0 w w':af} {B B' tb sb lb:Nat} {ex:Nat->Prop} {T T':aB} {l l' aF ent':List Int} {on on':Bool}
theorem aed (h:LI w0 B tb sb lb ex T l aF on w) (k:Nat) (hk:k<aF.length) (i:Int) (hi:i=(k:Int)) :
 Calls prog 197 #[.pointer (some ⟨lb,0,none⟩),.int .i64 i] w λe w'=>e= .returned (.bool (uy l aF[k]))/\ ∃q,w'=w.drewN q:=by
 subst hi;obtain⟨sa,sc,c0,c1,c2,c3,hA,hcm,hcl⟩:=h.cells;obtain⟨b,o,rfl,e1⟩:=hA _ _ (fw aF k hk);have HL:=hd' h;have HF:=hd' (λu (hu:LI w0 B tb sb lb ex T l aF on u)=>CO hu aF[k]);have HS:=hd' (show uy l aF[k]=(decide (aF[k]= -1)||decide (0<=aT l aF[k]))from rfl);obtain⟨x,hx⟩: ∃x,x=aF[k]:=⟨_,rfl⟩;rw[<-hx]at e1 HF HS |-;unfold maxLen at hcm;clear hx h hA;by_cases h1:x= -1
 ·have he:(x== -1)=true:=by simpa using h1
  have HS2:Hid (uy l x=true):=hd' (by rw[HS.o',pI h1];rfl);clear h1;go_enter func197,ntmps197
  go_wp2_with fail
  go_quiet (fail)
  go_wp2_with fail
  go_ret;exact⟨bJ HS2.o'.symm,_,rfl⟩
 ·have he:(x== -1)=false:=by simpa using h1
  have HS2:Hid (uy l x=decide (0<=aT l x)):=hd' (by rw[HS.o',qB h1];rfl);clear h1;generalize aT l x=p at *;go_enter func197,ntmps197
  go_wp2_with fail
  go_quiet ((go_at_call 152;exact(HF.o' _ (HL.o'.world (fM _ _))).mono λe w' ⟨he,hw⟩=>⟨he,_,hw.symm⟩))
  go_wp2_with fail
  go_ret;exact⟨bJ HS2.o'.symm,_,rfl⟩
theorem ZF (h:LI w0 B tb sb lb ex T l aF on w) (hle:l.length+aF.length<1000000) :
 Calls prog 154 #[.pointer (some ⟨lb,0,none⟩)] w λe w'=>e= .returned (.int .i64 (mP on ⟨T,l,aF⟩).2)/\LI w0 B tb sb lb ex (mP on ⟨T,l,aF⟩).1.T (mP on ⟨T,l,aF⟩).1.l (mP on ⟨T,l,aF⟩).1.aF on w'/\az (Own w0 ex) w w':=by
 obtain⟨sa,sc,c0,c1,c2,c3, -,hcm, -⟩:=h.cells;unfold maxLen at hcm;have HL:=hd' h;have HB0:=hd' (show NM l aF=G9 l aF.reverse from rfl);have HBl:=aa5 l aF;have Tx:Hid (mP on ⟨T,l,aF⟩=qU on (aF.length-NM l aF) (NM l aF) ⟨T,l,aF⟩):=hd' rfl;obtain⟨bg,hbg⟩: ∃bg,bg=NM l aF:=⟨_,rfl⟩;rw[<-hbg]at HB0 HBl Tx;have HT0:=hd' (show aF.take aF.length=aF from iH (ay _));clear h hbg;go_enter func154,ntmps154
 go_upto_block 0 with fail
 go_cut [3]from 6 to 21 (λs3 wx=>s3= .int .i64 bg/\Hid (Below w.heap.size w wx))
 case first =>
  go_wp2_with fail
  go_loopw [3] (λi wr=> ∃k:Nat,k<=aF.length/\i= .int .i64 k/\Hid (Below w.heap.size w wr)/\Hid (bg=G9 l (aF.take k).reverse)) (λi _=>(intOf i).toNat)
  case atStart=>exact⟨aF.length,ay _,rfl,hd' (aQ _ _),hd' (by rw[HB0.o',HT0.o'])⟩
  case round =>
   obtain⟨k,hk,rfl,nJ,HV⟩:=hrel;cases k with
   |zero =>
    go_wp2_with fail
    go_meet
    exact⟨by rw[HV.o'];rfl,nJ⟩
   |succ k =>
    have hlt:k<aF.length:=by omega
    have hw1:IntKind.i64.wrap (((k+1:Nat):Int)-1)=(k:Int):=by rw[qG];omega
    have HSt:=hd' (aed (HL.o'.world nJ.o') k hlt k rfl);have HST:=hd' (Qm l aF k hlt);cases hs:uy l aF[k]
    ·rw[hs]at HSt HST;go_wp2_with (go_at_call 197;refine HSt.o'.mono ?_;rintro e w2 ⟨rfl,q,rfl⟩)
     go_roundw
     case rel=>exact⟨k,by omega,by go_num,hd' (aK nJ.o' (fM _ _)),hd' (by rw[HV.o',HST.o'];rfl)⟩
     case measure=>simp[intOf]
    ·rw[hs,au rfl]at HST;go_wp2_with (go_at_call 197;refine HSt.o'.mono ?_;rintro e w2 ⟨rfl,q,rfl⟩)
     go_meet
     exact⟨(by rw[HV.o',HST.o'];go_num),hd' (aK nJ.o' (fM _ _))⟩
 case rest =>
 obtain⟨rfl,HBc⟩:=hcut;have HLc:=hd' (HL.o'.world HBc.o');have HKc:=hd' (az.bC (F:=Own w0 ex) HBc.o');clear c0 c1 c2 c3 HL HT0 HB0 hcm;go_wp2_with fail
 go_loopw [3] (λi wr=> ∃(k:Nat) (S:AS),bg<=k/\k<=aF.length/\i= .int .i64 k/\Hid (LI w0 B tb sb lb ex S.T S.l S.aF on wr)/\Hid (az (Own w0 ex) w wr)/\Hid (mP on ⟨T,l,aF⟩=qU on (aF.length-k) k S)/\S.aF.length=aF.length/\S.l.length<=l.length+k) (λi _=>aF.length-(intOf i).toNat)
 case atStart=>exact⟨bg,⟨T,l,aF⟩,ay _,HBl,rfl,HLc,HKc,Tx,rfl,by simp⟩
 case round =>
  obtain⟨k,S,hk1,hk2,rfl,Bo,DU,HV,hse,hsl⟩:=hrel;obtain⟨T1,l1,e1⟩:=S;simp only at Bo HV hse hsl |-;obtain⟨sa1,sc1,g0,g1,g2,g3,hA,hcm,hcl⟩:=Bo.o'.cells;unfold maxLen at hcm;by_cases hlt:k<aF.length
  ·obtain⟨r,hr⟩: ∃r,aF.length-k=r+1:=⟨aF.length-k-1,by omega⟩;have hlt1:k<e1.length:=by omega
   obtain⟨b,o,rfl,f1⟩:=hA _ _ (fw e1 k hlt1);have hgd:e1.getD k 0=e1[k]:=by simp[List.getD,mi hlt1]
   have HV2:=HV;rw[hr,qU]at HV2;simp only[hgd]at HV2;have Sl:=tZ Bo.o'.Bz e1[k];have HLd:=hd' (Bo.o'.world (aQ wr.heap.size wr).drew);have HW:=hd' (yx HLd.o' e1[k]);have hl1:l1.length<1000000:=by omega
   have Ty:=hd' (λu (hu:LI w0 B tb sb lb ex T1 l1 e1 on u) (a:Option Addr) (c:Nat) (hc:a=none->c=0) (ha:At u a (bz (bW T1 e1[k])))=>JG hu hl1 (aX T1 e1[k]) (bq T1 e1[k]) (bW T1 e1[k]) _ a c rfl hc Sl ha);have HIl:=hd' (VH T1 l1 on (aX T1 e1[k]) (bq T1 e1[k]) (bW T1 e1[k]));have hHR:=hd' hr;obtain⟨x,hx⟩: ∃x,x=e1[k]:=⟨_,rfl⟩;rw[<-hx]at f1 HW;simp only[<-hx]at HV2 Ty HIl Sl;generalize bW T1 x=xa at *;generalize aX T1 x=xs at *;generalize bq T1 x=xn at *;generalize aU T1 l1 on xs xn xa=q at *;obtain⟨T2,l2,n2,er⟩:=q;simp only at HV2 Ty HIl;rw[hse]at g2;clear hA hx hgd hr HV;go_wp2_with fail
   go_region_law (first
    |(go_simp;go_at_call 41;refine HW.o'.mono ?_
      rintro e w2 ⟨v,rfl,ho2,hb2⟩;obtain⟨a2,c2,rfl,_,_,hn2,lV⟩:=fJ ho2;have H2:=hd' (HLd.o'.world hb2);have K2:=hd' (az.bC (F:=Own w0 ex) hb2);have A2:=hd' lV;have N2:=hd' hn2
      clear ho2 lV hn2)
    |(go_simp;go_at_call 94;refine(Ty.o' _ H2.o' _ _ N2.o' A2.o').mono ?_
      rintro e w3 ⟨rfl,h3,k3⟩;have H3:=hd' h3;have K3:=hd' k3
      clear h3 k3))
   all_goals
    have K3':=hd' ((DU.o'.trans (az.bC (F:=Own w0 ex) (aQ wr.heap.size wr).drew)).trans (K2.o'.trans K3.o'));by_cases h0:er=0
    ·rw[au h0]at HV2;subst h0;obtain⟨gS,cS,s0,s1,s2,s3,s4,s5,s6,s7,s8⟩:=H3.o'.set k hlt1;rw[hse]at s2 s3;have HS8:=hd' (s8 n2);have HSE:Hid ((e1.set k n2).length=aF.length):=hd' (by rw[nR];exact hse);unfold maxLen at s4;clear s8;go_wp2_with fail
     go_roundw
     case rel=>exact⟨k+1,⟨T2,l2,e1.set k n2⟩,by omega,by omega,by go_num,hd' HS8.o'.1,hd' (K3'.o'.trans HS8.o'.2),hd' (by rw[HV2.o'];congr 1;have:=hHR.o';omega),HSE.o',by have:=HIl.o';show l2.length<=_;omega⟩
     case measure=>simp[intOf];omega
    ·rw[aj h0]at HV2;have he':(er !=0)=true:=by simpa using h0
     clear h0;go_wp2_with fail
     go_ret;rw[HV2.o'];exact⟨rfl,H3.o',K3'.o'⟩
  ·obtain rfl:k=aF.length:=by omega
   have HE:Hid (mP on ⟨T,l,aF⟩=(⟨T1,l1,e1⟩,0)):=hd' (by rw[HV.o',wX];rfl);rw[hse]at g2;clear hA;go_wp2_with fail
   go_ret;rw[HE.o'];exact⟨rfl,Bo.o',DU.o'⟩
end
end Go.Proofs.YtnlbcifhedjbfaaGreatDoor
end
section
namespace Go.Proofs.YtnlbcifhedjbfaaGreatDoor
open Go.RowKit Mem
theorem FZ (A B:List Int) (x:Int):aT (A++B) x=if 0<=aT B x then A.length+aT B x else aT A x:=by
 induction B generalizing A with
 |nil=>rw[kI,aj (by show ¬(0:Int)<=aT [] x;exact(by decide: ¬(0:Int)<= -1))]
 |cons y r ih =>
  rw[show A++y::r=(A++ [y])++r by simp,ih (A++ [y]),show y::r= [y]++r from rfl,ih [y],uB,show aT [y] x=if y=x then 0 else -1 from uB [] y x,fC,sS];by_cases h:0<=aT r x
  ·simp only[au h];rw[au (by omega)];push_cast;omega
  ·simp only[aj h];by_cases hy:y=x
   ·simp[hy]
   ·simp[hy]
theorem X9 (y:Int) (B:List Int) (x:Int):aT (y::B) x=if 0<=aT B x then 1+aT B x else if y=x then 0 else -1:=by
 rw[show y::B= [y]++B from rfl,FZ];split
 ·rfl
 ·rw[show [y]=([]:List Int)++ [y]from rfl,uB];split <;>rfl
theorem ae6 {e:List Int} {x:Int}: ¬x∈e↔aT e x<0:=by
 rw[<-I1];omega
theorem Nv {T:aB} {x:Int} (h:aY T x=true):1<=x/\x<T.ai.length:=by
 obtain⟨i,hi,rfl,h1,_⟩:=Dv h;omega
theorem kG (T:aB) (d:ND) (h:1<=T.ai.length):aY (bL T d) T.ai.length=d.elem:=by
 rw[xO (bL T d) T.ai.length h (by simp[bL])];simp[bL]
theorem ah2 {T:aB} {d:ND} (hd:d.elem=true) (h1:1<=T.ai.length) (h:(qz T d).2.2=0):(qz T d).2.1=T.ai.length/\aY (qz T d).1 T.ai.length=true:=by
 unfold qz at h |-;split
 ·exact⟨rfl,(kG T d h1).trans hd⟩
 ·rename_i hn;rw[aj hn]at h;cases h
theorem Dn {T:aB} {x:Int} (h:(dm T x).2.2=0):(dm T x).2.1=T.ai.length/\aY (dm T x).1 T.ai.length=true:=by
 unfold dm at h |-;split
 ·rename_i hx;rw[au hx]at h;have:=Nv hx;exact ah2 rfl (by omega) h
 ·rename_i hx;rw[aj hx]at h;cases h
theorem GZ {e:List Int} {j:Nat} {n y:Int} (hn:n≠y):(e.set j n).count y<=e.count y:=by
 by_cases hj:j<e.length
 ·rw[List.set_eq_take_append_cons_drop,au hj]
  conv=>rhs;rw[<-nQ j e,kR hj]
  rw[Et,Et,List.count_cons_of_ne hn];have:=List.count_le_count_cons (a:=y) (b:=e[j]) (l:=e.drop (j+1));omega
 ·rw[List.set_eq_of_length_le (by omega)];exact ay _
theorem ET {e:List Int} {j:Nat} {n x:Int} (h:x∈e.set j n):x∈e\/x=n:=by
 rcases Xd h with h|h
 ·exact .inl h
 ·exact .inr h
end Go.Proofs.YtnlbcifhedjbfaaGreatDoor
end
section
namespace Go.Proofs.YtnlbcifhedjbfaaGreatDoor
open Go.RowKit Mem
structure FI (T:aB) (l aF:List Int):Prop where
 lel: ∀x∈l,aY T x=true
 lnd: ∀x,l.count x<=1
 eel: ∀x∈aF,x= -1\/aY T x=true
 one: ∀x,x≠ -1->aF.count x<=1
theorem Cq (e:List Int) (k:Nat) (n x:Int):(qd e k n).count x=e.count x+if n=x then 1 else 0:=by
 unfold qd
 conv=>rhs;rw[<-nQ k e]
 rw[Et,Et,Ls];by_cases h:n=x
 ·subst h;simp;omega
 ·have:(n==x)=false:=by simpa using h
  rw[this,aj h];simp
theorem D7 {e:List Int} {n:Int} (hn: ¬n∈e) (i:Nat):(e.set i n).count n<=1:=by
 by_cases hi:i<e.length
 ·rw[List.set_eq_take_append_cons_drop,au hi,Et,List.count_cons_self,Es.2 λh=>hn (Ej h),Es.2 λh=>hn (pQ h)];omega
 ·rw[List.set_eq_of_length_le (by omega),Es.2 hn];omega
theorem I4 {e:List Int} {k:Nat} {n x:Int} (h:x∈qd e k n):x∈e\/x=n:=by
 unfold qd at h;rcases fB.1 h with h|h
 ·exact .inl (Ej h)
 ·rcases dS.1 h with h|h
  ·exact .inr h
  ·exact .inl (pQ h)
section
variable {T U:aB} {l l' aF ent':List Int} {n:Int}
theorem FI.grow (h:FI T l aF) (hm:zW T U):FI U l aF:=⟨λx hx=>hm.2.2 x (h.lel x hx),h.lnd,λx hx=>(h.eel x hx).imp id (hm.2.2 x),h.one⟩
theorem FI.sub (h:FI T l aF) (hl:l'.Sublist l) (he:ent'.Sublist aF):FI T l' ent' :=
 ⟨λx hx=>h.lel x (hl.subset hx),λx=>bY (hl.count_le x) (h.lnd x),λx hx=>h.eel x (he.subset hx),λx hx=>bY (he.count_le x) (h.one x hx)⟩
theorem FI.mark (h:FI T l aF):FI T l (aF++ [-1]):=by
 refine⟨h.lel,h.lnd,λx hx=> ?_,λx hx=> ?_⟩
 ·rcases fB.1 hx with hx|hx
  ·exact h.eel x hx
  ·exact .inl (dG.1 hx)
 ·rw[Et,List.count_singleton,aj (by simpa using λe=>hx e.symm)];exact h.one x hx
theorem FI.fresh (h:FI T l aF) (hn:n=T.ai.length): ¬n∈l/\ ¬n∈aF:=by
 refine⟨λhx=> ?_,λhx=> ?_⟩
 ·have:=Nv (h.lel n hx);omega
 ·rcases h.eel n hx with h1|h1
  ·omega
  ·have:=Nv h1;omega
theorem J9 {e:List Int} (hn: ¬n∈e):e.count n=0:=Es.2 hn
theorem FI.ins (h:FI T l aF) (hn:n=T.ai.length) (hm:zW T U) (hel:aY U n=true) (k:Nat):FI U (qd l k n) aF:=by
 obtain⟨h1,_⟩:=h.fresh hn;refine⟨λx hx=> ?_,λx=> ?_,(h.grow hm).eel,h.one⟩
 ·rcases I4 hx with hx|hx
  ·exact hm.2.2 x (h.lel x hx)
  ·rw[hx];exact hel
 ·rw[Cq];by_cases e:n=x
  ·subst e;rw[J9 h1,au rfl];omega
  ·rw[aj e];exact h.lnd x
theorem FI.put (h:FI T l aF) (hn:n=T.ai.length) (hm:zW T U) (hel:aY U n=true) (i:Nat):FI U (l.set i n) aF:=by
 obtain⟨h1,_⟩:=h.fresh hn;refine⟨λx hx=> ?_,λx=> ?_,(h.grow hm).eel,h.one⟩
 ·rcases ET hx with hx|hx
  ·exact hm.2.2 x (h.lel x hx)
  ·rw[hx];exact hel
 ·by_cases e:n=x
  ·subst e;exact D7 h1 i
  ·exact bY (GZ e) (h.lnd x)
theorem FI.akW (h:FI T l aF) (hn:aY T n=true) (hne: ¬n∈aF) (k:Nat):FI T l (qd aF k n):=by
 refine⟨h.lel,h.lnd,λx hx=> ?_,λx hx=> ?_⟩
 ·rcases I4 hx with hx|hx
  ·exact h.eel x hx
  ·rw[hx];exact .inr hn
 ·rw[Cq];by_cases e:n=x
  ·subst e;rw[J9 hne,au rfl];omega
  ·rw[aj e];exact h.one x hx
theorem FI.ano (h:FI T l aF) (hn:aY T n=true) (hne: ¬n∈aF) (i:Nat):FI T l (aF.set i n):=by
 refine⟨h.lel,h.lnd,λx hx=> ?_,λx hx=> ?_⟩
 ·rcases ET hx with hx|hx
  ·exact h.eel x hx
  ·rw[hx];exact .inr hn
 ·by_cases e:n=x
  ·subst e;exact D7 hne i
  ·exact bY (GZ e) (h.one x hx)
theorem Bb (e:List Int) (n:Int):e++ [n]=qd e e.length n:=by
 unfold qd;rw[iH (ay _),iZ (ay _)]
theorem nG (e:List Int) (i:Int):(iX e i).Sublist e:=by
 unfold iX;split
 ·exact List.eraseIdx_sublist _ _
 ·exact nV _
theorem nY (e:List Int) (n:Int):(vg e n).Sublist e:=nG e _
theorem FI.anp (h:FI T l aF) (hn:aY T n=true) (hne: ¬n∈aF):FI T l (Bj T aF n):=by
 unfold Bj;rw[Bb];split
 ·exact(h.sub (nV _) (nG _ _)).akW hn (λhx=>hne ((nG _ _).subset hx)) _
 ·exact h.akW hn hne _
theorem NF (e:List Int):(SA e).Sublist e:=List.take_sublist _ _
theorem yl {on:Bool} {sp:Int} {nm:ae} {at':List dD} (h1:1<=T.ai.length) (hm:(T.ai.length:Int)-1<T.gy):aY (aU T l on sp nm at').1 T.ai.length=true:=by
 have e:qz T (fQ sp nm at')=(bL T (fQ sp nm at'),(T.ai.length:Int),0):=by rw[qz,au hm]
 unfold aU;rw[e];exact(zz _ _ _ _).2.2 _ (kG T _ h1)
theorem FI.insert (h:FI T l aF) (h1:1<=T.ai.length) (on:Bool) (sp:Int) (nm:ae) (at':List dD):FI (aU T l on sp nm at').1 (aU T l on sp nm at').2.1 aF:=by
 by_cases hm:(T.ai.length:Int)-1<T.gy
 ·obtain⟨q1,q2,q3⟩:=nM hm l on sp nm at';rw[q1,Bb];exact h.ins rfl (ym T l on sp nm at') (yl h1 hm) _
 ·rw[mK hm];exact h
theorem ad' (l:List Int) (o n:Int):oO l o n=l\/ ∃i,oO l o n=l.set i n:=by
 unfold oO;split
 ·exact .inr ⟨_,rfl⟩
 ·exact .inl rfl
theorem aih (l:List Int) (b n:Int):Co l b n=l\/ ∃i,Co l b n=qd l i n:=by
 unfold Co;split
 ·exact .inr ⟨_,rfl⟩
 ·exact .inl rfl
end
theorem FK (b:Int): ∀(r:List Int) (c:Nat) (S:TS),FI S.T S.l S.aF->FI (eB b r c S).1.T (eB b r c S).1.l (eB b r c S).1.aF/\zW S.T (eB b r c S).1.T
 | [],_,S,h=>⟨h,zW.refl _⟩
 |x::r,c,S,h=>by
  rw[eB];split
  ·split
   ·exact FK b r (c+1) _ (h.sub (nY _ _) (nG _ _))
   ·split
    ·rename_i h0 _ he;obtain⟨hn,hel⟩:=Dn he;rw[<-hn]at hel;have hm:=wQ S.T x;have hp:=zz (dm S.T x).1 (dm S.T x).2.1 0 S.last;have hfr:=h.fresh hn
     have h1:FI (fe (dm S.T x).1 (dm S.T x).2.1 0 S.last).1 (oO S.l x (dm S.T x).2.1) S.aF:=by
      rcases ad' S.l x (dm S.T x).2.1 with e|⟨i,e⟩
      ·rw[e];exact h.grow (hm.trans hp)
      ·rw[e];exact h.put hn (hm.trans hp) (hp.2.2 _ hel) i
     have h2:=FK b r (c+1) ⟨(fe (dm S.T x).1 (dm S.T x).2.1 0 S.last).1,oO S.l x (dm S.T x).2.1,S.aF.set (aT S.aF x).toNat (dm S.T x).2.1,if S.last=b then aT S.aF x+1 else S.keep,(dm S.T x).2.1⟩ (h1.ano (hp.2.2 _ hel) hfr.2 _);exact⟨h2.1,(hm.trans hp).trans h2.2⟩
    ·exact⟨h.grow (wQ _ _),wQ _ _⟩
  ·exact FK b r (c+1) _ (h.sub (nY _ _) (nV _))
theorem ac3 {T:aB} {l aF:List Int} (h:FI T l aF) (f b keep:Int):FI (jE T l aF f b keep).1 (jE T l aF f b keep).2.1 (jE T l aF f b keep).2.2.1/\zW T (jE T l aF f b keep).1:=by
 unfold jE;split
 ·rename_i he;obtain⟨hn,hel⟩:=Dn he;rw[<-hn]at hel;have hm:=wQ T f;have hp:=(acs (dm T f).1 b (dm T f).2.1).trans (zz (kD (dm T f).1 b (dm T f).2.1).1 b 0 (dm T f).2.1);have hfr:=h.fresh hn;refine⟨?_,hm.trans hp⟩;refine FI.akW ?_ (hp.2.2 _ hel) (λhx=>hfr.2 ((nG _ _).subset hx)) _;have h1:FI T (vg l f) (iX aF (aT aF f)):=h.sub (nY _ _) (nG _ _);show FI _ (Co (vg l f) b (dm T f).2.1) _;rcases aih (vg l f) b (dm T f).2.1 with e|⟨i,e⟩
  ·rw[e];exact h1.grow (hm.trans hp)
  ·rw[e];exact h1.ins hn (hm.trans hp) (hp.2.2 _ hel) i
 ·exact⟨h.grow (wQ _ _),wQ _ _⟩
theorem adY {T:aB} {l aF:List Int} (h:FI T l aF) (on:Bool) (f b:Int):FI (gN T l aF on f b).1 (gN T l aF on f b).2.1 (gN T l aF on f b).2.2.1/\zW T (gN T l aF on f b).1:=by
 obtain⟨h1,h2⟩:=FK b (df l f b).reverse 1 ⟨T,l,aF,aT aF f,b⟩ h;unfold gN;simp only;split
 ·have hp:=zz (eB b (df l f b).reverse 1 ⟨T,l,aF,aT aF f,b⟩).1.T (if nX l f≠0 then aZ (eB b (df l f b).reverse 1 ⟨T,l,aF,aT aF f,b⟩).1.T (eB b (df l f b).reverse 1 ⟨T,l,aF,aT aF f,b⟩).1.l on (nX l f)else(0,0)).1 (if nX l f≠0 then aZ (eB b (df l f b).reverse 1 ⟨T,l,aF,aT aF f,b⟩).1.T (eB b (df l f b).reverse 1 ⟨T,l,aF,aT aF f,b⟩).1.l on (nX l f)else(0,0)).2 (eB b (df l f b).reverse 1 ⟨T,l,aF,aT aF f,b⟩).1.last;obtain⟨h3,h4⟩:=ac3 (h1.grow hp) f b (eB b (df l f b).reverse 1 ⟨T,l,aF,aT aF f,b⟩).1.keep;exact⟨h3,(h2.trans hp).trans h4⟩
 ·exact⟨h1,h2⟩
theorem Qq (on:Bool) (ah:ae): ∀(r t:Nat) (S:AS),FI S.T S.l S.aF->FI (jF on ah r t S).1.T (jF on ah r t S).1.l (jF on ah r t S).1.aF/\zW S.T (jF on ah r t S).1.T
 |0,_,S,h=>⟨h,zW.refl _⟩
 |r+1,t,S,h=>by
  rw[jF];split
  ·exact⟨h,zW.refl _⟩
  ·split
   ·exact⟨h.sub (nV _) (nY _ _),zW.refl _⟩
   ·split
    ·exact⟨h,zW.refl _⟩
    ·split
     ·exact⟨h.sub (List.take_sublist _ _) (nY _ _),zW.refl _⟩
     ·obtain⟨h1,h2⟩:=adY h on (findF S.T S.aF ah) (ik S.T S.l (findF S.T S.aF ah));split
      ·obtain⟨h3,h4⟩:=Qq on ah r (t+1) ⟨_,_,_⟩ h1;exact⟨h3,h2.trans h4⟩
      ·exact⟨h1,h2⟩
theorem adq {S:AS} (h:FI S.T S.l S.aF) (on:Bool) (ah:ae):FI (gW on ah S).1.T (gW on ah S).1.l (gW on ah S).1.aF/\zW S.T (gW on ah S).1.T:=by
 unfold gW;split
 ·exact⟨h.sub (List.dropLast_sublist _) (nV _),zW.refl _⟩
 ·exact Qq on ah 8 0 S h
theorem Uy (on:Bool): ∀(r i:Nat) (S:AS),FI S.T S.l S.aF->1<=S.T.ai.length->FI (qU on r i S).1.T (qU on r i S).1.l (qU on r i S).1.aF/\zW S.T (qU on r i S).1.T
 |0,_,S,h,_=>⟨h,zW.refl _⟩
 |r+1,i,S,h,h1=>by
  rw[qU];have hi:=h.insert h1 on (aX S.T (S.aF.getD i 0)) (bq S.T (S.aF.getD i 0)) (bW S.T (S.aF.getD i 0));have hm:=ym S.T S.l on (aX S.T (S.aF.getD i 0)) (bq S.T (S.aF.getD i 0)) (bW S.T (S.aF.getD i 0));split
  ·rename_i he;by_cases hmm:(S.T.ai.length:Int)-1<S.T.gy
   ·obtain⟨q1,q2,q3⟩:=nM hmm S.l on (aX S.T (S.aF.getD i 0)) (bq S.T (S.aF.getD i 0)) (bW S.T (S.aF.getD i 0));have hnew:=yl (l:=S.l) (on:=on) (sp:=aX S.T (S.aF.getD i 0)) (nm:=bq S.T (S.aF.getD i 0)) (at':=bW S.T (S.aF.getD i 0)) h1 hmm;have hn:(aU S.T S.l on (aX S.T (S.aF.getD i 0)) (bq S.T (S.aF.getD i 0)) (bW S.T (S.aF.getD i 0))).2.2.1=S.T.ai.length:=aW Prod.fst q2;rw[<-hn]at hnew;have h3:=Uy on r (i+1) ⟨(aU S.T S.l on (aX S.T (S.aF.getD i 0)) (bq S.T (S.aF.getD i 0)) (bW S.T (S.aF.getD i 0))).1,(aU S.T S.l on (aX S.T (S.aF.getD i 0)) (bq S.T (S.aF.getD i 0)) (bW S.T (S.aF.getD i 0))).2.1,S.aF.set i (aU S.T S.l on (aX S.T (S.aF.getD i 0)) (bq S.T (S.aF.getD i 0)) (bW S.T (S.aF.getD i 0))).2.2.1⟩ (hi.ano hnew (h.fresh hn).2 i) (bY h1 hm.1);exact⟨h3.1,hm.trans h3.2⟩
   ·rw[mK hmm]at he;cases he
  ·exact⟨hi,hm⟩
theorem aeo {S:AS} (h:FI S.T S.l S.aF) (h1:1<=S.T.ai.length) (on:Bool):FI (mP on S).1.T (mP on S).1.l (mP on S).1.aF/\zW S.T (mP on S).1.T:=Uy on _ _ S h h1
end Go.Proofs.YtnlbcifhedjbfaaGreatDoor
end
section
namespace Go.Proofs.YtnlbcifhedjbfaaGreatDoor
open Go.RowKit Mem
theorem rR {m:Int} {T:aB} (h:Lm m T) (l:List Int) (on:Bool) (sp:Int) (nm:ae) (at':List dD):Lm m (aU T l on sp nm at').1:=by
 unfold aU;simp only;split
 ·exact F6 _ _ _ (YF _ h)
 ·exact YF _ h
theorem FH {m:Int} (b:Int): ∀(r:List Int) (c:Nat) (S:TS),Lm m S.T->Lm m (eB b r c S).1.T
 | [],_,_,h=>h
 |x::r,c,S,h=>by
  rw[eB];split
  ·split
   ·exact FH b r (c+1) _ h
   ·split
    ·exact FH b r (c+1) ⟨_,_,_,_,_⟩ (F6 _ _ _ (Gy _ h))
    ·exact Gy _ h
  ·exact FH b r (c+1) _ h
theorem ac2 {m:Int} {T:aB} (h:Lm m T) (l aF:List Int) (f b keep:Int):Lm m (jE T l aF f b keep).1:=by
 unfold jE;split
 ·exact F6 _ _ _ (ae3 _ _ (Gy _ h))
 ·exact Gy _ h
theorem Uc {m:Int} {T:aB} (h:Lm m T) (l aF:List Int) (on:Bool) (f b:Int):Lm m (gN T l aF on f b).1:=by
 have h1:=FH (m:=m) b (df l f b).reverse 1 ⟨T,l,aF,aT aF f,b⟩ h;unfold gN;simp only;split
 ·exact ac2 (F6 _ _ _ h1) _ _ _ _ _
 ·exact h1
theorem Qp {m:Int} (on:Bool) (ah:ae): ∀(r t:Nat) (S:AS),Lm m S.T->Lm m (jF on ah r t S).1.T
 |0,_,_,h=>h
 |r+1,t,S,h=>by
  rw[jF];split
  ·exact h
  ·split
   ·exact h
   ·split
    ·exact h
    ·split
     ·exact h
     ·split
      ·exact Qp on ah r (t+1) ⟨_,_,_⟩ (Uc h _ _ _ _ _)
      ·exact Uc h _ _ _ _ _
theorem Qt {m:Int} {S:AS} (h:Lm m S.T) (on:Bool) (ah:ae):Lm m (gW on ah S).1.T:=by
 unfold gW;split
 ·exact h
 ·exact Qp on ah 8 0 S h
theorem Ux {m:Int} (on:Bool): ∀(r i:Nat) (S:AS),Lm m S.T->Lm m (qU on r i S).1.T
 |0,_,_,h=>h
 |r+1,i,S,h=>by
  rw[qU];split
  ·exact Ux on r (i+1) ⟨_,_,_⟩ (rR h _ _ _ _ _)
  ·exact rR h _ _ _ _ _
theorem UB {m:Int} {S:AS} (h:Lm m S.T) (on:Bool):Lm m (mP on S).1.T:=Ux on _ _ S h
end Go.Proofs.YtnlbcifhedjbfaaGreatDoor
end
section
namespace Go.Proofs.YtnlbcifhedjbfaaGreatDoor
open Go.RowKit Mem
def lh (T:aB) (names:List ae):List Int->List Int
 | []=> []
 |x::r=>if aI T x names then x::r else lh T names r
theorem Rk (T:aB) (names:List ae) (l:List Int) (k:Nat) (h:k<l.length):lh T names (l.take (k+1)).reverse=if aI T l[k] names then(l.take (k+1)).reverse else lh T names (l.take k).reverse:=by
 rw[jL h,pO];rfl
section
variable {w0 w w':af} {B tb rb sb:Nat} {ex:Nat->Prop} {T:aB} {l:List Int}
theorem ag9 (h:SI w0 B tb sb ex T l w) (names:List ae) (a:Option Addr) (c:Nat) (ha:rX (Own w0 ex) w a (jo names)) (hn:names.length<=1048576) :
 Calls prog 111 #[.pointer (some ⟨sb,0,none⟩),.slice a names.length c] w λe w'=>e= .returned (.tuple #[])/\SI w0 B tb sb ex T (lh T names l.reverse).reverse w'/\az (Own w0 ex) w w':=by
 have HS:=hd' h;have HA:=hd' ha;have hsh:=h.short;clear h ha;go_enter func111,ntmps111
 go_wp2_with fail
 go_loopg [] l.length (λk wr=>Hid (k<=l.length/\SI w0 B tb sb ex T (l.take k) wr/\az (Own w0 ex) w wr/\lh T names l.reverse=lh T names (l.take k).reverse))
 case atStart=>exact hd' ⟨ay _,by rw[iH (ay _)];exact HS.o',az.refl _ _,by rw[iH (ay _)]⟩
 case round =>
  have hk:=hrel.o'.1;obtain⟨sa,sc,c0,c1,_⟩:=hrel.o'.2.1.cells;rw[fV,rE hk]at c1;have HR:=hrel;clear hrel;cases gk with
  |zero =>
   go_wp2_with fail
   go_end0
   refine⟨rfl,?_,HR.o'.2.2.1⟩;rw[HR.o'.2.2.2];exact HR.o'.2.1
  |succ k =>
   have hlt:k<l.length:=by omega
   have HT:=hd' (CX hlt);have HU:=hd' (Rk T names l k hlt);have HTp:=hd' (Tj HR.o'.2.1);rw[HT.o'.1]at HTp;obtain⟨x,hx⟩: ∃x,x=l[k]:=⟨_,rfl⟩;have HX:=hd' hx;rw[<-hx]at HTp HU;clear hx;cases hnm:aI T x names
   all_goals
    rw[hnm]at HU
    go_wp2_with (first
     |(go_at_call 42;refine HTp.o'.mono ?_;rintro e w1 ⟨rfl,q,rfl⟩;have H1:=hd' (HR.o'.2.1.world (fM wr q));have K1:=hd' (HR.o'.2.2.1.trans (az.bC (fM wr q)));have HN:=hd' (Cg H1.o' x names a c (HA.o'.kept K1.o').at hn);rw[hnm]at HN)
     |(go_at_call 168;refine HN.o'.mono ?_;rintro e w2 ⟨rfl,hb2⟩;have H2:=hd' (H1.o'.world hb2);have K2:=hd' (K1.o'.trans (az.bC hb2));have HP:=hd' (Tm H2.o');rw[HT.o'.1,HT.o'.2]at HP;clear hb2)
     |(go_at_call 56;refine HP.o'.mono ?_;rintro e w3 ⟨rfl,h3,k3⟩;have H3:=hd' h3;have K3:=hd' (K2.o'.trans k3);clear h3 k3))
    first
     |(go_roundg k
       case measure=>omega
       case rel=>exact hd' ⟨by omega,H3.o',K3.o',by rw[HR.o'.2.2.2,HU.o'];rfl⟩)
     |(go_end0
       refine⟨rfl,?_,K2.o'⟩;rw[HR.o'.2.2.2,HU.o',au trivial,vM]
       exact H2.o')
end
def DL:List ae:= [⟨#[100,100]⟩,⟨#[100,116]⟩,⟨#[108,105]⟩,⟨#[111,112,116,103,114,111,117,112]⟩,⟨#[111,112,116,105,111,110]⟩,⟨#[112]⟩,⟨#[114,98]⟩,⟨#[114,112]⟩,⟨#[114,116]⟩,⟨#[114,116,99]⟩]
def jG (T:aB) (but:ae):List Int->List Int
 | []=> []
 |x::r=>if aI T x DL&& !aI T x [but]then jG T but r else x::r
theorem Rj (T:aB) (but:ae) (l:List Int) (k:Nat) (h:k<l.length):jG T but (l.take (k+1)).reverse=if aI T l[k] DL&& !aI T l[k] [but]then jG T but (l.take k).reverse else(l.take (k+1)).reverse:=by
 rw[jL h,pO];rfl
section
variable {w0 w w':af} {B tb rb sb:Nat} {ex:Nat->Prop} {T:aB} {l:List Int}
theorem agO (h:SI w0 B tb sb ex T l w) (but:ae) :
 Calls prog 117 #[.pointer (some ⟨sb,0,none⟩),.string but] w λe w'=>e= .returned (.tuple #[])/\SI w0 B tb sb ex T (jG T but l.reverse).reverse w'/\az (Own w0 ex) w w':=by
 have hA:At (w.alloc (.cells #[.string ⟨#[100,100]⟩,.string ⟨#[100,116]⟩,.string ⟨#[108,105]⟩,.string ⟨#[111,112,116,103,114,111,117,112]⟩,.string ⟨#[111,112,116,105,111,110]⟩,.string ⟨#[112]⟩,.string ⟨#[114,98]⟩,.string ⟨#[114,112]⟩,.string ⟨#[114,116]⟩,.string ⟨#[114,116,99]⟩] 9)) (some ⟨w.heap.size,0,none⟩) (jo DL):=jy rfl rfl;have HS:=hd' (h.lay (.cells #[.string ⟨#[100,100]⟩,.string ⟨#[100,116]⟩,.string ⟨#[108,105]⟩,.string ⟨#[111,112,116,103,114,111,117,112]⟩,.string ⟨#[111,112,116,105,111,110]⟩,.string ⟨#[112]⟩,.string ⟨#[114,98]⟩,.string ⟨#[114,112]⟩,.string ⟨#[114,116]⟩,.string ⟨#[114,116,99]⟩] 9));have HK0:Hid (az (Own w0 ex) w (w.alloc (.cells #[.string ⟨#[100,100]⟩,.string ⟨#[100,116]⟩,.string ⟨#[108,105]⟩,.string ⟨#[111,112,116,103,114,111,117,112]⟩,.string ⟨#[111,112,116,105,111,110]⟩,.string ⟨#[112]⟩,.string ⟨#[114,98]⟩,.string ⟨#[114,112]⟩,.string ⟨#[114,116]⟩,.string ⟨#[114,116,99]⟩] 9))):=hd' ((az.refl _ _).alloc _);have HA:Hid (rX (Own w0 λk=>ex k\/k=w.heap.size) (w.alloc (.cells #[.string ⟨#[100,100]⟩,.string ⟨#[100,116]⟩,.string ⟨#[108,105]⟩,.string ⟨#[111,112,116,103,114,111,117,112]⟩,.string ⟨#[111,112,116,105,111,110]⟩,.string ⟨#[112]⟩,.string ⟨#[114,98]⟩,.string ⟨#[114,112]⟩,.string ⟨#[114,116]⟩,.string ⟨#[114,116,99]⟩] 9)) (some ⟨w.heap.size,0,none⟩) (jo DL)):=hd' (rX.yS hA (λb o s he=>by cases he;exact λhx=>hx.2 (.inr rfl)));have hsh:=h.short;clear h hA;go_enter func117,ntmps117
 go_wp2_with fail
 generalize w.alloc (.cells #[.string ⟨#[100,100]⟩,.string ⟨#[100,116]⟩,.string ⟨#[108,105]⟩,.string ⟨#[111,112,116,103,114,111,117,112]⟩,.string ⟨#[111,112,116,105,111,110]⟩,.string ⟨#[112]⟩,.string ⟨#[114,98]⟩,.string ⟨#[114,112]⟩,.string ⟨#[114,116]⟩,.string ⟨#[114,116,99]⟩] 9)=wa at *;have TJ:=hd' (az.refl (Own w0 λk=>ex k\/k=w.heap.size) wa);go_loopg [] l.length (λk wr=>Hid (k<=l.length/\SI w0 B tb sb (λk=>ex k\/k=w.heap.size) T (l.take k) wr/\az (Own w0 λk=>ex k\/k=w.heap.size) wa wr/\jG T but l.reverse=jG T but (l.take k).reverse))
 case atStart=>exact hd' ⟨ay _,by rw[iH (ay _)];exact HS.o',TJ.o',by rw[iH (ay _)]⟩
 case round =>
  have hk:=hrel.o'.1;obtain⟨sa,sc,c0,c1,_⟩:=hrel.o'.2.1.cells;rw[fV,rE hk]at c1;have HR:=hrel;clear hrel;cases gk with
  |zero =>
   go_wp2_with fail
   go_end0
   refine⟨rfl,?_,HK0.o'.trans (HR.o'.2.2.1.mono λ_ _ hx=>⟨hx.1,λhl=>hx.2 (.inl hl)⟩)⟩;rw[HR.o'.2.2.2];exact HR.o'.2.1.less λ_ hx=> .inl hx
  |succ k =>
   have hlt:k<l.length:=by omega
   have HT:=hd' (CX hlt);have HU:=hd' (Rj T but l k hlt);have HTp:=hd' (Tj HR.o'.2.1);rw[HT.o'.1]at HTp;obtain⟨x,hx⟩: ∃x,x=l[k]:=⟨_,rfl⟩;rw[<-hx]at HTp HU;have HX:=hd' hx;clear hx;cases hnm:aI T x DL
   ·rw[hnm]at HU
    go_wp2_with (first
     |(go_at_call 42;refine HTp.o'.mono ?_;rintro e w1 ⟨rfl,q,rfl⟩;have H1:=hd' (HR.o'.2.1.world (fM wr q));have K1:=hd' (HR.o'.2.2.1.trans (az.bC (fM wr q)));have HN:=hd' (Cg H1.o' x DL (some ⟨w.heap.size,0,none⟩) 10 (HA.o'.kept K1.o').at (by decide));rw[hnm]at HN)
     |(go_at_call 168;refine HN.o'.mono ?_;rintro e w2 ⟨rfl,hb2⟩;have H2:=hd' (H1.o'.world hb2);have K2:=hd' (K1.o'.trans (az.bC hb2));clear hb2))
    go_end0
    refine⟨rfl,?_,HK0.o'.trans (K2.o'.mono λ_ _ hx=>⟨hx.1,λhl=>hx.2 (.inl hl)⟩)⟩;rw[HR.o'.2.2.2,HU.o',Ew,aj (by simp),vM];exact H2.o'.less λ_ hx=> .inl hx
   ·rw[hnm]at HU;cases hnb:aI T x [but]
    all_goals
     rw[hnb]at HU;go_wp2_with fail
     refine HTp.o'.mono ?_;rintro e w1 ⟨rfl,q,rfl⟩;have H1:=hd' (HR.o'.2.1.world (fM wr q));have K1:=hd' (HR.o'.2.2.1.trans (az.bC (fM wr q)));have HN:=hd' (Cg H1.o' x DL (some ⟨w.heap.size,0,none⟩) 10 (HA.o'.kept K1.o').at (by decide));rw[hnm]at HN;go_wp2_with fail
     refine HN.o'.mono ?_;rintro e w2 ⟨rfl,hb2⟩;have H2:=hd' (H1.o'.world hb2);have K2:=hd' (K1.o'.trans (az.bC hb2));have HTq:=hd' (Tj H2.o');rw[HT.o'.1,<-HX.o']at HTq;clear hb2 HN H1 K1;go_wp2_with fail
     refine HTq.o'.mono ?_;rintro e w3 ⟨rfl,q2,rfl⟩;have hb3:=(fM w2 q2).trans (((aQ (w2.drewN q2).heap.size (w2.drewN q2)).alloc (ay _) (.cells #[.string but] 9)).mono (fM w2 q2).size);have H3:=hd' (H2.o'.world hb3);have K3:=hd' (K2.o'.trans (az.bC hb3));have HNb:=hd' (Cg H3.o' x [but] (some ⟨(w2.drewN q2).heap.size,0,none⟩) 1 (jy rfl rfl) (by simp));rw[hnb]at HNb;clear hb3 HTq H2 K2;generalize w2.drewN q2=w3 at *;go_wp2_with fail
     refine HNb.o'.mono ?_;rintro e w4 ⟨rfl,hb4⟩;have H4:=hd' (H3.o'.world hb4);have K4:=hd' (K3.o'.trans (az.bC hb4));have HP:=hd' (Tm H4.o');rw[HT.o'.1,HT.o'.2]at HP;clear hb4 H3 K3 HNb;go_wp2_with (go_at_call 56;refine HP.o'.mono ?_;rintro e w5 ⟨rfl,h5,k5⟩;have H5:=hd' h5;have K5:=hd' (K4.o'.trans k5);clear h5 k5)
    ·go_roundg k
     case measure=>omega
     case rel=>exact hd' ⟨by omega,H5.o',K5.o',by rw[HR.o'.2.2.2,HU.o'];rfl⟩
    ·go_end0
     refine⟨rfl,?_,HK0.o'.trans (K4.o'.mono λ_ _ hx=>⟨hx.1,λhl=>hx.2 (.inl hl)⟩)⟩;rw[HR.o'.2.2.2,HU.o',aj (by simp),vM];exact H4.o'.less λ_ hx=> .inl hx
end
end Go.Proofs.YtnlbcifhedjbfaaGreatDoor
end
section
namespace Go.Proofs.YtnlbcifhedjbfaaGreatDoor
open Go.RowKit Mem
def vw (b:ax):ax:=if 65<=b/\b<=90 then b+32 else b
def kK (l:bH):bH:=l.map vw
def ny (k:Nat) (l:bH):bH:=(l.take k).map vw++l.drop k
theorem Gv (b:ax):((vw b).toNat:Int)=if 65<=(b.toNat:Int)/\(b.toNat:Int)<=90 then(b.toNat:Int)+32 else b.toNat:=by
 have h1:(65<=b)↔65<=(b.toNat:Int):=by rw[Hq];simp;omega
 have h2:(b<=90)↔(b.toNat:Int)<=90:=by rw[Hq];simp;omega
 unfold vw;by_cases h:65<=(b.toNat:Int)/\(b.toNat:Int)<=90
 ·rw[au h,au ⟨h1.2 h.1,h2.2 h.2⟩,UInt8.toNat_add];simp;omega
 ·rw[aj h,aj (λhh=>h ⟨h1.1 hh.1,h2.1 hh.2⟩)]
theorem qc (k:Nat) (l:bH):(ny k l).length=l.length:=by simp[ny];omega
theorem Dk (l:bH):ny 0 l=l:=by simp[ny]
theorem Gs (l:bH):ny l.length l=kK l:=by simp[ny,kK]
theorem Ck (k:Nat) (l:bH) (h:k<l.length):(ny k l)[k]?=some l[k]:=by
 simp only[ny];rw[Ab (by simp;omega)];simp[rE (lZ h),h]
theorem IZ (k:Nat) (l:bH) (h:k<l.length):(ny k l).set k (vw l[k])=ny (k+1) l:=by
 simp only[ny];rw[Ei _ _ (by simp;omega),kR h];simp only[Ir,fV,rE (lZ h),wX,dF];rw[jL h,Lf];simp
theorem lK (k:Nat) (l:bH) (h:k<l.length) (v:ak) (hv:v= .int .u8 (vw l[k]).toNat):(bZ (ny k l)).set k v=bZ (ny (k+1) l):=by
 subst hv;unfold bZ;rw[<-IZ k l h,List.map_set]
theorem kv (k:Nat) (l:bH) (h:k<l.length) (hv:((vw l[k]).toNat:Int)=l[k].toNat):bZ (ny k l)=bZ (ny (k+1) l):=by
 rw[<-lK k l h (.int .u8 l[k].toNat) (by rw[hv])];have hg:(bZ (ny k l))[k]?=some (.int .u8 l[k].toNat):=by simp[bZ,Ck k l h]
 obtain⟨hk,he⟩:=En.1 hg;rw[<-he,List.set_getElem_self]
theorem tY (k:Nat) (l:bH) (h:k<l.length):(bZ (ny k l))[k]?=some (.int .u8 l[k].toNat):=by
 simp[bZ,Ck k l h]
end Go.Proofs.YtnlbcifhedjbfaaGreatDoor
end
section
namespace Go.Proofs.YtnlbcifhedjbfaaGreatDoor
open Go.RowKit Mem
theorem rZ (s:ae) (w:af) (hs:s.size<=maxLen) :
 Calls prog 92 #[.string s] w λe w'=>e= .returned (.string ⟨(kK s.toList).toArray⟩)/\Below w.heap.size w w':=by
 obtain⟨c,W,Nh,hb,hsz,hrow,hcc⟩:=wG (P:=prog) w 9 73 5 s jK yC qC;have hsl:=aR s;unfold maxLen at hs;have HB:=hd' hb;have HR:=hd' hrow;have HZ:=hd' hsz;have HL:=hd' hsl;clear hb hrow hsz hsl;go_enter func92,ntmps92
 go_wp2
 go_loopw [10] (λi wr=> ∃k:Nat,k<=s.size/\i= .int .i64 k/\Below w.heap.size w wr/\w.heap.size<wr.heap.size/\Row wr w.heap.size (bZ (ny k s.toList))) (λi _=>s.size-(intOf i).toNat)
 case atStart=>exact⟨0,bD _,rfl,HB.o',by rw[HZ.o'];omega,by rw[Dk];exact HR.o'⟩
 case round =>
  obtain⟨k,hk,rfl,hb,hz,hr⟩:=hrel;clear Nh HB HR HZ;by_cases hlt:k<s.size
  ·have hkl:k<s.toList.length:=by rw[HL.o'];exact hlt
   obtain⟨x,hx⟩: ∃x:Nat,x=s.toList[k].toNat:=⟨_,rfl⟩;have hx255:x<=255:=by have:=s.toList[k].toNat_lt;omega
   have hcell:wr.cell? ⟨w.heap.size,k,none⟩=some (.int .u8 x):=by rw[hx];exact hr.cell (tY k _ hkl)
   have hfz:wr.frozen? ⟨w.heap.size,k,none⟩=false:=hr.frozen (by rw[dP,qc];exact hkl);have hl:=Gv s.toList[k];rw[<-hx]at hl;have HX:=hd' hl;have Hl:=hd' hx;have HB:=hd' hb;have HR:=hd' hr;clear hl hx hb hr;go_wp2
   ·go_roundw
    case rel =>
     exact⟨k+1,by omega,by go_num,HB.o'.setCell (ay _) _,by rw[pK];exact hz,by
      rw[<-lK k _ hkl (.int .u8 (x+32)) (by rw[HX.o',au ⟨by assumption,by assumption⟩])]
      exact HR.o'.set k _⟩
    case measure=>simp[intOf];omega
   ·go_roundw
    case rel=>exact⟨k+1,by omega,by go_num,HB.o',hz,by rw[<-kv k _ hkl (by rw[HX.o',aj (by omega),Hl.o'])];exact HR.o'⟩
    case measure=>simp[intOf];omega
   ·go_roundw
    case rel=>exact⟨k+1,by omega,by go_num,HB.o',hz,by rw[<-kv k _ hkl (by rw[HX.o',aj (by omega),Hl.o'])];exact HR.o'⟩
    case measure=>simp[intOf];omega
  ·obtain rfl:k=s.size:=by omega
   have hback:=uQ (P:=prog) wr 73 9 5 w.heap.size c (ny s.size s.toList) s.size (by rw[qc,HL.o']) yC qC jK hr;have HB:=hd' hb;clear hb hr;go_wp2
   go_ret;refine⟨mI ?_,HB.o'⟩;rw[<-HL.o',Gs]
end Go.Proofs.YtnlbcifhedjbfaaGreatDoor
end
section
namespace Go.Proofs.YtnlbcifhedjbfaaGreatDoor
open Go.RowKit Mem
def valueOf (l:List dD) (ah:ae):ae :=
 match l with
 | []=>⟨#[]⟩
 |p::r=>if p.1=ah then p.2 else valueOf r ah
theorem Q6 (l:List dD) (ah:ae) (k:Nat) (h:k<l.length) (hne:l[k].1≠ah):valueOf (l.drop k) ah=valueOf (l.drop (k+1)) ah:=by
 rw[kR h,valueOf,aj hne]
theorem TN (l:List dD) (ah:ae) (k:Nat) (h:k<l.length) (he:l[k].1=ah):valueOf (l.drop k) ah=l[k].2:=by
 rw[kR h,valueOf,au he]
theorem wN (l:List dD) (ah:ae) (a:Option Addr) (c:Nat) (w:af) (hl:l.length<=maxLen) (ha:At w a (bz l)) :
 Calls prog 93 #[.slice a l.length c,.string ah] w λe w'=>e= .returned (.string (valueOf l ah))/\Below w.heap.size w w':=by
 unfold maxLen at hl;have HA:=hd' ha;clear ha;go_enter func93,ntmps93
 go_wp2
 go_loopw [9] (λi wr=> ∃k:Nat,k<=l.length/\i= .int .i64 k/\Below w.heap.size w wr/\valueOf l ah=valueOf (l.drop k) ah) (λi _=>l.length-(intOf i).toNat)
 case atStart=>exact⟨0,bD _,rfl,aQ _ _,rfl⟩
 case round =>
  obtain⟨k,hk,rfl,hb,hv⟩:=hrel;have HV:=hd' hv;have HB:=hd' hb;by_cases hlt:k<l.length
  ·obtain⟨b,o,rfl,hlb,h1,h2⟩:=pair_cells (HA.o'.below hb) hlt;clear hv hb;go_wp2
   ·go_ret;refine⟨mI ?_,HB.o'.alloc HB.o'.size _⟩;rw[HV.o',TN l ah k hlt (ak4 ‹_›)]
   ·go_roundw
    case rel =>
     exact⟨k+1,by omega,by go_num,HB.o'.alloc HB.o'.size _,by
      rw[HV.o',Q6 l ah k hlt (aqf ‹_›)]⟩
    case measure=>simp[intOf];omega
  ·clear hb hv;go_wp2
   go_ret;refine⟨mI ?_,HB.o'⟩;rw[HV.o',iZ (by omega)];rfl
def tQ (l:List ae) (word:ae):Bool :=
 match l with
 | []=>false
 |x::r=>if x=word then true else tQ r word
def large (l:List ae) (ah:ae):ae :=
 match l with
 | []=>ah
 |x::r=>if kK x.toList=ah.toList then x else large r ah
theorem YM (l:List ae) (ah:ae) (k:Nat) (h:k<l.length) (hne:kK l[k].toList≠ah.toList):large (l.drop k) ah=large (l.drop (k+1)) ah:=by
 rw[kR h,large,aj hne]
theorem acD (l:List ae) (ah:ae) (k:Nat) (h:k<l.length) (he:kK l[k].toList=ah.toList):large (l.drop k) ah=l[k]:=by
 rw[kR h,large,au he]
theorem xY (ah:ae) (l:List ae) (a:Option Addr) (c:Nat) (w:af) (hl:l.length<=maxLen) (hs: ∀i (h:i<l.length),l[i].size<=maxLen) (ha:At w a (jo l)) :
 Calls prog 148 #[.string ah,.slice a l.length c] w λe w'=>e= .returned (.string (large l ah))/\Below w.heap.size w w':=by
 unfold maxLen at hl;have HA:=hd' ha;have HS:=hd' hs;clear ha hs;go_enter func148,ntmps148
 go_wp2
 go_loopw [9] (λi wr=> ∃k:Nat,k<=l.length/\i= .int .i64 k/\Below w.heap.size w wr/\large l ah=large (l.drop k) ah) (λi _=>l.length-(intOf i).toNat)
 case atStart=>exact⟨0,bD _,rfl,aQ _ _,rfl⟩
 case round =>
  obtain⟨k,hk,rfl,hb,hv⟩:=hrel;have HV:=hd' hv;have HB:=hd' hb;by_cases hlt:k<l.length
  ·obtain⟨b,o,rfl,hlb,h1⟩:=LU (HA.o'.below hb) hlt;clear hv hb;have hsz:=HS.o' k hlt;go_wp2_with (go_at_call 92;refine(rZ _ _ hsz).mono ?_;rintro e w1 ⟨rfl,hb1⟩;have HB1:=hd' hb1;clear hb1 h1)
   ·go_ret;refine⟨mI ?_,aK HB.o' HB1.o'⟩;rw[HV.o',acD l ah k hlt (aqe ‹_›)]
   ·go_roundw
    case rel =>
     exact⟨k+1,by omega,by go_num,aK HB.o' HB1.o',by
      rw[HV.o',YM l ah k hlt (anr ‹_›)]⟩
    case measure=>simp[intOf];omega
  ·clear hb hv;go_wp2
   go_ret;refine⟨mI ?_,HB.o'⟩;rw[HV.o',iZ (by omega)];rfl
end Go.Proofs.YtnlbcifhedjbfaaGreatDoor
end
section
namespace Go.Proofs.YtnlbcifhedjbfaaGreatDoor
open Go.RowKit Mem
def LQ:List ae:= [⟨#[97,108,116,71,108,121,112,104]⟩,⟨#[97,110,105,109,97,116,101,77,111,116,105,111,110]⟩,⟨#[97,110,105,109,97,116,101,84,114,97,110,115,102,111,114,109]⟩,⟨#[99,108,105,112,80,97,116,104]⟩,⟨#[102,101,71,97,117,115,115,105,97,110,66,108,117,114]⟩,⟨#[102,111,114,101,105,103,110,79,98,106,101,99,116]⟩,⟨#[103,108,121,112,104,82,101,102]⟩,⟨#[108,105,110,101,97,114,71,114,97,100,105,101,110,116]⟩,⟨#[114,97,100,105,97,108,71,114,97,100,105,101,110,116]⟩,⟨#[116,101,120,116,80,97,116,104]⟩]
def Dc:List ae:= [⟨#[102,111,114,101,105,103,110,79,98,106,101,99,116]⟩,⟨#[100,101,115,99]⟩,⟨#[116,105,116,108,101]⟩]
def CW:List ae:= [⟨#[109,105]⟩,⟨#[109,111]⟩,⟨#[109,110]⟩,⟨#[109,115]⟩,⟨#[109,116,101,120,116]⟩]
def GQ:List ae:= [⟨#[116,101,120,116,47,104,116,109,108]⟩,⟨#[97,112,112,108,105,99,97,116,105,111,110,47,120,104,116,109,108,43,120,109,108]⟩]
def oq (aN:Int) (ah:ae):ae:=if aN=1 then large LQ ah else ah
theorem ae0 (aN:Int) (ah:ae) (w:af) :
 Calls prog 95 #[.int .i64 aN,.string ah] w λe w'=>e= .returned (.string (oq aN ah))/\Below w.heap.size w w':=by
 by_cases h:aN=1
 ·subst h;go_enter func95,ntmps95
  go_wp2_with (go_at_call 148;refine(xY ah LQ _ _ _ (by decide) (by decide) (Row.alloc _ _ _).at).mono ?_;rintro e w1 ⟨rfl,hb1⟩;have HB1:=hd' hb1;clear hb1)
  go_ret;exact⟨mI rfl,aK ((aQ _ _).alloc (ay _) _) HB1.o'⟩
 ·have h':(aN==1)=false:=by simpa using h
  go_enter func95,ntmps95
  go_wp2
  go_ret;exact⟨mI (by rw[oq,aj h]),aQ _ _⟩
def gT (aN:Int) (ah:ae) (aA:List dD):Int :=
 if aN=1 then(if tQ Dc ah then 2 else 0)
 else if aN=2 then(if tQ CW ah then 1 else if ah=(⟨#[97,110,110,111,116,97,116,105,111,110,45,120,109,108]⟩:ae)then(if tQ GQ ⟨(kK (valueOf aA (⟨#[101,110,99,111,100,105,110,103]⟩:ae)).toList).toArray⟩then 2 else 0)else 0)
 else 0
theorem oF (l:bH) (b:ae):(b=(⟨l.toArray⟩:ae))↔(b.toList=l) :=
 ⟨λh=>by subst h;simp,λh=>toList_inj (by simpa using h)⟩
theorem zJ {names:List ae} {x:ae} (h:tQ names x=true):x∈names:=by
 induction names with
 |nil=>simp[tQ]at h
 |cons y r ih =>
  rw[tQ]at h;split at h
  ·rename_i e;subst e;exact dR
  ·exact gm _ (ih h)
theorem cZ {names:List ae} {L:bH} (h:tQ names ⟨L.toArray⟩=false) (l:bH) (hm:tQ names ⟨l.toArray⟩=true):(L==l)=false:=by
 rw[aV];intro e;subst e;rw[hm]at h;cases h
theorem GD (names:List ae) (x:ae):tQ names x=tQ names ⟨x.toList.toArray⟩:=by rw[uE]
theorem Ps (aN:Int) (ah:ae) (aA:List dD) (a:Option Addr) (c:Nat) (w:af) (hl:aA.length<=maxLen) (hs:(valueOf aA (⟨#[101,110,99,111,100,105,110,103]⟩:ae)).size<=maxLen) (ha:At w a (bz aA)) :
 Calls prog 54 #[.int .i64 aN,.string ah,.slice a aA.length c] w λe w'=>e= .returned (.int .i64 (gT aN ah aA))/\Below w.heap.size w w':=by
 have HA:=hd' ha;clear ha;by_cases h1:aN=1
 ·subst h1;clear hl hs;by_cases hin:tQ Dc ah=true
  ·have HP:Hid (gT 1 ah aA=2):=by show gT 1 ah aA=2;simp[gT,hin]
   have h:=zJ hin;clear hin;simp only[Dc,dS,mY,nO,oF]at h;rcases h with h|h|h
   all_goals
    go_enter Ed,Eb
    go_wp2_with fail
    go_ret;exact⟨iN HP.o'.symm,aQ _ _⟩
  ·have hin':tQ Dc ah=false:=by simpa using hin
   have HP:Hid (gT 1 ah aA=0):=by show gT 1 ah aA=0;simp[gT,hin']
   rw[GD]at hin';have no0:(ah.toList== [102,111,114,101,105,103,110,79,98,106,101,99,116])=false:=cZ hin' [102,111,114,101,105,103,110,79,98,106,101,99,116] (by decide);have no1:(ah.toList== [100,101,115,99])=false:=cZ hin' [100,101,115,99] (by decide);have no2:(ah.toList== [116,105,116,108,101])=false:=cZ hin' [116,105,116,108,101] (by decide);clear hin hin';go_enter Ed,Eb
   go_wp2_with fail
   go_ret;exact⟨iN HP.o'.symm,aQ _ _⟩
 ·by_cases h2:aN=2
  ·subst h2;clear h1;by_cases hin:tQ CW ah=true
   ·have HP:Hid (gT 2 ah aA=1):=by show gT 2 ah aA=1;simp[gT,hin]
    have h:=zJ hin;clear hin hl hs;simp only[CW,dS,mY,nO,oF]at h;rcases h with h|h|h|h|h
    all_goals
     go_enter Ed,Eb
     go_wp2_with fail
     go_ret;exact⟨iN HP.o'.symm,aQ _ _⟩
   ·have hin':tQ CW ah=false:=by simpa using hin
    have HI:=hd' hin';rw[GD]at hin';have no0:(ah.toList== [109,105])=false:=cZ hin' [109,105] (by decide);have no1:(ah.toList== [109,111])=false:=cZ hin' [109,111] (by decide);have no2:(ah.toList== [109,110])=false:=cZ hin' [109,110] (by decide);have no3:(ah.toList== [109,115])=false:=cZ hin' [109,115] (by decide);have no4:(ah.toList== [109,116,101,120,116])=false:=cZ hin' [109,116,101,120,116] (by decide);clear hin hin';by_cases han:ah=(⟨#[97,110,110,111,116,97,116,105,111,110,45,120,109,108]⟩:ae)
    ·have apW:ah.toList=([97,110,110,111,116,97,116,105,111,110,45,120,109,108]:List ax):=(oF _ _).1 han;have HN:=hd' han;clear han;by_cases hen:tQ GQ ⟨(kK (valueOf aA (⟨#[101,110,99,111,100,105,110,103]⟩:ae)).toList).toArray⟩=true
     ·have HP:Hid (gT 2 ah aA=2):=by show gT 2 ah aA=2;rw[gT,aj (by decide),au rfl,HI.o',aj (by decide),au HN.o',hen];rfl
      have h:=zJ hen;clear hen;simp only[GQ,dS,mY,nO,oF,ByteArray.toList_mk]at h;rcases h with h|h
      all_goals
       go_enter Ed,Eb
       go_wp2_with (first|(go_at_call 93;refine(wN aA _ _ _ _ hl HA.o').mono ?_;rintro e w1 ⟨rfl,hb1⟩;have HB1:=hd' hb1;clear hb1)|(go_at_call 92;refine(rZ _ _ hs).mono ?_;rintro e w2 ⟨rfl,hb2⟩;have HB2:=hd' hb2;clear hb2))
       go_ret;exact⟨iN HP.o'.symm,aK HB1.o' HB2.o'⟩
     ·have hen':tQ GQ ⟨(kK (valueOf aA (⟨#[101,110,99,111,100,105,110,103]⟩:ae)).toList).toArray⟩=false:=by simpa using hen
      have HP:Hid (gT 2 ah aA=0):=by show gT 2 ah aA=0;rw[gT,aj (by decide),au rfl,HI.o',aj (by decide),au HN.o',hen'];rfl
      have HE:=hd' hen';clear hen hen';have ne0:(kK (valueOf aA ⟨#[101,110,99,111,100,105,110,103]⟩).toList== [116,101,120,116,47,104,116,109,108])=false:=cZ HE.o' [116,101,120,116,47,104,116,109,108] (by decide);have ne1:(kK (valueOf aA ⟨#[101,110,99,111,100,105,110,103]⟩).toList== [97,112,112,108,105,99,97,116,105,111,110,47,120,104,116,109,108,43,120,109,108])=false:=cZ HE.o' [97,112,112,108,105,99,97,116,105,111,110,47,120,104,116,109,108,43,120,109,108] (by decide);go_enter Ed,Eb
      go_wp2_with (first|(go_at_call 93;refine(wN aA _ _ _ _ hl HA.o').mono ?_;rintro e w1 ⟨rfl,hb1⟩;have HB1:=hd' hb1;clear hb1)|(go_at_call 92;refine(rZ _ _ hs).mono ?_;rintro e w2 ⟨rfl,hb2⟩;have HB2:=hd' hb2;clear hb2))
      go_ret;exact⟨iN HP.o'.symm,aK HB1.o' HB2.o'⟩
    ·have apW:(ah.toList==([97,110,110,111,116,97,116,105,111,110,45,120,109,108]:List ax))=false:=by rw[aV];exact λe=>han ((oF _ _).2 e)
     have HP:Hid (gT 2 ah aA=0):=by show gT 2 ah aA=0;rw[gT,aj (by decide),au rfl,HI.o',aj (by decide),aj han]
     clear han hl hs;go_enter Ed,Eb
     go_wp2_with fail
     go_ret;exact⟨iN HP.o'.symm,aQ _ _⟩
  ·have h1':(aN==1)=false:=by simpa using h1
   have h2':(aN==2)=false:=by simpa using h2
   go_enter Ed,Eb
   go_wp2_with fail
   go_ret;exact⟨iN (by rw[gT,aj h1,aj h2]),aQ _ _⟩
end Go.Proofs.YtnlbcifhedjbfaaGreatDoor
end
section
namespace Go.Proofs.YtnlbcifhedjbfaaGreatDoor
open Go.RowKit Mem
def qO:List ae:= [⟨#[97,116,116,114,105,98,117,116,101,78,97,109,101]⟩,⟨#[103,114,97,100,105,101,110,116,84,114,97,110,115,102,111,114,109]⟩,⟨#[103,114,97,100,105,101,110,116,85,110,105,116,115]⟩,⟨#[112,97,116,104,76,101,110,103,116,104]⟩,⟨#[112,97,116,116,101,114,110,85,110,105,116,115]⟩,⟨#[112,114,101,115,101,114,118,101,65,115,112,101,99,116,82,97,116,105,111]⟩,⟨#[114,101,102,88]⟩,⟨#[114,101,102,89]⟩,⟨#[115,116,100,68,101,118,105,97,116,105,111,110]⟩,⟨#[116,101,120,116,76,101,110,103,116,104]⟩,⟨#[118,105,101,119,66,111,120]⟩]
def oD:List ae:= [⟨#[100,101,102,105,110,105,116,105,111,110,85,82,76]⟩]
def ZW (aN:Int):List ae:=if aN=1 then qO else if aN=2 then oD else []
def JA (words:List ae) (p:dD):dD:=(large words p.1,p.2)
def jb (aN:Int) (l:List dD):List dD:=l.map (JA (ZW aN))
theorem wS:(prog.info? 128).map (λi=>(i.zero,i.size,i.bytes))=some (some (.agg #[.string ⟨#[]⟩,.string ⟨#[]⟩]),2,32):=by kernel_rfl
theorem Jo {X:Array ak} {e:TypeId} {j:Nat} {v:ak} (w:af) (h:X[j]?=some v):(w.alloc (.cells X e)).drew.cell? ⟨w.heap.size,j,none⟩=some v:=by
 rw[World.cell?_drew,um];exact h
theorem zS {w:af} {o:Obj} {b j:Nat} {v:ak} (hb:b<w.heap.size) (h:w.cell? ⟨b,j,none⟩=some v):(w.alloc o).drew.cell? ⟨b,j,none⟩=some v:=by
 rw[World.cell?_drew,World.cell?_alloc_past _ _ _ hb];exact h
theorem zM {w wx:af} {o:Obj} {b j:Nat} (hx:Below (w.alloc o).drew.heap.size (w.alloc o).drew wx) (hb:b<w.heap.size) (h:w.frozen? ⟨b,j,none⟩=false):wx.frozen? ⟨b,j,none⟩=false:=by
 rw[hx.frozen (p:=⟨b,j,none⟩) (by simp;omega),World.frozen?_drew,World.frozen?_alloc_past _ _ _ hb];exact h
def part (words:List ae) (l:List dD) (k:Nat):List dD:=(l.take k).map (JA words)++blanks (l.length-k)
theorem IU (words:List ae) (l:List dD):part words l 0=blanks l.length:=by simp[part]
theorem Mx (words:List ae) (l:List dD):part words l l.length=l.map (JA words):=by simp[part,blanks]
theorem Cb (words:List ae) (l:List dD) (k:Nat) (h:k<=l.length):(part words l k).length=l.length:=by simp[part,blanks];omega
theorem ab5 (words:List ae) (l:List dD) (k:Nat) (h:k<l.length):(part words l k).set k (JA words l[k])=part words l (k+1):=by
 simp only[part,blanks];rw[Ei _ _ (by simp;omega)];simp only[Ir,fV,rE (lZ h),wX];rw[show l.length-k=(l.length-(k+1))+1 from by omega,List.replicate_succ,dF,jL h,Lf];simp
theorem IV (words:List ae) (l:List dD) (k:Nat) (h:k<l.length):((bz (part words l k)).set (k*2) (.string (large words l[k].1))).set (k*2+1) (.string l[k].2)=bz (part words l (k+1)):=by
 have h2:=MC (part words l k) k (JA words l[k]);rw[ab5 words l k h]at h2;exact h2
theorem adj (l:List dD) (a:Option Addr) (c:Nat) (w:af) (hl:l.length<=2097152) (ha:At w a (bz l)) :
 Calls prog 96 #[.int .i64 1,.slice a l.length c] w λe w'=> ∃v,e= .returned v/\w'.ownsRow w.heap.size 128 2 v l.length (bz (jb 1 l))/\Below w.heap.size w w':=by
 obtain⟨i0,hi,hz0,hz1,hz2⟩:=lY wS;have HA:=hd' ha;clear ha;go_enter func96,ntmps96
 have hb2:i0.bytes*l.length<=281474976710656:=by rw[hz2];omega
 have hb3:l.length<=maxLen:=by unfold maxLen;omega
 go_wp2_with (at_make;refine Qy _ rfl _ _ 23 rfl w.heap.size 128 i0 _ 2 BF hi hz0 hz1 .i64 .i64 (l.length:Int) (l.length:Int) l.length rfl rfl rfl rfl hb2 hb3 (by simp) ?_;intro w1 hown hgr;have HO:=hd' hown;have HG:=hd' hgr;clear hown hgr hi hz0 hz1 hz2 hb2 hb3)
 go_loopw [21] (λi wr=> ∃k:Nat,k<=l.length/\i= .int .i64 k/\Below w.heap.size w wr/\Row wr w.heap.size (jo qO)/\wr.ownsRow w.heap.size 128 2 (.slice (some ⟨w.heap.size+1,0,none⟩) l.length l.length) l.length (bz (part (qO) l k))) (λi _=>l.length-(intOf i).toNat)
 case atStart =>
  refine⟨0,bD _,rfl,((aQ _ _).alloc (ay _) _).grown HG.o' (by simp) (λk h=>by cases h),(Row.alloc w _ _).kept (HG.o'.block _ (by simp) (by simp)),?_⟩;rw[IU,<-EW];have h:=HO.o';simp only[zY,Value.cells]at h;exact h
 case round =>
  obtain⟨k,hk,rfl,hb,hwd,ho⟩:=hrel;clear HO HG;have HB:=hd' hb;have HW:=hd' hwd;have HO:=hd' ho;by_cases hlt:k<l.length
  ·obtain⟨b,o,rfl,hlb,h1,h2⟩:=pair_cells (HA.o'.below hb) hlt;have hn:(part (qO) l k).length=l.length:=Cb _ l k hk;have hkp:k<(part (qO) l k).length:=by rw[hn];exact hlt
   have g1:wr.cell? ⟨w.heap.size+1,k*2,none⟩=some (.string (part (qO) l k)[k].1):=(jh ho).cell (lN _ k hkp);have g2:wr.cell? ⟨w.heap.size+1,k*2+1,none⟩=some (.string (part (qO) l k)[k].2):=(jh ho).cell (lM _ k hkp);have f1:wr.frozen? ⟨w.heap.size+1,k*2,none⟩=false:=ho.frozenAt _;have f2:wr.frozen? ⟨w.heap.size+1,k*2+1,none⟩=false:=ho.frozenAt _;have hg:=(jh ho).lt;have HN:=hd' hn;clear hb hwd ho hn;go_wp2_with fail
   go_region_with (go_at_call 148;refine(xY _ (qO) _ _ _ (by decide) (by decide) ?_).mono ?_;(exact(HW.o'.below (((aQ _ _).alloc (ay _) _).drew) HW.o'.lt).at);rintro e wx ⟨rfl,hbx⟩;have p0:=aM hbx (Jo (X:= #[.string l[k].1,.string l[k].2]) (e:=128) (j:=1) (v:= .string l[k].2) wr rfl);have p1:=aM hbx (zS (o:= .cells #[.string l[k].1,.string l[k].2] 128) hg g1);have p2:=aM hbx (zS (o:= .cells #[.string l[k].1,.string l[k].2] 128) hg g2);have p3:=zM (o:= .cells #[.string l[k].1,.string l[k].2] 128) hbx hg f1;have p4:=zM (o:= .cells #[.string l[k].1,.string l[k].2] 128) hbx hg f2;have hzx:wr.heap.size<wx.heap.size:=(by have hz0:=hbx.size;simp at hz0;omega);have HX:=hd' hbx;clear hbx)
   all_goals
    go_wp2
    go_roundw
    case rel =>
     have hB:=aK ((HB.o'.alloc HB.o'.size (.cells #[.string l[k].1,.string l[k].2] 128)).drew) HX.o';have hO:=own_below (own_below HO.o' (((aQ _ _).alloc (ay _) (.cells #[.string l[k].1,.string l[k].2] 128)).drew)) HX.o';have hR:=HW.o'.below (((aQ _ _).alloc (ay _) (.cells #[.string l[k].1,.string l[k].2] 128)).drew) HW.o'.lt;have hR':=hR.below HX.o' hR.lt;refine⟨k+1,by omega,by go_num,(hB.setCell (by simp) _).setCell (by simp) _,?_,?_⟩
     ·exact(hR'.kept (eG _ _ _ _ (by simp))).kept (eG _ _ _ _ (by simp))
     ·have hS:=((hO.stored (k*2) (.string (large qO l[k].1))).1.stored (k*2+1) (.string l[k].2)).1;rw[IV qO l k hlt]at hS;exact hS
    case measure=>simp[intOf];omega
  ·obtain rfl:k=l.length:=by omega
   clear hb hwd ho;go_wp2_with fail
   go_ret;exact⟨_,rfl,by have:=HO.o';rw[Mx]at this;exact this,HB.o'⟩
theorem Zu (l:List dD) (a:Option Addr) (c:Nat) (w:af) (hl:l.length<=2097152) (ha:At w a (bz l)) :
 Calls prog 96 #[.int .i64 2,.slice a l.length c] w λe w'=> ∃v,e= .returned v/\w'.ownsRow w.heap.size 128 2 v l.length (bz (jb 2 l))/\Below w.heap.size w w':=by
 obtain⟨i0,hi,hz0,hz1,hz2⟩:=lY wS;have HA:=hd' ha;clear ha;go_enter func96,ntmps96
 have hb2:i0.bytes*l.length<=281474976710656:=by rw[hz2];omega
 have hb3:l.length<=maxLen:=by unfold maxLen;omega
 go_wp2_with (at_make;refine Qy _ rfl _ _ 23 rfl w.heap.size 128 i0 _ 2 BF hi hz0 hz1 .i64 .i64 (l.length:Int) (l.length:Int) l.length rfl rfl rfl rfl hb2 hb3 (by simp) ?_;intro w1 hown hgr;have HO:=hd' hown;have HG:=hd' hgr;clear hown hgr hi hz0 hz1 hz2 hb2 hb3)
 go_loopw [21] (λi wr=> ∃k:Nat,k<=l.length/\i= .int .i64 k/\Below w.heap.size w wr/\Row wr w.heap.size (jo oD)/\wr.ownsRow w.heap.size 128 2 (.slice (some ⟨w.heap.size+1,0,none⟩) l.length l.length) l.length (bz (part (oD) l k))) (λi _=>l.length-(intOf i).toNat)
 case atStart =>
  refine⟨0,bD _,rfl,((aQ _ _).alloc (ay _) _).grown HG.o' (by simp) (λk h=>by cases h),(Row.alloc w _ _).kept (HG.o'.block _ (by simp) (by simp)),?_⟩;rw[IU,<-EW];have h:=HO.o';simp only[zY,Value.cells]at h;exact h
 case round =>
  obtain⟨k,hk,rfl,hb,hwd,ho⟩:=hrel;clear HO HG;have HB:=hd' hb;have HW:=hd' hwd;have HO:=hd' ho;by_cases hlt:k<l.length
  ·obtain⟨b,o,rfl,hlb,h1,h2⟩:=pair_cells (HA.o'.below hb) hlt;have hn:(part (oD) l k).length=l.length:=Cb _ l k hk;have hkp:k<(part (oD) l k).length:=by rw[hn];exact hlt
   have g1:wr.cell? ⟨w.heap.size+1,k*2,none⟩=some (.string (part (oD) l k)[k].1):=(jh ho).cell (lN _ k hkp);have g2:wr.cell? ⟨w.heap.size+1,k*2+1,none⟩=some (.string (part (oD) l k)[k].2):=(jh ho).cell (lM _ k hkp);have f1:wr.frozen? ⟨w.heap.size+1,k*2,none⟩=false:=ho.frozenAt _;have f2:wr.frozen? ⟨w.heap.size+1,k*2+1,none⟩=false:=ho.frozenAt _;have hg:=(jh ho).lt;have HN:=hd' hn;clear hb hwd ho hn;go_wp2_with fail
   go_region_with (go_at_call 148;refine(xY _ (oD) _ _ _ (by decide) (by decide) ?_).mono ?_;(exact(HW.o'.below (((aQ _ _).alloc (ay _) _).drew) HW.o'.lt).at);rintro e wx ⟨rfl,hbx⟩;have p0:=aM hbx (Jo (X:= #[.string l[k].1,.string l[k].2]) (e:=128) (j:=1) (v:= .string l[k].2) wr rfl);have p1:=aM hbx (zS (o:= .cells #[.string l[k].1,.string l[k].2] 128) hg g1);have p2:=aM hbx (zS (o:= .cells #[.string l[k].1,.string l[k].2] 128) hg g2);have p3:=zM (o:= .cells #[.string l[k].1,.string l[k].2] 128) hbx hg f1;have p4:=zM (o:= .cells #[.string l[k].1,.string l[k].2] 128) hbx hg f2;have hzx:wr.heap.size<wx.heap.size:=(by have hz0:=hbx.size;simp at hz0;omega);have HX:=hd' hbx;clear hbx)
   all_goals
    go_wp2
    go_roundw
    case rel =>
     have hB:=aK ((HB.o'.alloc HB.o'.size (.cells #[.string l[k].1,.string l[k].2] 128)).drew) HX.o';have hO:=own_below (own_below HO.o' (((aQ _ _).alloc (ay _) (.cells #[.string l[k].1,.string l[k].2] 128)).drew)) HX.o';have hR:=HW.o'.below (((aQ _ _).alloc (ay _) (.cells #[.string l[k].1,.string l[k].2] 128)).drew) HW.o'.lt;have hR':=hR.below HX.o' hR.lt;refine⟨k+1,by omega,by go_num,(hB.setCell (by simp) _).setCell (by simp) _,?_,?_⟩
     ·exact(hR'.kept (eG _ _ _ _ (by simp))).kept (eG _ _ _ _ (by simp))
     ·have hS:=((hO.stored (k*2) (.string (large oD l[k].1))).1.stored (k*2+1) (.string l[k].2)).1;rw[IV oD l k hlt]at hS;exact hS
    case measure=>simp[intOf];omega
  ·obtain rfl:k=l.length:=by omega
   clear hb hwd ho;go_wp2_with fail
   go_ret;exact⟨_,rfl,by have:=HO.o';rw[Mx]at this;exact this,HB.o'⟩
theorem WB (aN:Int) (h1:(aN==1)=false) (h2':(aN==2)=false) (l:List dD) (a:Option Addr) (c:Nat) (w:af) (hl:l.length<=2097152) (ha:At w a (bz l)) :
 Calls prog 96 #[.int .i64 aN,.slice a l.length c] w λe w'=> ∃v,e= .returned v/\w'.ownsRow w.heap.size 128 2 v l.length (bz (jb aN l))/\Below w.heap.size w w':=by
 have HE:Hid (jb aN l=l.map (JA [])):=by show _=_;rw[jb,ZW,aj (by simpa using h1),aj (by simpa using h2')]
 obtain⟨i0,hi,hz0,hz1,hz2⟩:=lY wS;have HA:=hd' ha;clear ha;go_enter func96,ntmps96
 have hb2:i0.bytes*l.length<=281474976710656:=by rw[hz2];omega
 have hb3:l.length<=maxLen:=by unfold maxLen;omega
 go_wp2_with (at_make;refine Qy _ rfl _ _ 23 rfl w.heap.size 128 i0 _ 2 BF hi hz0 hz1 .i64 .i64 (l.length:Int) (l.length:Int) l.length rfl rfl rfl rfl hb2 hb3 (by simp) ?_;intro w1 hown hgr;have HO:=hd' hown;have HG:=hd' hgr;clear hown hgr hi hz0 hz1 hz2 hb2 hb3)
 go_loopw [21] (λi wr=> ∃k:Nat,k<=l.length/\i= .int .i64 k/\Below w.heap.size w wr/\wr.ownsRow w.heap.size 128 2 (.slice (some ⟨w.heap.size,0,none⟩) l.length l.length) l.length (bz (part (([]:List ae)) l k))) (λi _=>l.length-(intOf i).toNat)
 case atStart =>
  refine⟨0,bD _,rfl,(aQ _ _).grown HG.o' (by simp) (λk h=>by cases h),?_⟩;rw[IU,<-EW];have h:=HO.o';simp only[Value.cells]at h;exact h
 case round =>
  obtain⟨k,hk,rfl,hb,ho⟩:=hrel;clear HO HG;have HB:=hd' hb;have HO:=hd' ho;by_cases hlt:k<l.length
  ·obtain⟨b,o,rfl,hlb,h1,h2⟩:=pair_cells (HA.o'.below hb) hlt;have hn:(part (([]:List ae)) l k).length=l.length:=Cb _ l k hk;have hkp:k<(part (([]:List ae)) l k).length:=by rw[hn];exact hlt
   have g1:wr.cell? ⟨w.heap.size,k*2,none⟩=some (.string (part (([]:List ae)) l k)[k].1):=(jh ho).cell (lN _ k hkp);have g2:wr.cell? ⟨w.heap.size,k*2+1,none⟩=some (.string (part (([]:List ae)) l k)[k].2):=(jh ho).cell (lM _ k hkp);have f1:wr.frozen? ⟨w.heap.size,k*2,none⟩=false:=ho.frozenAt _;have f2:wr.frozen? ⟨w.heap.size,k*2+1,none⟩=false:=ho.frozenAt _;have hg:=(jh ho).lt;have HN:=hd' hn;clear hb ho hn;go_wp2_with fail
   go_region_with (go_at_call 148;refine(xY _ (([]:List ae)) _ _ _ (by decide) (by decide) ?_).mono ?_;(exact At.nil _ _);rintro e wx ⟨rfl,hbx⟩;have p0:=aM hbx (Jo (X:= #[.string l[k].1,.string l[k].2]) (e:=128) (j:=1) (v:= .string l[k].2) wr rfl);have p1:=aM hbx (zS (o:= .cells #[.string l[k].1,.string l[k].2] 128) hg g1);have p2:=aM hbx (zS (o:= .cells #[.string l[k].1,.string l[k].2] 128) hg g2);have p3:=zM (o:= .cells #[.string l[k].1,.string l[k].2] 128) hbx hg f1;have p4:=zM (o:= .cells #[.string l[k].1,.string l[k].2] 128) hbx hg f2;have hzx:wr.heap.size<wx.heap.size:=(by have hz0:=hbx.size;simp at hz0;omega);have HX:=hd' hbx;clear hbx)
   all_goals
    go_wp2
    go_roundw
    case rel =>
     have hB:=aK ((HB.o'.alloc HB.o'.size (.cells #[.string l[k].1,.string l[k].2] 128)).drew) HX.o';have hO:=own_below (own_below HO.o' (((aQ _ _).alloc (ay _) (.cells #[.string l[k].1,.string l[k].2] 128)).drew)) HX.o';refine⟨k+1,by omega,by go_num,(hB.setCell (by simp) _).setCell (by simp) _,?_⟩
     ·have hS:=((hO.stored (k*2) (.string (large ([]:List ae) l[k].1))).1.stored (k*2+1) (.string l[k].2)).1;rw[IV ([]:List ae) l k hlt]at hS;exact hS
    case measure=>simp[intOf];omega
  ·obtain rfl:k=l.length:=by omega
   clear hb ho;go_wp2_with fail
   go_ret;exact⟨_,rfl,by have:=HO.o';rw[Mx,<-HE.o']at this;exact this,HB.o'⟩
theorem adl (aN:Int) (l:List dD) (a:Option Addr) (c:Nat) (w:af) (hl:l.length<=2097152) (ha:At w a (bz l)) :
 Calls prog 96 #[.int .i64 aN,.slice a l.length c] w λe w'=> ∃v,e= .returned v/\w'.ownsRow w.heap.size 128 2 v l.length (bz (jb aN l))/\Below w.heap.size w w':=by
 by_cases h1:aN=1
 ·subst h1;exact adj l a c w hl ha
 ·by_cases h2:aN=2
  ·subst h2;exact Zu l a c w hl ha
  ·exact WB aN (by simpa using h1) (by simpa using h2) l a c w hl ha
end Go.Proofs.YtnlbcifhedjbfaaGreatDoor
end
section
namespace Go.Proofs.YtnlbcifhedjbfaaGreatDoor
open Go.RowKit Mem
theorem Fy (aA:List dD) (n:ae) (hs: ∀p∈aA,p.2.size<=maxLen):(valueOf aA n).size<=maxLen:=by
 induction aA with
 |nil=>rw[valueOf];decide
 |cons p r ih =>
  rw[valueOf];split
  ·exact hs p dR
  ·exact ih λq hq=>hs q (gm _ hq)
end Go.Proofs.YtnlbcifhedjbfaaGreatDoor
end
section
namespace Go.Proofs.YtnlbcifhedjbfaaGreatDoor
open Go.RowKit Mem
def zT:List ae:= [⟨#[98]⟩,⟨#[98,105,103]⟩,⟨#[98,108,111,99,107,113,117,111,116,101]⟩,⟨#[98,111,100,121]⟩,⟨#[98,114]⟩,⟨#[99,101,110,116,101,114]⟩,⟨#[99,111,100,101]⟩,⟨#[100,100]⟩,⟨#[100,105,118]⟩,⟨#[100,108]⟩,⟨#[100,116]⟩,⟨#[101,109]⟩,⟨#[101,109,98,101,100]⟩,⟨#[104,49]⟩,⟨#[104,50]⟩,⟨#[104,51]⟩,⟨#[104,52]⟩,⟨#[104,53]⟩,⟨#[104,54]⟩,⟨#[104,101,97,100]⟩,⟨#[104,114]⟩,⟨#[105]⟩,⟨#[105,109,103]⟩,⟨#[108,105]⟩,⟨#[108,105,115,116,105,110,103]⟩,⟨#[109,101,110,117]⟩,⟨#[109,101,116,97]⟩,⟨#[110,111,98,114]⟩,⟨#[111,108]⟩,⟨#[112]⟩,⟨#[112,114,101]⟩,⟨#[114,117,98,121]⟩,⟨#[115]⟩,⟨#[115,109,97,108,108]⟩,⟨#[115,112,97,110]⟩,⟨#[115,116,114,111,110,103]⟩,⟨#[115,116,114,105,107,101]⟩,⟨#[115,117,98]⟩,⟨#[115,117,112]⟩,⟨#[116,97,98,108,101]⟩,⟨#[116,116]⟩,⟨#[117]⟩,⟨#[117,108]⟩,⟨#[118,97,114]⟩]
def GL:List ae:= [⟨#[98,114]⟩,⟨#[112]⟩]
def zy:List ae:= [⟨#[99,111,108,111,114]⟩,⟨#[102,97,99,101]⟩,⟨#[115,105,122,101]⟩]
def wM (l:List dD):Bool:=l.any λp=>tQ zy p.1
def kL (aH:Int) (ah:ae) (aA:List dD):Bool :=
 if aH=3 then tQ GL ah else if aH=2 then(if tQ zT ah then true else if ah=(⟨#[102,111,110,116]⟩:ae)then wM aA else false)else false
abbrev nC (aH:Int) (ah:ae) (a:Option Addr) (n c:Nat) (self:Bool) (aL:ae):ak :=
 .agg #[.int .i64 aH,.string ah,.slice a n c,.bool self,.string aL]
theorem Td (l:List dD) (k:Nat) (h:k<l.length) (hne:tQ zy l[k].1=false):wM (l.drop k)=wM (l.drop (k+1)):=by
 rw[wM,kR h,Eu,hne,Ev];rfl
theorem WI (l:List dD) (k:Nat) (h:k<l.length) (he:tQ zy l[k].1=true):wM (l.drop k)=true:=by
 rw[wM,kR h,Eu,he,Bool.true_or]
section
variable (ah:ae) (aA:List dD) (a:Option Addr) (c:Nat) (self:Bool) (aL:ae) (w:af)
theorem Zm :
 Calls prog 55 #[nC 3 ah a aA.length c self aL] w λe w'=>e= .returned (.bool (kL 3 ah aA))/\Below w.heap.size w w':=by
 have HP:Hid (kL 3 ah aA=tQ GL ah):=by show _=_;simp[kL]
 cases hin:tQ GL ah
 ·have HI:=hd' hin;rw[GD]at hin;have no0:(ah.toList== [98,114])=false:=cZ hin [98,114] (by decide);have no1:(ah.toList== [112])=false:=cZ hin [112] (by decide);clear hin;go_enter Ig,Hz
  go_wp2_with fail
  go_ret;exact⟨bJ (by rw[HP.o',HI.o']),(aQ _ _).alloc (ay _) _⟩
 ·have HI:=hd' hin;have h:=zJ hin;clear hin;simp only[GL,dS,mY,nO,oF]at h;rcases h with h|h
  all_goals
   go_enter Ig,Hz
   go_wp2_with fail
   go_ret;exact⟨bJ (by rw[HP.o',HI.o']),(aQ _ _).alloc (ay _) _⟩
theorem Wq (aH:Int) (h3:(aH==3)=false) (h2:(aH==2)=false) :
 Calls prog 55 #[nC aH ah a aA.length c self aL] w λe w'=>e= .returned (.bool (kL aH ah aA))/\Below w.heap.size w w':=by
 have HP:Hid (kL aH ah aA=false):=by show _=_;rw[kL,aj (by simpa using h3),aj (by simpa using h2)]
 have h2':(aH !=2)=true:=by simpa using h2
 go_enter Ig,Hz
 go_wp2_with fail
 go_ret;exact⟨bJ HP.o'.symm,(aQ _ _).alloc (ay _) _⟩
theorem ac9 (wC:tQ zT ah=false) (hf:(ah.toList==([102,111,110,116]:List ax))=false) :
 Calls prog 55 #[nC 2 ah a aA.length c self aL] w λe w'=>e= .returned (.bool (kL 2 ah aA))/\Below w.heap.size w w':=by
 have HP:Hid (kL 2 ah aA=false):=by
  show _=_;rw[kL,aj (by decide),au rfl,wC,aj (by decide),aj];intro e;rw[oF]at e;rw[e]at hf;simp at hf
 rw[GD]at wC;have no0:(ah.toList== [98])=false:=cZ wC [98] (by decide);have no1:(ah.toList== [98,105,103])=false:=cZ wC [98,105,103] (by decide);have no2:(ah.toList== [98,108,111,99,107,113,117,111,116,101])=false:=cZ wC [98,108,111,99,107,113,117,111,116,101] (by decide);have no3:(ah.toList== [98,111,100,121])=false:=cZ wC [98,111,100,121] (by decide);have no4:(ah.toList== [98,114])=false:=cZ wC [98,114] (by decide);have no5:(ah.toList== [99,101,110,116,101,114])=false:=cZ wC [99,101,110,116,101,114] (by decide);have no6:(ah.toList== [99,111,100,101])=false:=cZ wC [99,111,100,101] (by decide);have no7:(ah.toList== [100,100])=false:=cZ wC [100,100] (by decide);have no8:(ah.toList== [100,105,118])=false:=cZ wC [100,105,118] (by decide);have no9:(ah.toList== [100,108])=false:=cZ wC [100,108] (by decide);have auy:(ah.toList== [100,116])=false:=cZ wC [100,116] (by decide);have auw:(ah.toList== [101,109])=false:=cZ wC [101,109] (by decide);have auv:(ah.toList== [101,109,98,101,100])=false:=cZ wC [101,109,98,101,100] (by decide);have auu:(ah.toList== [104,49])=false:=cZ wC [104,49] (by decide);have aut:(ah.toList== [104,50])=false:=cZ wC [104,50] (by decide);have aus:(ah.toList== [104,51])=false:=cZ wC [104,51] (by decide);have aur:(ah.toList== [104,52])=false:=cZ wC [104,52] (by decide);have auq:(ah.toList== [104,53])=false:=cZ wC [104,53] (by decide);have aup:(ah.toList== [104,54])=false:=cZ wC [104,54] (by decide);have auo:(ah.toList== [104,101,97,100])=false:=cZ wC [104,101,97,100] (by decide);have aun:(ah.toList== [104,114])=false:=cZ wC [104,114] (by decide);have aum:(ah.toList== [105])=false:=cZ wC [105] (by decide);have aul:(ah.toList== [105,109,103])=false:=cZ wC [105,109,103] (by decide);have auk:(ah.toList== [108,105])=false:=cZ wC [108,105] (by decide);have auj:(ah.toList== [108,105,115,116,105,110,103])=false:=cZ wC [108,105,115,116,105,110,103] (by decide);have aui:(ah.toList== [109,101,110,117])=false:=cZ wC [109,101,110,117] (by decide);have auh:(ah.toList== [109,101,116,97])=false:=cZ wC [109,101,116,97] (by decide);have aug:(ah.toList== [110,111,98,114])=false:=cZ wC [110,111,98,114] (by decide);have auf:(ah.toList== [111,108])=false:=cZ wC [111,108] (by decide);have aue:(ah.toList== [112])=false:=cZ wC [112] (by decide);have auc:(ah.toList== [112,114,101])=false:=cZ wC [112,114,101] (by decide);have aub:(ah.toList== [114,117,98,121])=false:=cZ wC [114,117,98,121] (by decide);have aua:(ah.toList== [115])=false:=cZ wC [115] (by decide);have at7:(ah.toList== [115,109,97,108,108])=false:=cZ wC [115,109,97,108,108] (by decide);have at6:(ah.toList== [115,112,97,110])=false:=cZ wC [115,112,97,110] (by decide);have at5:(ah.toList== [115,116,114,111,110,103])=false:=cZ wC [115,116,114,111,110,103] (by decide);have atZ:(ah.toList== [115,116,114,105,107,101])=false:=cZ wC [115,116,114,105,107,101] (by decide);have atY:(ah.toList== [115,117,98])=false:=cZ wC [115,117,98] (by decide);have atX:(ah.toList== [115,117,112])=false:=cZ wC [115,117,112] (by decide);have atW:(ah.toList== [116,97,98,108,101])=false:=cZ wC [116,97,98,108,101] (by decide);have atU:(ah.toList== [116,116])=false:=cZ wC [116,116] (by decide);have atT:(ah.toList== [117])=false:=cZ wC [117] (by decide);have atS:(ah.toList== [117,108])=false:=cZ wC [117,108] (by decide);have atQ:(ah.toList== [118,97,114])=false:=cZ wC [118,97,114] (by decide);clear wC;go_enter Ig,Hz
 go_wp2_with fail
 go_ret;exact⟨bJ HP.o'.symm,(aQ _ _).alloc (ay _) _⟩
theorem Wt (wC:tQ zT ah=false) (hf:ah.toList=([102,111,110,116]:List ax)) (hl:aA.length<=maxLen) (ha:At w a (bz aA)) :
 Calls prog 55 #[nC 2 ah a aA.length c self aL] w λe w'=>e= .returned (.bool (kL 2 ah aA))/\Below w.heap.size w w':=by
 have HP:Hid (kL 2 ah aA=wM aA):=by
  show _=_;rw[kL,aj (by decide),au rfl,wC,aj (by decide),au ((oF _ _).2 hf)]
 have HA:=hd' ha;clear ha wC;unfold maxLen at hl;go_enter Ig,Hz
 go_wp2_with fail
 go_loopw [71] (λi wr=> ∃k:Nat,k<=aA.length/\i= .int .i64 k/\Below w.heap.size w wr/\wM aA=wM (aA.drop k)) (λi _=>aA.length-(intOf i).toNat)
 case atStart=>exact⟨0,bD _,rfl,(aQ _ _).alloc (ay _) _,rfl⟩
 case round =>
  obtain⟨k,hk,rfl,hb,hv⟩:=hrel;have HV:=hd' hv;have HB:=hd' hb;by_cases hlt:k<aA.length
  ·obtain⟨b,o,rfl,hlb,h1,h2⟩:=pair_cells (HA.o'.below hb) hlt;clear hv hb;cases hin:tQ zy aA[k].1
   ·have HI:=hd' hin;rw[GD]at hin;have no0:(aA[k].1.toList== [99,111,108,111,114])=false:=cZ hin [99,111,108,111,114] (by decide);have no1:(aA[k].1.toList== [102,97,99,101])=false:=cZ hin [102,97,99,101] (by decide);have no2:(aA[k].1.toList== [115,105,122,101])=false:=cZ hin [115,105,122,101] (by decide);clear hin;go_wp2_with fail
    go_roundw
    case rel=>exact⟨k+1,by omega,by go_num,HB.o'.alloc HB.o'.size _,by rw[HV.o',Td aA k hlt HI.o']⟩
    case measure=>simp[intOf];omega
   ·have HI:=hd' hin;have h:=zJ hin;clear hin;simp only[zy,dS,mY,nO,oF]at h;rcases h with h|h|h
    all_goals
     go_wp2_with fail
     go_ret;exact⟨bJ (by rw[HP.o',HV.o',WI aA k hlt HI.o']),HB.o'.alloc HB.o'.size _⟩
  ·clear hb hv;go_wp2_with fail
   go_ret;exact⟨bJ (by rw[HP.o',HV.o',iZ (by omega)];rfl),HB.o'⟩
end
end Go.Proofs.YtnlbcifhedjbfaaGreatDoor
end
