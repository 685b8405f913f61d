/- oZ joined for a claim: FmC, FmD, FmE: plain laws and contracts. No conditions beyond those that each lemma types. -/
import Derived.Test.YtnlbcifhedjbfaaGreatDoorU05
set_option linter.unusedVariables false
set_option linter.unusedSimpArgs false
set_option maxRecDepth 100000
set_option maxHeartbeats 8000000
open Go.Proofs.Tryz
section
namespace Go.Proofs.YtnlbcifhedjbfaaGreatDoor
open Go.RowKit Mem
def VE (l:List dD) (p:dD):Bool:=l.any λq=>decide (p=q)
theorem VD (l:List dD) (p:dD) (k:Nat) (h:k<l.length):VE (l.drop k) p=(decide (p=l[k])||VE (l.drop (k+1)) p):=by
 rw[kR h,VE,Eu];rfl
theorem ZB (l:List dD) (a:Option Addr) (c:Nat) (p:dD) (w:af) (ha:At w a (bz l)) (hl:l.length<=1048576) :
 Calls prog 231 #[.slice a l.length c,.agg #[.string p.1,.string p.2]] w λe w'=> ∃i:Int,e= .returned (.int .i64 i)/\decide (0<=i)=VE l p/\Below w.heap.size w w':=by
 have hb:=(aQ w.heap.size w).alloc (ay _) (.cells #[.string p.1,.string p.2] 128);have k1:=eU w (.cells #[.string p.1,.string p.2] 128);have HA:=hd' (ha.below hb);have HB:=hd' hb;have z0:=lF _ _ 0 _ _ _ k1;have z1:=lF _ _ 1 _ _ _ k1;have hs:w.heap.size<(w.alloc (.cells #[.string p.1,.string p.2] 128)).heap.size:=by simp
 clear ha hb k1;go_enter func231,ntmps231
 go_wp2_with fail
 generalize w.alloc (.cells #[.string p.1,.string p.2] 128)=w1 at *;go_loopw [8] (λi wr=> ∃k:Nat,k<=l.length/\i= .int .i64 k/\Below w1.heap.size w1 wr/\VE l p=VE (l.drop k) p) (λi _=>l.length-(intOf i).toNat)
 case atStart=>exact⟨0,bD _,rfl,aQ _ _,rfl⟩
 case round =>
  obtain⟨k,hk,rfl,hbr,hv⟩:=hrel;have HV:=hd' hv;have nJ:=hd' hbr;clear hv;by_cases hlt:k<l.length
  ·obtain⟨b,o,rfl,hlb,h1,h2⟩:=pair_cells (HA.o'.below hbr) hlt;have y0:=aM hbr z0;have y1:=aM hbr z1;have hne:=af' p l[k];clear hbr;by_cases he:p=l[k]
   ·have HD:Hid (VE (l.drop k) p=true):=hd' (by
     rw[VD l p k hlt,pI he];rfl)
    rw[pI he]at hne;obtain⟨q,hq⟩: ∃q,q=l[k]:=⟨_,rfl⟩;rw[<-hq]at h1 h2 hne;clear he hq;go_wp2
    go_quiet (fail)
    go_wp2
    go_ret;exact⟨_,rfl,by rw[HV.o',HD.o'];simp,aK (aK HB.o' nJ.o') (fM _ _)⟩
   ·have HD:Hid (VE (l.drop k) p=VE (l.drop (k+1)) p):=hd' (by
     rw[VD l p k hlt,qB he];rfl)
    rw[qB he]at hne;obtain⟨q,hq⟩: ∃q,q=l[k]:=⟨_,rfl⟩;rw[<-hq]at h1 h2 hne;clear he hq;go_wp2
    go_quiet (fail)
    go_wp2
    go_roundw
    case rel=>exact⟨k+1,by omega,by go_num,aK nJ.o' (fM _ _),by rw[HV.o',HD.o']⟩
    case measure=>simp[intOf];omega
  ·have HD:Hid (VE (l.drop k) p=false):=hd' (by rw[iZ (by omega)];rfl);clear hbr;go_wp2
   go_ret;exact⟨-1,rfl,by rw[HV.o',HD.o'];rfl,aK HB.o' nJ.o'⟩
theorem D8 (l:List dD) (a:Option Addr) (c:Nat) (p:dD) (w:af) (ha:At w a (bz l)) (hl:l.length<=1048576) :
 Calls prog 226 #[.slice a l.length c,.agg #[.string p.1,.string p.2]] w λe w'=>e= .returned (.bool (VE l p))/\Below w.heap.size w w':=by
 have hb:=(aQ w.heap.size w).alloc (ay _) (.cells #[.string p.1,.string p.2] 128);have k1:=eU w (.cells #[.string p.1,.string p.2] 128);have HC:=hd' (ZB l a c p _ (ha.below hb) hl);have HB:=hd' hb;have z0:=lF _ _ 0 _ _ _ k1;have z1:=lF _ _ 1 _ _ _ k1;clear ha hb k1;go_enter func226,ntmps226
 go_wp2_with (go_at_call 231;refine HC.o'.mono ?_;rintro e w2 ⟨i,rfl,hi,hb2⟩;have HI:=hd' hi;have HB2:=hd' hb2;clear hi hb2)
 go_ret;exact⟨bJ HI.o',aK HB.o' HB2.o'⟩
def allIn (a b:List dD):Bool:=a.all λp=>VE b p
theorem NS (a b:List dD) (k:Nat) (h:k<a.length):allIn (a.drop k) b=(VE b a[k]&&allIn (a.drop (k+1)) b):=by
 rw[kR h,allIn,List.all_cons];rfl
def PX (T:aB) (a b:Int):Bool:=(aX T a==aX T b)&&((bq T a).toList==(bq T b).toList)&&decide ((bW T a).length=(bW T b).length)&&allIn (bW T a) (bW T b)&&allIn (bW T b) (bW T a)
section
variable {w0 w w':af} {B B' tb sb lb:Nat} {ex:Nat->Prop} {T T':aB} {l l' aF ent':List Int} {on on':Bool}
theorem ah7 (h:LI w0 B tb sb lb ex T l aF on w) (a b:Int) :
 Calls prog 216 #[.pointer (some ⟨lb,0,none⟩),.int .i64 a,.int .i64 b] w λe w'=>e= .returned (.bool (PX T a b))/\Below w.heap.size w w':=by
 obtain⟨sa,sc,c0,_⟩:=h.cells;have HW:=hd' (yx h a);have HT:=hd' h;have hla:=tZ h.Bz a;have hlb:=tZ h.Bz b;have HN:Hid (PX T a b=((aX T a==aX T b)&&((bq T a).toList==(bq T b).toList)&&decide ((bW T a).length=(bW T b).length)&&allIn (bW T a) (bW T b)&&allIn (bW T b) (bW T a))):=by show _=_;rfl
 have HWb:Hid (∀u,LI w0 B tb sb lb ex T l aF on u->Calls prog 41 #[.pointer (some ⟨tb,0,none⟩),.int .i64 b] u λe w'=> ∃v,e= .returned (.tuple #[.int .i64 (aX T b),.string (bq T b),v]) /\
  w'.ownsRow u.heap.size 128 2 v (bW T b).length (bz (bW T b))/\Below u.heap.size u w'):=hd' (λu hu=>yx hu b)
 clear h;generalize aX T a=s1 at *;generalize aX T b=s2 at *;generalize bq T a=n1 at *;generalize bq T b=n2 at *;generalize bW T a=l1 at *;generalize bW T b=l2 at *
 have hne:((l1.length:Int) !=(l2.length:Int))= !decide (l1.length=l2.length):=by
  by_cases hq:l1.length=l2.length
  ·simp[hq]
  ·rw[qB hq,QZ,jJ];omega
 go_enter func216,ntmps216
 go_wp2_with (go_at_call 41;fail)
 refine HW.o'.mono ?_;rintro e w1 ⟨v1,rfl,ho1,hb1⟩;obtain⟨a1,m1,rfl,_,_,_,afW⟩:=fJ ho1;have HA1:=hd' afW;have H1:=hd' (HT.o'.world hb1);have c0':=aM hb1 c0;have HB1:=hd' hb1;clear ho1 afW hb1 c0 HW;go_wp2_with (go_at_call 41;fail)
 refine(HWb.o' _ H1.o').mono ?_;rintro e w2 ⟨v2,rfl,ho2,hb2⟩;obtain⟨a2,m2,rfl,_,_,_,lV⟩:=fJ ho2;have HA2:=hd' lV;have aoe:=hd' (HA1.o'.below hb2);have HB2:=hd' (aK HB1.o' hb2);clear ho2 lV hb2 c0' HWb HA1;cases hs:(s1==s2)
 ·rw[hs]at HN;have hs':(s1 !=s2)=true:=by rw[bne,hs];rfl
  go_wp2_with fail
  go_ret;exact⟨bJ (by rw[HN.o'];rfl),HB2.o'⟩
 have hs':(s1 !=s2)=false:=by rw[bne,hs];rfl
 rw[hs]at HN;cases hn:(n1.toList==n2.toList)
 ·rw[hn]at HN;go_wp2_with fail
  go_ret;exact⟨bJ (by rw[HN.o'];rfl),HB2.o'⟩
 rw[hn]at HN;by_cases hle:l1.length=l2.length
 ·rw[pI hle]at HN;have apI:((l1.length:Int) !=(l2.length:Int))=false:=by rw[hne,pI hle];rfl
  have HLE:=hd' hle;clear hle hne hs;go_wp2_with fail
  go_loopw [54] (λi wr=> ∃k:Nat,k<=l1.length/\i= .int .i64 k/\Below w2.heap.size w2 wr/\allIn l1 l2=allIn (l1.drop k) l2) (λi _=>l1.length-(intOf i).toNat)
  case atStart=>exact⟨0,bD _,rfl,aQ _ _,rfl⟩
  case round =>
   obtain⟨k,hk,rfl,hbr,hv⟩:=hrel;have HV:=hd' hv;have nJ:=hd' hbr;clear hv;by_cases hlt:k<l1.length
   ·obtain⟨b',o',rfl,amP,h1,h2⟩:=pair_cells (aoe.o'.below hbr) hlt;have HST:=hd' (NS l1 l2 k hlt);obtain⟨q,hq⟩: ∃q,q=l1[k]:=⟨_,rfl⟩;rw[<-hq]at h1 h2 HST;have HC:Hid (∀u,Below w2.heap.size w2 u->Calls prog 226 #[.slice a2 l2.length m2,.agg #[.string q.1,.string q.2]] u λe w'=>e= .returned (.bool (VE l2 q))/\Below u.heap.size u w'):=hd' (λu hu=>D8 l2 _ _ q u (HA2.o'.below hu) (by omega));have hbw:=hbr.alloc hbr.size (.cells #[.string q.1,.string q.2] 128);have HBW:=hd' hbw;clear hq hbr hbw;cases hin:VE l2 q
    all_goals
     rw[hin]at HST HC;go_wp2_with (go_at_call 226;refine(HC.o' _ HBW.o').mono ?_;rintro e w4 ⟨rfl,hb4⟩;have WX:=hd' (aK HBW.o' hb4);clear hb4)
    ·go_ret;exact⟨bJ (by rw[HN.o',HV.o',HST.o'];rfl),aK HB2.o' WX.o'⟩
    ·go_roundw
     case rel=>exact⟨k+1,by omega,by go_num,WX.o',by rw[HV.o',HST.o'];rfl⟩
     case measure=>simp[intOf];omega
   ·have HE:Hid (allIn (l1.drop k) l2=true):=hd' (by rw[iZ (by omega)];rfl);clear hbr;have HE1:Hid (allIn l1 l2=true):=hd' (by rw[HV.o',HE.o']);have HA3:=hd' (HA2.o'.below nJ.o');have HA4:=hd' (aoe.o'.below nJ.o');have HB3:=hd' (aK HB2.o' nJ.o');obtain⟨w3,hw3⟩: ∃w3:af,w3=wr:=⟨_,rfl⟩;subst hw3;clear HV HE nJ;go_wp2_with fail
    go_loopw [65] (λi wr=> ∃k:Nat,k<=l2.length/\i= .int .i64 k/\Below w3.heap.size w3 wr/\allIn l2 l1=allIn (l2.drop k) l1) (λi _=>l2.length-(intOf i).toNat)
    case atStart=>exact⟨0,bD _,rfl,aQ _ _,rfl⟩
    case round =>
     obtain⟨k,hk,rfl,hbr,hv⟩:=hrel;have HV:=hd' hv;have nJ:=hd' hbr;clear hv;by_cases hlt:k<l2.length
     ·obtain⟨b',o',rfl,amP,h1,h2⟩:=pair_cells (HA3.o'.below hbr) hlt;have HST:=hd' (NS l2 l1 k hlt);obtain⟨q,hq⟩: ∃q,q=l2[k]:=⟨_,rfl⟩;rw[<-hq]at h1 h2 HST;have HC:Hid (∀u,Below w3.heap.size w3 u->Calls prog 226 #[.slice a1 l1.length m1,.agg #[.string q.1,.string q.2]] u λe w'=>e= .returned (.bool (VE l1 q))/\Below u.heap.size u w'):=hd' (λu hu=>D8 l1 _ _ q u (HA4.o'.below hu) (by omega));have hbw:=hbr.alloc hbr.size (.cells #[.string q.1,.string q.2] 128);have HBW:=hd' hbw;clear hq hbr hbw;cases hin:VE l1 q
      all_goals
       rw[hin]at HST HC;go_wp2_with (go_at_call 226;refine(HC.o' _ HBW.o').mono ?_;rintro e w4 ⟨rfl,hb4⟩;have WX:=hd' (aK HBW.o' hb4);clear hb4)
      ·go_ret;exact⟨bJ (by rw[HN.o',HV.o',HST.o'];simp),aK HB3.o' WX.o'⟩
      ·go_roundw
       case rel=>exact⟨k+1,by omega,by go_num,WX.o',by rw[HV.o',HST.o'];rfl⟩
       case measure=>simp[intOf];omega
     ·have HE:Hid (allIn (l2.drop k) l1=true):=hd' (by rw[iZ (by omega)];rfl);clear hbr;go_wp2_with fail
      go_ret;exact⟨bJ (by rw[HN.o',HE1.o',HV.o',HE.o'];rfl),aK HB3.o' nJ.o'⟩
 ·rw[qB hle]at HN;have apI:((l1.length:Int) !=(l2.length:Int))=true:=by rw[hne,qB hle];rfl
  clear hne;go_wp2_with fail
  go_ret;exact⟨bJ (by rw[HN.o'];rfl),HB2.o'⟩
end
def Hm (T:aB) (n:Int) (aF:List Int) (h k:Nat):List Nat:=(List.range k).filter λi=>decide (h<=i)&&PX T (aF.getD i 0) n
theorem acF (T:aB) (n:Int) (aF:List Int) (h:Nat):Hm T n aF h h= []:=by
 rw[Hm,List.filter_eq_nil_iff];intro i hi;have:i<h:=by simpa using hi
 simp;omega
theorem afx (T:aB) (n:Int) (aF:List Int) (h k:Nat) (hk:k<aF.length) (hh:h<=k):Hm T n aF h (k+1)=Hm T n aF h k++if PX T aF[k] n then [k]else []:=by
 have hg:aF.getD k 0=aF[k]:=by simp[List.getD,mi hk]
 rw[Hm,List.range_succ,IA,Hm];congr 1;simp only[List.filter_cons,List.filter_nil,pI hh,nW,hg]
theorem akw (T:aB) (n:Int) (aF:List Int) (h k:Nat): ∀i∈Hm T n aF h k,i<k:=by
 intro i hi;have:=(qE.1 hi).1;simpa using this
def uI (l:List Nat):Int:=match l with| []=> -1|i::_=>i
theorem VY (l:List Nat) (k:Nat):uI (l++ [k])=if l.length=0 then(k:Int)else uI l:=by
 cases l <;>rfl
theorem acT {l:List Nat} {k:Nat} (h: ∀i∈l,i<k):uI l<k:=by
 cases l with
 |nil=>show(-1:Int)<_;omega
 |cons i r=>have:=h i dR;show(i:Int)<_;omega
def yn (aF:List Int):Nat:=(aT aF (-1)+1).toNat
theorem Nk (aF:List Int):(yn aF:Int)=aT aF (-1)+1/\yn aF<=aF.length:=by
 have:=dC aF (-1);unfold yn;omega
def Bj (T:aB) (aF:List Int) (n:Int):List Int :=
 (if 3<=(Hm T n aF (yn aF) aF.length).length then iX aF (uI (Hm T n aF (yn aF) aF.length))else aF)++ [n]
section
variable {w0 w w':af} {B B' tb sb lb:Nat} {ex:Nat->Prop} {T T':aB} {l l' aF ent':List Int} {on on':Bool}
theorem ai4 (h:LI w0 B tb sb lb ex T l aF on w) (hle0:aF.length<1000000) (n:Int) :
 Calls prog 202 #[.pointer (some ⟨lb,0,none⟩),.int .i64 n] w λe w'=>e= .returned (.tuple #[])/\LI w0 B tb sb lb ex T l (Bj T aF n) on w'/\az (Own w0 ex) w w':=by
 have HH:=hd' (Sn h);obtain⟨hh1,hh2⟩:=Nk aF;rw[<-hh1]at HH;have HP:Hid (Bj T aF n=(if 3<=(Hm T n aF (yn aF) aF.length).length then iX aF (uI (Hm T n aF (yn aF) aF.length))else aF)++ [n]):=hd' rfl;generalize yn aF=hd at *;obtain⟨sa,sc,_,_,c2,_,hA,hcm,hcl⟩:=h.cells;unfold maxLen at hcm;have HA:=hd' hA;have HL:=hd' h;have HIS:=hd' (acF T n aF hd);clear h hA hh1;go_enter func202,ntmps202
 go_wp2_with (go_at_call 171;refine HH.o'.mono ?_;rintro e w1 ⟨rfl,rfl⟩)
 go_loopw [4,5,6] (λf m i wr=> ∃k:Nat,hd<=k/\k<=aF.length/\i= .int .i64 k/\m= .int .i64 (Hm T n aF hd k).length/\f= .int .i64 (uI (Hm T n aF hd k))/\Below w.heap.size w wr) (λ_ _ i _=>aF.length-(intOf i).toNat)
 case atStart =>
  refine⟨hd,ay _,hh2,rfl,?_,?_,aQ _ _⟩
  ·rw[HIS.o'];rfl
  ·rw[HIS.o'];rfl
 case round =>
  obtain⟨k,hk1,hk2,rfl,rfl,rfl,hbr⟩:=hrel;have nJ:=hd' hbr;have d2:=aM hbr c2
  have hil:(Hm T n aF hd k).length<=k:=by
   have:=List.length_filter_le (λi=>decide (hd<=i)&&PX T (aF.getD i 0) n) (List.range k);rw[List.length_range]at this;exact this
  by_cases hlt:k<aF.length
  ·obtain⟨b,o,rfl,e1⟩:=(HA.o'.below hbr) _ _ (fw aF k hlt);have HLk:=hd' (ah7 (HL.o'.world hbr) aF[k] n);have HST:=hd' (afx T n aF hd k hlt hk1);have HFS:=hd' (VY (Hm T n aF hd k) k);obtain⟨x,hx⟩: ∃x,x=aF[k]:=⟨_,rfl⟩;rw[<-hx]at e1 HLk HST;clear hx hbr;cases hq:PX T x n
   ·rw[hq]at HLk HST;go_wp2_with (go_at_call 216;refine HLk.o'.mono ?_;rintro e w2 ⟨rfl,hb2⟩;have HB2:=hd' (aK nJ.o' hb2);clear hb2)
    go_roundw
    case rel=>exact⟨k+1,by omega,by omega,by go_num,by rw[HST.o'];simp,by rw[HST.o'];simp,HB2.o'⟩
    case measure=>simp[intOf];omega
   ·rw[hq,au rfl]at HST;rw[hq]at HLk;have HL1:Hid ((Hm T n aF hd (k+1)).length=(Hm T n aF hd k).length+1):=hd' (by rw[HST.o'];simp);rw[<-HST.o']at HFS;obtain⟨m1,hm1⟩: ∃m,m=(Hm T n aF hd k).length:=⟨_,rfl⟩;obtain⟨f1,hf1⟩: ∃f,f=uI (Hm T n aF hd k):=⟨_,rfl⟩;rw[<-hm1]at HFS HL1 hil |-;rw[<-hf1]at HFS |-;clear hm1 hf1;by_cases h0:m1=0
    ·subst h0;rw[au rfl]at HFS;go_wp2_with (go_at_call 216;refine HLk.o'.mono ?_;rintro e w2 ⟨rfl,hb2⟩;have HB2:=hd' (aK nJ.o' hb2);clear hb2)
     go_roundw
     case rel=>exact⟨k+1,by omega,by omega,by go_num,by rw[HL1.o'];rfl,by rw[HFS.o'],HB2.o'⟩
     case measure=>simp[intOf];omega
    ·rw[aj h0]at HFS;have h0':((m1:Int)==0)=false:=by rw[aV];omega
     go_wp2_with (go_at_call 216;refine HLk.o'.mono ?_;rintro e w2 ⟨rfl,hb2⟩;have HB2:=hd' (aK nJ.o' hb2);clear hb2)
     go_roundw
     case rel=>exact⟨k+1,by omega,by omega,by go_num,by rw[HL1.o'];go_num,by rw[HFS.o'],HB2.o'⟩
     case measure=>simp[intOf];omega
  ·obtain rfl:k=aF.length:=by omega
   have Bo:=hd' (HL.o'.world hbr);have hfl:=acT (akw T n aF hd aF.length);clear hbr;go_upto_if 34 with fail
   go_cut []from 34 to 37 (λwx=> ∃AP,AP.length<1000000/\Hid (Bj T aF n=AP++ [n])/\Hid (LI w0 B tb sb lb ex T l AP on wx)/\Hid (az (Own w0 ex) w wx))
   case first =>
    by_cases h3:3<=(Hm T n aF hd aF.length).length
    ·have HD:=hd' (KD Bo.o' (uI (Hm T n aF hd aF.length)) hfl);have HP3:Hid (Bj T aF n=iX aF (uI (Hm T n aF hd aF.length))++ [n]):=hd' (by rw[HP.o',au h3]);have HLE:Hid ((iX aF (uI (Hm T n aF hd aF.length))).length<=aF.length):=hd' (oG _ _);generalize iX aF (uI (Hm T n aF hd aF.length))=AP at *;generalize uI (Hm T n aF hd aF.length)=f1 at *;generalize (Hm T n aF hd aF.length).length=m1 at *;clear hfl;go_wp2_with (go_at_call 200;refine HD.o'.mono ?_;rintro e w2 ⟨rfl,h2,k2⟩;have H2:=hd' h2;have K2:=hd' k2;clear h2 k2)
     go_meet
     exact⟨AP,(by have:=HLE.o';omega),HP3,H2,hd' ((az.bC nJ.o').trans K2.o')⟩
    ·have HP3:Hid (Bj T aF n=aF++ [n]):=hd' (by rw[HP.o',aj h3]);generalize uI (Hm T n aF hd aF.length)=f1 at *;generalize (Hm T n aF hd aF.length).length=m1 at *;clear hfl;go_wp2_with fail
     go_meet
     exact⟨aF,hle0,HP3,Bo,hd' (az.bC nJ.o')⟩
   case rest =>
   obtain⟨AP,hl3,HP3,HL3,HKE⟩:=hcut;obtain⟨ge,h1,h2,h3,h4⟩:=HL3.o';obtain⟨w3,hw3⟩: ∃w3:af,w3=wc:=⟨_,rfl⟩;subst hw3;clear HL Bo HH HA c2 d2 nJ HP;have hlt:=h1.lt lb (.inl rfl);have hgl:=λk hk=>h1.lt k (.inr hk)
   obtain⟨a,c,c0,c1,c2,c3,hA,ho,f2,f3,hrow,hn,hne⟩:=h1.cells;have d1:(w3.alloc (.cells #[.int .i64 n] 3)).heap[lb]?=w3.heap[lb]?:=gu w3 _ hlt;have HQ:=hd' (ho.1.alloc (.cells #[.int .i64 n] 3));have HB0:Hid ((Value.slice a AP.length c).ownBlock=ge):=ho.2;have HN:=hd' (show At (w3.alloc (.cells #[.int .i64 n] 3)) (some ⟨w3.heap.size,0,none⟩) (bB [n])from jy rfl rfl);obtain⟨i0,hi,hz0,hz1,hz2⟩:=lY CZ;have b0:AP.length+1<=maxLen:=by unfold maxLen;omega
   have b1:(AP.length+1)*8<=140737488355328:=by omega
   have hsz:lb<(w3.alloc (.cells #[.int .i64 n] 3)).heap.size:=by simp;omega
   have HR:=hd' (d1.trans hrow);have Kr:Hid (some lb≠(Value.slice a AP.length c).ownBlock):=hd' (by rw[HB0.o'];exact hne.symm);have HL:=hd' hgl;have HGS:=hd' hne;have H2:=hd' h2;have H3:=hd' h3;clear hrow ho hne hA d1 h1 h2 h3 hgl;go_wp2_with (at_builtin;refine Qz _ rfl _ _ 65 rfl 0 3 i0 _ 1 8 oJ hi hz0 hz1 hz2 rfl (by decide) _ AP.length (bB AP) rfl HQ.o' ⟨w3.heap.size,0,none⟩ 1 1 (bB [n]) rfl rfl HN.o'.news (jl _) (by decide) b0 b1 (bD _) (w3.heap.size+1) (by simp) ?_;intro g2 cap2 w5 hown2 mU lV hlt2;have hb2:=(mU.block lb hsz Kr.o').trans HR.o';have HRR:=hd' hb2;have s1:=Row.cell (xs:= [.pointer (some ⟨tb,0,none⟩),.pointer (some ⟨sb,0,none⟩),.slice a AP.length c,.bool on]) ⟨_,_,_,_,hb2,rfl,.inr rfl⟩ (j:=2) rfl;have f1:=Row.frozen (xs:= [.pointer (some ⟨tb,0,none⟩),.pointer (some ⟨sb,0,none⟩),.slice a AP.length c,.bool on]) ⟨_,_,_,_,hb2,rfl,.inr rfl⟩ (j:=2) (by simp);have OJ:=hd' hown2;have HG2:=hd' mU;have HA2:=hd' lV;clear hown2 mU hb2 lV)
   go_end0
   have hg2:ge=some g2\/w3.heap.size+1=g2:=by
    rcases HA2.o' with h|h
    ·exact .inl (HB0.o'.symm.trans h)
    ·exact .inr h.symm
   have hne2:g2≠lb:=by
    rintro rfl;rcases hg2 with h|h
    ·exact HGS.o' h
    ·omega
   have hk:az (SB lb ge) w3 (w5.setCell ⟨lb,2,none⟩ (.slice (some ⟨g2,0,none⟩) (AP.length+1) cap2)):=(C8 ((az.refl _ _).alloc _) HG2.o' λk hk=> .inl (.inr (HB0.o'.symm.trans hk))).set (p:=⟨lb,2,none⟩) (.inl (.inl rfl)) _
   have hls:vH (w5.setCell ⟨lb,2,none⟩ (.slice (some ⟨g2,0,none⟩) (AP.length+1) cap2)) lb tb sb (some g2) (AP++ [n]) on:=by
    refine⟨.slice (some ⟨g2,0,none⟩) (AP.length+1) cap2,mr (i:=2) HRR.o' _,⟨?_,rfl⟩,by simpa using hne2⟩;have:=gH OJ.o' (w':=w5.setCell ⟨lb,2,none⟩ (.slice (some ⟨g2,0,none⟩) (AP.length+1) cap2)) λb hb=>eG _ _ _ _ (by simp only[Value.ownBlock,dQ]at hb;subst hb;exact hne2)
    rw[jI,fC];exact this
   have an7:=LI.xE H2.o' H3.o' (by rw[fC,sS];omega) hls hk (λk hk=>by cases hk;exact hg2.imp id (λh=>by omega));rw[HP3.o'];exact⟨rfl,an7.1,HKE.o'.trans an7.2⟩
end
def yt (T:aB) (ah:ae):List Int->Int
 | []=>0
 |x::r=>if aI T x [ah]then x else yt T ah r
def findF (T:aB) (aF:List Int) (ah:ae):Int:=yt T ah (aF.drop (yn aF)).reverse
theorem Y7 (T:aB) (ah:ae) (aF:List Int) (h k:Nat) (hk:k<aF.length) (hh:h<=k):yt T ah ((aF.take (k+1)).drop h).reverse=if aI T aF[k] [ah]then aF[k]else yt T ah ((aF.take k).drop h).reverse:=by
 rw[jL hk,QT (by rw[fV];omega),pO];rfl
section
variable {w0 w w':af} {B B' tb sb lb:Nat} {ex:Nat->Prop} {T T':aB} {l l' aF ent':List Int} {on on':Bool}
theorem abk (h:LI w0 B tb sb lb ex T l aF on w) (ah:ae) :
 Calls prog 158 #[.pointer (some ⟨lb,0,none⟩),.string ah] w λe w'=>e= .returned (.int .i64 (findF T aF ah))/\Below w.heap.size w w':=by
 have HH:Hid (∀u,LI w0 B tb sb lb ex T l aF on u->Calls prog 171 #[.pointer (some ⟨lb,0,none⟩)] u λe w'=>e= .returned (.int .i64 (aT aF (-1)+1))/\u=w'):=hd' (λu hu=>Sn hu);obtain⟨hh1,hh2⟩:=Nk aF;rw[<-hh1]at HH;have HP:Hid (findF T aF ah=yt T ah (aF.drop (yn aF)).reverse):=hd' rfl;generalize yn aF=hd at *;obtain⟨sa,sc,_,_,c2,_,hA,hcm,hcl⟩:=h.cells;unfold maxLen at hcm;have HA:=hd' hA;have HL:=hd' h;clear h hA hh1;go_enter func158,ntmps158
 go_wp2_with fail
 go_loopw [5] (λi wr=> ∃k:Nat,hd<=k/\k<=aF.length/\i= .int .i64 ((k:Int)-1)/\Below w.heap.size w wr/\yt T ah (aF.drop hd).reverse=yt T ah ((aF.take k).drop hd).reverse) (λi _=>(intOf i+1).toNat)
 case atStart=>exact⟨aF.length,hh2,ay _,rfl,aQ _ _,by rw[iH (ay _)]⟩
 case round =>
  obtain⟨k,hk1,hk2,rfl,hbr,hv⟩:=hrel;have nJ:=hd' hbr;have HV:=hd' hv;have Bo:=hd' (HL.o'.world hbr);have d2:=aM hbr c2;clear hv;by_cases hlt:hd<k
  ·obtain⟨j,rfl⟩: ∃j,k=j+1:=⟨k-1,by omega⟩;have hj:j<aF.length:=by omega
   obtain⟨b,o,rfl,e1⟩:=(HA.o'.below hbr) _ _ (fw aF j hj);have HN:=hd' (IY Bo.o' aF[j] ah);have HST:=hd' (Y7 T ah aF hd j hj (by omega));obtain⟨x,hx⟩: ∃x,x=aF[j]:=⟨_,rfl⟩;rw[<-hx]at e1 HN HST;clear hx hbr;have e2:((j+1:Nat):Int)-1=(j:Int):=by omega
   rw[e2];cases hq:aI T x [ah]
   ·rw[hq]at HN HST;go_wp2_with (first|(go_at_call 171;refine(HH.o' _ Bo.o').mono ?_;rintro e w2 ⟨rfl,rfl⟩)|(go_at_call 189;refine HN.o'.mono ?_;rintro e w2 ⟨rfl,hb2⟩;have HB2:=hd' (aK nJ.o' hb2);clear hb2))
    go_roundw
    case rel=>exact⟨j,by omega,by omega,by go_num,HB2.o',by rw[HV.o',HST.o'];rfl⟩
    case measure=>simp[intOf]
   ·rw[hq]at HN HST;go_wp2_with (first|(go_at_call 171;refine(HH.o' _ Bo.o').mono ?_;rintro e w2 ⟨rfl,rfl⟩)|(go_at_call 189;refine HN.o'.mono ?_;rintro e w2 ⟨rfl,hb2⟩;have f2:=aM hb2 d2;have g1:=aM hb2 e1;have HB2:=hd' (aK nJ.o' hb2);clear hb2))
    go_ret;exact⟨iN (by rw[HP.o',HV.o',HST.o'];rfl),HB2.o'⟩
  ·obtain rfl:k=hd:=by omega
   have HE:Hid (yt T ah ((aF.take k).drop k).reverse=0):=hd' (by rw[iZ (by rw[fV];omega)];rfl);clear hbr;go_wp2_with (go_at_call 171;refine(HH.o' _ Bo.o').mono ?_;rintro e w2 ⟨rfl,rfl⟩)
   go_ret;exact⟨iN (by rw[HP.o',HV.o',HE.o']),nJ.o'⟩
end
end Go.Proofs.YtnlbcifhedjbfaaGreatDoor
end
section
namespace Go.Proofs.YtnlbcifhedjbfaaGreatDoor
open Go.RowKit Mem
def SA (aF:List Int):List Int:=aF.take (yn aF-1)
section
variable {w0 w w':af} {B B' tb sb lb:Nat} {ex:Nat->Prop} {T T':aB} {l l' aF ent':List Int} {on on':Bool}
theorem Qi {ge:Option Nat} {w4:af} {a a5:Option Addr} {c c5 m:Nat} (h2:SI w0 B tb sb (λk=>ex k\/SB lb ge k) T l w) (h3: ∀k,SB lb ge k->w0.heap.size<=k/\ ¬ex k) (h4:aF.length<=1000000) (hm:m<=aF.length)
 (hrow:w4.heap[lb]?=some (.cells #[.pointer (some ⟨tb,0,none⟩),.pointer (some ⟨sb,0,none⟩),.slice a aF.length c,.bool on] 90 (0,0)))
 (hown:w4.ownsRow w.heap.size 3 1 (.slice a5 m c5) m (bB (aF.take m))) (hgr:((w.alloc (.cells #[] 3)).drew).grownBy w4 (Value.slice (some ⟨w.heap.size,0,none⟩) 0 0).ownBlock) (hlt:lb<w.heap.size) :
 LI w0 B tb sb lb ex T l (aF.take m) on (w4.setCell ⟨lb,2,none⟩ (.slice a5 m c5))/\az (Own w0 ex) w (w4.setCell ⟨lb,2,none⟩ (.slice a5 m c5)):=by
 have hnew: ∀j,(Value.slice a5 m c5).ownBlock=some j->w.heap.size<=j:=λj hj=>(hown.lt j hj).1
 have hne:(Value.slice a5 m c5).ownBlock≠some lb:=λe=>by have:=hnew lb e;omega
 have hlen:(aF.take m).length=m:=by rw[fV];omega
 have hk:az (SB lb ge) w (w4.setCell ⟨lb,2,none⟩ (.slice a5 m c5)):=(C8 (((az.refl _ w).alloc _).drew) hgr λk hk=> .inr (by simp only[Value.ownBlock,dQ]at hk;omega)).set (p:=⟨lb,2,none⟩) (.inl (.inl rfl)) _
 have hl:vH (w4.setCell ⟨lb,2,none⟩ (.slice a5 m c5)) lb tb sb (Value.slice a5 m c5).ownBlock (aF.take m) on:=by
  refine⟨.slice a5 m c5,mr (i:=2) hrow _,⟨?_,rfl⟩,hne⟩;rw[hlen];exact gH (zB hown) λb hb=>eG _ _ _ _ (λe=>hne (hb.trans (aW some e)))
 exact LI.xE h2 h3 (by omega) hl hk (λk hk=> .inr (hnew k hk))
theorem ag' (h:LI w0 B tb sb lb ex T l aF on w) :
 Calls prog 118 #[.pointer (some ⟨lb,0,none⟩)] w λe w'=>e= .returned (.tuple #[])/\LI w0 B tb sb lb ex T l (SA aF) on w'/\az (Own w0 ex) w w':=by
 have HH:Hid (∀u,LI w0 B tb sb lb ex T l aF on u->Calls prog 171 #[.pointer (some ⟨lb,0,none⟩)] u λe w'=>e= .returned (.int .i64 (aT aF (-1)+1))/\u=w'):=hd' (λu hu=>Sn hu);obtain⟨hh1,hh2⟩:=Nk aF;rw[<-hh1]at HH;have HP:Hid (SA aF=aF.take (yn aF-1)):=hd' rfl;generalize yn aF=hd at *;have HL:=hd' h;obtain⟨ge,h1,h2,h3,h4⟩:=h;have hlt:=h1.lt lb (.inl rfl);obtain⟨a,c,_,_,c2,_,hA,ho,f2,_,hrow,hnil,hne⟩:=h1.cells;obtain⟨m,hm⟩: ∃m,m=hd-1:=⟨_,rfl⟩;rw[<-hm]at HP;have hml:m<=aF.length:=by omega
 have hmax:max (0:Int) ((hd:Int)-1)=(m:Int):=by omega
 have hA':At w a (bB (aF.take m)):=by
  rw[<-nQ m aF,jI]at hA;exact hA.left
 have HA:=hd' (hA'.below (((aQ w.heap.size w).alloc (ay _) (.cells #[] 3)).drew));have HE:Hid (((w.alloc (.cells #[] 3)).drew).ownsRow w.heap.size 3 1 (.slice (some ⟨w.heap.size,0,none⟩) 0 0) 0 []):=hd' (own_drewN (oI w #[] 0 (ay _) (bD _) rfl) 1);have HC:=hd' (λh:a=none=>hnil h);obtain⟨i0,hi0,hz0,hz1,hz2⟩:=lY CZ;have b0:0+m<=maxLen:=by unfold maxLen;omega
 have b1:(0+m)*8<=140737488355328:=by omega
 have W9:=hd' (show(bB (aF.take m)).length=m*1 by rw[eu,Eg,fV];omega);have hs2:w.heap.size<=((w.alloc (.cells #[] 3)).drew).heap.size:=by simp
 have hl2:lb<((w.alloc (.cells #[] 3)).drew).heap.size:=by simp;omega
 have Kr:Hid (some lb≠(Value.slice (some ⟨w.heap.size,0,none⟩) 0 0).ownBlock):=hd' (λe=>by simp only[Value.ownBlock,dQ]at e;omega);have afJ:((w.alloc (.cells #[] 3)).drew).heap[lb]?=some (.cells #[.pointer (some ⟨tb,0,none⟩),.pointer (some ⟨sb,0,none⟩),.slice a aF.length c,.bool on] 90 (0,0)):=(gu w _ hlt).trans hrow;have q1:=lF _ lb 2 _ _ _ afJ;have HR:=hd' afJ
 have hcl:aF.length<=c/\c<=9223372036854775807:=by
  obtain⟨_,_,he,k1,k2,_⟩:=fJ ho.1;injection he with _ _ e3;subst e3;exact⟨k1,k2⟩
 have HLa:=hd' (HL.o'.world (((aQ w.heap.size w).alloc (ay _) (.cells #[] 3)).drew));have HLd:=hd' (HL.o'.world ((aQ w.heap.size w).drew));have H2:=hd' h2;have H3:=hd' h3;have HOI:=hd' ho;clear h1 h2 h3 hA hA' ho hrow afJ hne hnil hm hh1
 have hform:(a=none/\c=0/\aF.length=0)\/ ∃g0,a=some ⟨g0,0,none⟩:=by
  rcases HOI.o'.1.2 with⟨he,h0⟩|⟨g0,cap,di,he,_⟩
  ·injection he with e1 e2 e3;exact .inl ⟨e1,e3,h0⟩
  ·injection he with e1 e2 e3;exact .inr ⟨g0,e1⟩
 rcases hform with⟨rfl,rfl,hen⟩|⟨g0,rfl⟩
 ·obtain rfl:hd=0:=by omega
  obtain rfl:m=0:=by omega
  have hen':aF= []:=rF hen;have hw0:IntKind.i64.wrap (-1)= -1:=by rw[qG];omega
  have ar0:max (0:Int) (-1)=0:=by omega
  clear hmax hen;subst hen';go_enter func118,ntmps118
  go_wp2_with fail
  go_region_law (first|(go_simp;go_at_call 171;(first|(refine(HH.o' _ HLa.o').mono ?_;rintro e wx ⟨rfl,rfl⟩)|(refine(HH.o' _ HLd.o').mono ?_;rintro e wx ⟨rfl,rfl⟩)))|(refine fO (by rfl) _ _ 65 (by rfl) w.heap.size 3 i0 _ 1 8 oJ hi0 hz0 hz1 hz2 rfl (by decide) _ 0 [] (by rfl) HE.o' none 0 0 (bB ([]:List Int)) (by rfl) W9.o' (by(exact λ_=>rfl)) HA.o' (jl _) b0 b1 hs2 ?_;intro v2 w4 hown2 mU;simp only[iM,jZ]at hown2;obtain⟨a5,c5,rfl,_⟩:=oz hown2;have Nf:=(mU.block lb hl2 Kr.o').trans HR.o';have q5:=lF _ lb 2 _ _ _ Nf;have f5:=vK _ _ 2 _ _ Nf))
  all_goals
   go_wp2_with fail
   go_end0
   refine⟨rfl,?_⟩;rw[HP.o'];exact Qi H2.o' H3.o' h4 hml Nf hown2 mU hlt
 ·have hmc:m<=c:=by omega
  have hw0:IntKind.i64.wrap ((hd:Int)-1)=(hd:Int)-1:=by rw[qG];omega
  go_enter func118,ntmps118
  go_wp2_with fail
  go_region_law (first|(go_simp;go_at_call 171;(first|(refine(HH.o' _ HLa.o').mono ?_;rintro e wx ⟨rfl,rfl⟩)|(refine(HH.o' _ HLd.o').mono ?_;rintro e wx ⟨rfl,rfl⟩)))|(refine fO (by rfl) _ _ 65 (by rfl) w.heap.size 3 i0 _ 1 8 oJ hi0 hz0 hz1 hz2 rfl (by decide) _ 0 [] (by rfl) HE.o' (some ⟨g0,0,none⟩) m c (bB (aF.take m)) (by rfl) W9.o' (by(exact HC.o')) HA.o' (jl _) b0 b1 hs2 ?_;intro v2 w4 hown2 mU;simp only[iM,jZ]at hown2;obtain⟨a5,c5,rfl,_⟩:=oz hown2;have Nf:=(mU.block lb hl2 Kr.o').trans HR.o';have q5:=lF _ lb 2 _ _ _ Nf;have f5:=vK _ _ 2 _ _ Nf))
  all_goals
   go_wp2_with fail
   go_end0
   refine⟨rfl,?_⟩;rw[HP.o'];exact Qi H2.o' H3.o' h4 hml Nf hown2 mU hlt
end
def vZ (T:aB):List Int->Int
 | []=>0
 |x::r=>if(!((bq T x).toList== []))&&gJ (aX T x) (bq T x)then x else vZ T r
def ik (T:aB) (l:List Int) (f:Int):Int:=vZ T (l.drop (aT l f+1).toNat)
theorem Wv (T:aB) (l:List Int) (k:Nat) (h:k<l.length):vZ T (l.drop k)=if(!((bq T l[k]).toList== []))&&gJ (aX T l[k]) (bq T l[k])then l[k]else vZ T (l.drop (k+1)):=by
 rw[kR h];rfl
theorem aiC {l:List Int} {f:Int}:(aT l f+1).toNat<=l.length/\((aT l f+1).toNat:Int)=aT l f+1:=by
 have:=dC l f;omega
section
variable {w0 w w':af} {B B' tb sb lb:Nat} {ex:Nat->Prop} {T T':aB} {l l' aF ent':List Int} {on on':Bool}
theorem agw (h:LI w0 B tb sb lb ex T l aF on w) (f:Int) (h0:0<=aT l f) :
 Calls prog 213 #[.pointer (some ⟨lb,0,none⟩),.int .i64 f] w λe w'=>e= .returned (.int .i64 (ik T l f))/\Below w.heap.size w w':=by
 obtain⟨sa,sc,c0,c1,_⟩:=h.cells;have hsh:=h.short.1;have HL:=hd' h;have ze:=hd' (KI h);obtain⟨j1,j2⟩:=aiC (l:=l) (f:=f);have HP:Hid (ik T l f=vZ T (l.drop (aT l f+1).toNat)):=hd' rfl;obtain⟨j,hj⟩: ∃j,j=(aT l f+1).toNat:=⟨_,rfl⟩;rw[<-hj]at HP j1 j2
 have hF: ∀u,LI w0 B tb sb lb ex T l aF on u->Calls prog 152 #[.pointer (some ⟨sb,0,none⟩),.int .i64 f] u λe w'=>e= .returned (.int .i64 ((j:Int)-1))/\u=w':=λu hu=>by
  have:=CO hu f;rw[show aT l f=(j:Int)-1 by omega]at this;exact this
 have HF:=hd' hF;have hj1:1<=j:=by omega
 clear h hj hF h0 j2;go_enter func213,ntmps213
 go_upto_region 2 with(go_at_call 97;refine ze.o'.mono ?_;rintro e w1 ⟨v,rfl,ho,hb⟩;obtain⟨g1,m1,rfl,_,hm1,hm2⟩:=qW ho (by omega);have HA:=hd' (jh ho).at;have HB:=hd' hb;have H1:=hd' (HL.o'.world hb);have d0:=aM hb c0;have d1:=aM hb c1;clear hb ho)
 unfold maxLen at hm2;by_cases hlt:j<l.length
 ·have hcj: ¬(m1=j):=by omega
  have hjm:(j:Int)<=(l.length:Int):=by omega
  have au2:j<=l.length:=by omega
  go_wp2_with (go_at_call 152;refine(HF.o' _ H1.o').mono ?_;rintro e w2 ⟨rfl,rfl⟩)
  go_loopw [26] (λi wr=> ∃k:Nat,k<=l.length-j/\i= .int .i64 k/\Below w1.heap.size w1 wr/\vZ T (l.drop j)=vZ T (l.drop (j+k))) (λi _=>(l.length-j)-(intOf i).toNat)
  case atStart=>exact⟨0,bD _,rfl,aQ _ _,rfl⟩
  case round =>
   obtain⟨k,hk,rfl,hb,hv⟩:=hrel;have nJ:=hd' hb;have HV:=hd' hv;have Bo:=hd' (H1.o'.world hb);have e0:=aM hb d0;clear hv;by_cases hlk:k<l.length-j
   ·have hjk:j+k<l.length:=by omega
    have e1:=aM hb (HA.o'.get (fw l (j+k) hjk));rw[iM]at e1;have HW:=hd' (yx Bo.o' l[j+k]);have HST:=hd' (Wv T l (j+k) hjk);obtain⟨x,hx⟩: ∃x,x=l[j+k]:=⟨_,rfl⟩;rw[<-hx]at e1 HW HST;have HSp:Hid (∀u,Calls prog 203 #[.int .i64 (aX T x),.string (bq T x)] u λe w'=>e= .returned (.bool (gJ (aX T x) (bq T x)))/\u=w'):=hd' (λu=>sF _ _ u);generalize aX T x=xs at *;generalize bq T x=xn at *;clear hb hx;cases hne:(xn.toList== []) <;>cases hsp:gJ xs xn
    all_goals
     rw[hne,hsp]at HST;rw[hsp]at HSp;go_wp2_with (first|(go_at_call 41;refine HW.o'.mono ?_;rintro e w2 ⟨v,rfl,_,hb2⟩;have HB2:=hd' (aK nJ.o' hb2);clear hb2)|(go_at_call 203;refine(HSp.o' _).mono ?_;rintro e w3 ⟨rfl,rfl⟩))
     first
      |(go_roundw
        case rel=>exact⟨k+1,by omega,by go_num,HB2.o',by rw[HV.o',HST.o'];rfl⟩
        case measure=>simp[intOf];omega)
      |(go_ret
        exact⟨iN (by rw[HP.o',HV.o',HST.o'];rfl),aK HB.o' HB2.o'⟩)
   ·obtain rfl:k=l.length-j:=by omega
    have HE:Hid (vZ T (l.drop (j+(l.length-j)))=0):=hd' (by rw[iZ (by omega)];rfl);clear hb;go_wp2_with fail
    go_ret;exact⟨iN (by rw[HP.o',HV.o',HE.o']),aK HB.o' nJ.o'⟩
 ·obtain rfl:j=l.length:=by omega
  have HE:Hid (vZ T (l.drop l.length)=0):=hd' (by rw[iZ (ay _)];rfl);have hz:((l.length-l.length:Nat):Int)=0:=by omega
  go_wp2_with (go_at_call 152;refine(HF.o' _ H1.o').mono ?_;rintro e w2 ⟨rfl,rfl⟩)
  all_goals
   go_loopw [26] (λi wr=>i= .int .i64 0/\wr=w1) (λi _=>0)
   case atStart=>exact⟨rfl,rfl⟩
   case round =>
    obtain⟨rfl,rfl⟩:=hrel;go_wp2_with fail
    go_ret;exact⟨iN (by rw[HP.o',HE.o']),HB.o'⟩
end
def JY (aF:List Int) (f keep:Int):Int:=if aT aF f<keep then keep-1 else keep
noncomputable def jE (T:aB) (l aF:List Int) (f b keep:Int):aB×List Int×List Int×Int :=
 if(dm T f).2.2=0 then((fe (kD (dm T f).1 b (dm T f).2.1).1 b 0 (dm T f).2.1).1,Co (vg l f) b (dm T f).2.1,qd (iX aF (aT aF f)) (JY aF f keep).toNat (dm T f).2.1,0)
 else((dm T f).1,l,aF,(dm T f).2.2)
section
variable {w0 w w':af} {B B' tb sb lb:Nat} {ex:Nat->Prop} {T T':aB} {l l' aF ent':List Int} {on on':Bool}
theorem ah5 {w2:af} {sa va:Option Addr} {sc vc n:Nat} {ge:Option Nat} (hls:vH w lb tb sb ge aF on) (hsi:SI w0 B tb sb (λk=>ex k\/SB lb ge k) T l w) (h3: ∀k,SB lb ge k->w0.heap.size<=k/\ ¬ex k) (hn:n<=1000000) (hln:ent'.length=n)
 (hrow:w2.heap[lb]?=some (.cells #[.pointer (some ⟨tb,0,none⟩),.pointer (some ⟨sb,0,none⟩),.slice sa aF.length sc,.bool on] 90 (0,0)))
 (hown:w2.ownsRow w.heap.size 3 1 (.slice va n vc) n (bB ent')) (hk:az (λk=>w.heap.size<=k) w w2) :
 LI w0 B tb sb lb ex T l ent' on (w2.setCell ⟨lb,2,none⟩ (.slice va n vc))/\az (Own w0 ex) w (w2.setCell ⟨lb,2,none⟩ (.slice va n vc)):=by
 have hlt:=hls.lt lb (.inl rfl);have hnew: ∀j,(Value.slice va n vc).ownBlock=some j->w.heap.size<=j:=λj hj=>(hown.lt j hj).1
 have hne:(Value.slice va n vc).ownBlock≠some lb:=λe=>by have:=hnew lb e;omega
 have hk':az (SB lb ge) w (w2.setCell ⟨lb,2,none⟩ (.slice va n vc)):=(hk.mono (λk hk h=>absurd h (by omega))).set (p:=⟨lb,2,none⟩) (.inl (.inl rfl)) _
 have hl:vH (w2.setCell ⟨lb,2,none⟩ (.slice va n vc)) lb tb sb (Value.slice va n vc).ownBlock ent' on:=by
  refine⟨.slice va n vc,mr (i:=2) hrow _,⟨?_,rfl⟩,hne⟩;rw[hln];exact gH (zB hown) λb hb=>eG _ _ _ _ (λe=>hne (hb.trans (aW some e)))
 exact LI.xE hsi h3 (by omega) hl hk' (λk hk=> .inr (hnew k hk))
theorem agn (h:LI w0 B tb sb lb ex T l aF on w) (f b keep:Int) (hl:l.length<1000000) (he:aF.length<1000000) (hk1:0<=JY aF f keep) (hk2:JY aF f keep<=(iX aF (aT aF f)).length) :
 Calls prog 225 #[.pointer (some ⟨lb,0,none⟩),.int .i64 f,.int .i64 b,.int .i64 keep] w λe w' =>
  e= .returned (.int .i64 (jE T l aF f b keep).2.2.2)/\LI w0 B tb sb lb ex (jE T l aF f b keep).1 (jE T l aF f b keep).2.1 (jE T l aF f b keep).2.2.1 on w'/\az (Own w0 ex) w w':=by
 obtain⟨sa,sc,c0,c1,_⟩:=h.cells;have HLk:=hd' (abd h f)
 have HC:Hid (jE T l aF f b keep=if(dm T f).2.2=0 then((fe (kD (dm T f).1 b (dm T f).2.1).1 b 0 (dm T f).2.1).1,Co (vg l f) b (dm T f).2.1,qd (iX aF (aT aF f)) (JY aF f keep).toNat (dm T f).2.1,0)
  else((dm T f).1,l,aF,(dm T f).2.2)):=hd' rfl
 have hat:=dC aF f;obtain⟨q1,q2,_,_⟩:=hat;have HK:Hid (JY aF f keep=if aT aF f<keep then keep-1 else keep):=hd' rfl;have HDl:=hd' (oG aF (aT aF f));have HRl:=hd' (show(vg l f).length<=l.length from oG l (aT l f));generalize dm T f=m at *;obtain⟨U,x,er⟩:=m;simp only at HLk HC;clear h;by_cases h0:er=0
 ·rw[au h0]at HC;subst h0;have HFi:Hid (∀ {U:aB} u,LI w0 B tb sb lb ex U l aF on u->Calls prog 201 #[.pointer (some ⟨lb,0,none⟩),.int .i64 f] u λe w'=>e= .returned (.int .i64 (aT aF f))/\u=w'):=hd' (λu hu=>GJ hu f);have Xa:Hid (∀ {U:aB} u,LI w0 B tb sb lb ex U l aF on u->Calls prog 200 #[.pointer (some ⟨lb,0,none⟩),.int .i64 (aT aF f)] u λe w'=>e= .returned (.tuple #[])/\LI w0 B tb sb lb ex U l (iX aF (aT aF f)) on w'/\az (Own w0 ex) u w'):=hd' (λu hu=>KD hu _ q2);generalize iX aF (aT aF f)=agb at *;generalize aT aF f=at0 at *;obtain⟨k,hk⟩:=bQ hk1;rw[hk]at hk2 HC HK;clear hk hk1;go_enter func225,ntmps225
  go_wp2_with (go_at_call 223;refine HLk.o'.mono ?_;rintro e w1 ⟨rfl,h1,k1⟩;obtain⟨_,_,d0,d1,_⟩:=h1.cells;have HMv:=hd' (ai9 h1 b x);have K1:=hd' k1;clear h1 k1)
  refine HMv.o'.mono ?_;rintro e w2 ⟨rfl,h2,k2⟩;obtain⟨_,_,d0,d1,_⟩:=h2.cells;have HPt:=hd' (N7 h2 b 0 x);have K2:=hd' (K1.o'.trans k2);generalize (kD U b x).1=U2 at *;clear h2 k2 K1 HMv;go_wp2_with fail
  refine HPt.o'.mono ?_;rintro e w3 ⟨rfl,h3,k3⟩;obtain⟨_,_,d0,d1,_⟩:=h3.cells;have H3:=hd' h3;have K3:=hd' (K2.o'.trans k3);generalize (fe U2 b 0 x).1=U3 at *;clear h3 k3 K2 HPt;go_wp2_with fail
  refine(HFi.o' _ H3.o').mono ?_;rintro e w3' ⟨rfl,rfl⟩;go_wp2_with fail
  refine(Xa.o' _ H3.o').mono ?_;rintro e w4 ⟨rfl,h4,k4⟩;have H4:=hd' h4;have K4:=hd' (K3.o'.trans k4);clear h4 k4 K3 H3 HFi Xa;go_upto_if 46 with fail
  go_cut [3]from 44 to 48 (λs3 wx=>s3= .int .i64 k/\wx=w4)
  case first =>
   by_cases hlt:at0<keep
   ·have hk3:keep-1=k:=by have:=HK.o';rw[au hlt]at this;omega
    have hw:IntKind.i64.wrap (keep-1)=keep-1:=by
     have:=HDl.o';rw[qG];omega
    have Qx:=hd' hk3;clear hk3;go_wp2_with fail
    go_meet
    exact⟨by rw[Qx.o'],rfl⟩
   ·have hk3:keep=k:=by have:=HK.o';rw[aj hlt]at this;omega
    have Qx:=hd' hk3;clear hk3;go_wp2_with fail
    go_meet
    exact⟨by rw[Qx.o'],rfl⟩
  case rest =>
  obtain⟨rfl,hwc⟩:=hcut;subst hwc;have ze:=hd' (aje H4.o');obtain⟨ge,hls,hsi,hsb,hel⟩:=H4.o';have HLS:=hd' hls;have HSI:=hd' hsi;have aqX:=hd' hsb;have Sc:=hls.lt lb (.inl rfl);have hk5:k<=agb.length:=by omega
  obtain⟨_,_,d0,d1,_⟩:=H4.o'.cells;clear hls hsi hsb;go_wp2_with (go_at_call 215;refine ze.o'.mono ?_;rintro e w6 ⟨v,rfl,ho,hb⟩;obtain⟨va,vc,rfl,_,_⟩:=oz ho;have HO:=hd' ho;have HB:=hd' hb;clear ho hb)
  have ho1:=own_below HO.o' ((aQ w6.heap.size w6).alloc (ay _) (.cells #[.int .i64 x] 3));have hb1:=HB.o'.alloc HB.o'.size (.cells #[.int .i64 x] 3);have hvb:=eU w6 (.cells #[.int .i64 x] 3);have hsz:(w6.alloc (.cells #[.int .i64 x] 3)).heap.size=w6.heap.size+1:=by simp
  have hs1:=HB.o'.size;have HI:=hd' (aaL (w6.alloc (.cells #[.int .i64 x] 3)) wc.heap.size va vc k agb x w6.heap.size ho1 hk5 (by omega) (by omega) hvb (λj hj=>(by have:=(HO.o'.lt j hj).2;omega)));have HOB:=hd' (λj hj=>(HO.o'.lt j hj).1);have HB1:=hd' hb1;clear ho1 hb1 hvb;go_wp2_with (go_at_call 229;refine HI.o'.mono ?_;rintro e w7 ⟨v',rfl,ho2,hk2,hv2⟩;obtain⟨va2,vc2,hv',_,_⟩:=oz ho2;subst hv';have hS1:=HLS.o'.below HB1.o';have hS2:=hS1.kept hk2 (λj hj e=>(by have:=HLS.o'.lt j hj;have:=HOB.o' j e;omega));obtain⟨sa7,sc7,e0,e1,_,_,_,_,f2,_,hrow2,_,hne⟩:=hS2.cells;have c2:=lF w7 lb 2 _ _ _ hrow2;have HKK:=hd' (AA (az.bC (F:=λi=>wc.heap.size<=i) HB1.o') hk2 (λi hi=> .inl (HOB.o' i hi)));have OJ:=hd' ho2;have HR2:=hd' hrow2;clear ho2 hk2 hrow2 hS1 hS2 hv2)
  have avb:agb.length<1000000:=by have:=HDl.o';omega
  obtain⟨h8,k8⟩:=ah5 (ent':=qd agb k x) HLS.o' HSI.o' aqX.o' (by omega) (Dr agb k x hk5) HR2.o' OJ.o' HKK.o';have K8:=hd' (K4.o'.trans k8);refine(Bf h8 f).mono ?_;rintro e w9 ⟨rfl,h9,k9⟩;obtain⟨_,_,d0,d1,_⟩:=h9.cells;have hrl:(vg l f).length<1000000:=by have:=HRl.o';omega
  have Ty:=hd' (ZE h9 b x hrl);have K9:=hd' (K8.o'.trans k9);clear h8 k8 h9 k9;go_wp2_with fail
  refine Ty.o'.mono ?_;rintro e w10 ⟨rfl,h10,k10⟩;have H10:=hd' h10;have K10:=hd' (K9.o'.trans k10);clear h10 k10;go_wp2_with fail
  go_ret;rw[HC.o'];exact⟨rfl,H10.o',K10.o'⟩
 ·rw[aj h0]at HC;have he':(er==0)=false:=by simpa using h0
  go_enter func225,ntmps225
  go_wp2_with (go_at_call 223;refine HLk.o'.mono ?_;rintro e w1 ⟨rfl,h1,k1⟩;have H1:=hd' h1;have K1:=hd' k1;clear h1 k1)
  go_ret;rw[HC.o'];exact⟨rfl,H1.o',K1.o'⟩
end
end Go.Proofs.YtnlbcifhedjbfaaGreatDoor
end
section
namespace Go.Proofs.YtnlbcifhedjbfaaGreatDoor
open Go.RowKit Mem
structure TS where
 T:aB
 l:List Int
 aF:List Int
 keep:Int
 last:Int
noncomputable def eB (b:Int):List Int->Nat->TS->TS×Int
 | [],_,S=>(S,0)
 |x::r,c,S =>
  if 0<=aT S.aF x then
   if 3<c then eB b r (c+1) {S with aF:=iX S.aF (aT S.aF x),keep:=if aT S.aF x<S.keep then S.keep-1 else S.keep,l:=vg S.l x}
   else if(dm S.T x).2.2=0 then
    eB b r (c+1) ⟨(fe (dm S.T x).1 (dm S.T x).2.1 0 S.last).1,oO S.l x (dm S.T x).2.1,S.aF.set (aT S.aF x).toNat (dm S.T x).2.1,if S.last=b then aT S.aF x+1 else S.keep,(dm S.T x).2.1⟩
   else({S with T:=(dm S.T x).1},(dm S.T x).2.2)
  else eB b r (c+1) {S with l:=vg S.l x}
def df (l:List Int) (f b:Int):List Int:=(l.take (aT l b).toNat).drop ((aT l f).toNat+1)
def nX (l:List Int) (f:Int):Int:=if 0<aT l f then l.getD ((aT l f).toNat-1) 0 else 0
noncomputable def gN (T:aB) (l aF:List Int) (on:Bool) (f b:Int):aB×List Int×List Int×Int :=
 let q:=eB b (df l f b).reverse 1 ⟨T,l,aF,aT aF f,b⟩
 if q.2=0 then
  let p:=if nX l f≠0 then aZ q.1.T q.1.l on (nX l f)else(0,0)
  jE (fe q.1.T p.1 p.2 q.1.last).1 q.1.l q.1.aF f b q.1.keep
 else(q.1.T,q.1.l,q.1.aF,q.2)
theorem Ww (l:List Int) (f b:Int) (h:aT l f<aT l b) (h0:0<=aT l f):((aT l f+1:Int)+(df l f b).length=aT l b):=by
 have h1:=dC l b;rw[df,dN,fV];omega
theorem Ke (l:List Int) (f b:Int) (k:Nat) (h:k<(df l f b).length): ∃h':(aT l f).toNat+1+k<l.length,(df l f b)[k]=l[(aT l f).toNat+1+k]:=by
 have h2:=h;rw[df,dN,fV]at h2;refine⟨by omega,?_⟩;simp only[df,List.getElem_drop,List.getElem_take]
theorem Zp (l:List Int) (f b:Int) (k:Nat) (h:k<(df l f b).length):(df l f b)[k]≠f:=by
 obtain⟨h',e⟩:=Ke l f b k h;rw[e];exact(dC l f).2.2.1 _ h' (by have:=(dC l f).1;omega)
theorem aen {α:Type} (B:List α) (k:Nat) (h:k<B.length):(B.take (k+1)).reverse=B[k]::(B.take k).reverse:=by
 rw[jL h];simp
theorem I1 {l:List Int} {n:Int}:0<=aT l n↔n∈l:=by
 obtain⟨h1,h2,h3,h4⟩:=dC l n;constructor
 ·intro h;have hk:aT l n=((aT l n).toNat:Int):=by omega
  have hlt:(aT l n).toNat<l.length:=by omega
  rw[<-h4 _ hlt hk];exact kH _
 ·intro h;obtain⟨i,hi,rfl⟩:=pR h;rcases mZ (aT l l[i]) 0 with h|h
  ·exact absurd rfl (h3 i hi (by omega))
  ·exact h
theorem ae8 {l:List Int} {x f:Int} (hf:f∈l) (hx:x≠f):f∈iX l (aT l x):=by
 unfold iX;split
 ·rename_i h;obtain⟨i,hi,rfl⟩:=pR hf;obtain⟨h1,h2,h3,h4⟩:=dC l x
  have hne:i≠(aT l x).toNat:=by
   intro e;exact hx ((h4 i hi (by omega)).symm)
  rw[List.mem_eraseIdx_iff_getElem];exact⟨i,hi,hne,rfl⟩
 ·exact hf
theorem mem_set {l:List Int} {x f n:Int} (hf:f∈l) (hx:x≠f) (h0:0<=aT l x):f∈l.set (aT l x).toNat n:=by
 obtain⟨i,hi,rfl⟩:=pR hf;obtain⟨h1,h2,h3,h4⟩:=dC l x
 have hne:(aT l x).toNat≠i:=by
  intro e;exact hx ((h4 i hi (by omega)).symm)
 have:(l.set (aT l x).toNat n)[i]'(by simpa using hi)=l[i]:=by rw[List.getElem_set_ne hne]
 rw[<-this];exact kH _
theorem afw {aF:List Int} {f keep:Int} (hf:f∈aF) (h1:0<=keep) (h2:keep<=aF.length):0<=JY aF f keep/\JY aF f keep<=(iX aF (aT aF f)).length:=by
 have h0:=I1.2 hf;have hs:=dC aF f
 have hl:((iX aF (aT aF f)).length:Int)=aF.length-1:=by
  rw[iX,au h0,Iu,au (by omega)];omega
 unfold JY;split <;>omega
section
variable {w0 w w':af} {B B' tb sb lb:Nat} {ex:Nat->Prop} {T T':aB} {l l' aF ent':List Int} {on on':Bool}
theorem LI.set (h:LI w0 B tb sb lb ex T l aF on w) (k:Nat) (hk:k<aF.length): ∃g c,w.cell? ⟨lb,0,none⟩=some (.pointer (some ⟨tb,0,none⟩))/\w.cell? ⟨lb,1,none⟩=some (.pointer (some ⟨sb,0,none⟩))/\w.cell? ⟨lb,2,none⟩=some (.slice (some ⟨g,0,none⟩) aF.length c)/\aF.length<=c/\c<=maxLen/\w.cell? ⟨g,k,none⟩=some (.int .i64 aF[k])/\w.frozen? ⟨g,k,none⟩=false/\g≠lb /\
 ∀n,LI w0 B tb sb lb ex T l (aF.set k n) on (w.setCell ⟨g,k,none⟩ (.int .i64 n))/\az (Own w0 ex) w (w.setCell ⟨g,k,none⟩ (.int .i64 n)):=by
 obtain⟨ge,h1,h2,h3,h4⟩:=h;obtain⟨a,c,c0,c1,c2,c3,hA,ho,_,_,hrow,_,hne⟩:=h1.cells;obtain⟨g,c',he,_,hc1,hc2⟩:=qW ho.1 (by omega);injection he with e1 _ e3;subst e1 e3;have hgs:ge=some g:=ho.2.symm;refine⟨g,c,c0,c1,c2,hc1,hc2,(jh ho.1).cell (fw aF k hk),ho.1.frozenAt _,(by rintro rfl;exact hne hgs),λn=> ?_⟩;have hne1:lb≠g:=by rintro rfl;exact hne hgs
 have hl:vH (w.setCell ⟨g,k,none⟩ (.int .i64 n)) lb tb sb ge (aF.set k n) on:=by
  refine⟨.slice (some ⟨g,0,none⟩) aF.length c,(eG _ _ _ _ hne1).trans hrow,⟨?_,hgs.symm⟩,hne⟩;rw[nR];exact ME ho.1 k n
 exact LI.xE h2 h3 (by rw[nR];exact h4) hl ((az.refl _ _).set (p:=⟨g,k,none⟩) (.inl (.inr hgs)) _) (λk hk=> .inl hk)
end
section
variable {w0 w w':af} {B B' tb sb lb:Nat} {ex:Nat->Prop} {T T':aB} {l l' aF ent':List Int} {on on':Bool}
theorem LI.less {ex':Nat->Prop} (h:LI w0 B tb sb lb ex T l aF on w) (he: ∀k,ex' k->ex k):LI w0 B tb sb lb ex' T l aF on w :=
 h.dE (F:=λ_=>False) (az.refl _ _) (λ_ h=>h.elim) λk hk=>⟨.inl (he k hk),h.Bu k (he k hk)⟩
theorem ahu (h:LI w0 B tb sb lb ex T l aF on w) (f b:Int) (hl:l.length<1000000) (he:aF.length<1000000) (hf:f∈aF) (h0:0<=aT l f) (hfb:aT l f<aT l b) :
 Calls prog 214 #[.pointer (some ⟨lb,0,none⟩),.int .i64 f,.int .i64 b] w λe w' =>
  e= .returned (.int .i64 (gN T l aF on f b).2.2.2)/\LI w0 B tb sb lb ex (gN T l aF on f b).1 (gN T l aF on f b).2.1 (gN T l aF on f b).2.2.1 on w'/\az (Own w0 ex) w w':=by
 obtain⟨sa,sc,c0,c1,_⟩:=h.cells;have HL:=hd' h;have ze:=hd' (KI h);have hbl:=Ww l f b hfb h0;obtain⟨i,hi⟩:=bQ h0;obtain⟨Bt,hB⟩: ∃Bt,Bt=df l f b:=⟨_,rfl⟩;have HG:=hd' (λk (hk:k<(df l f b).length)=>Ke l f b k hk);have Kr:=hd' (λk (hk:k<(df l f b).length)=>Zp l f b k hk)
 have HT:Hid (gN T l aF on f b=if(eB b (df l f b).reverse 1 ⟨T,l,aF,aT aF f,b⟩).2=0 then
  jE (fe (eB b (df l f b).reverse 1 ⟨T,l,aF,aT aF f,b⟩).1.T (if nX l f≠0 then aZ (eB b (df l f b).reverse 1 ⟨T,l,aF,aT aF f,b⟩).1.T (eB b (df l f b).reverse 1 ⟨T,l,aF,aT aF f,b⟩).1.l on (nX l f)else(0,0)).1 (if nX l f≠0 then aZ (eB b (df l f b).reverse 1 ⟨T,l,aF,aT aF f,b⟩).1.T (eB b (df l f b).reverse 1 ⟨T,l,aF,aT aF f,b⟩).1.l on (nX l f)else(0,0)).2 (eB b (df l f b).reverse 1 ⟨T,l,aF,aT aF f,b⟩).1.last).1 (eB b (df l f b).reverse 1 ⟨T,l,aF,aT aF f,b⟩).1.l (eB b (df l f b).reverse 1 ⟨T,l,aF,aT aF f,b⟩).1.aF f b (eB b (df l f b).reverse 1 ⟨T,l,aF,aT aF f,b⟩).1.keep
  else((eB b (df l f b).reverse 1 ⟨T,l,aF,aT aF f,b⟩).1.T,(eB b (df l f b).reverse 1 ⟨T,l,aF,aT aF f,b⟩).1.l,(eB b (df l f b).reverse 1 ⟨T,l,aF,aT aF f,b⟩).1.aF,(eB b (df l f b).reverse 1 ⟨T,l,aF,aT aF f,b⟩).2)):=hd' rfl
 rw[<-hB]at HG Kr HT hbl
 have HU:Hid (nX l f=if 0<i then l.getD (i-1) 0 else 0):=hd' (by
  rw[nX,hi];have:(0:Int)<(i:Int)↔0<i:=by omega
  simp only[this]
  rfl)
 have hFf: ∀u,LI w0 B tb sb lb ex T l aF on u->Calls prog 152 #[.pointer (some ⟨sb,0,none⟩),.int .i64 f] u λe w'=>e= .returned (.int .i64 i)/\u=w':=λu hu=>by
  have:=CO hu f;rw[hi]at this;exact this
 have hFb: ∀u,LI w0 B tb sb lb ex T l aF on u->Calls prog 152 #[.pointer (some ⟨sb,0,none⟩),.int .i64 b] u λe w'=>e= .returned (.int .i64 ((i:Int)+1+Bt.length))/\u=w':=λu hu=>by
  have:=CO hu b;rw[<-hbl,hi]at this;exact this
 have HFf:=hd' hFf;have HFb:=hd' hFb;have HFe:=hd' (λu (hu:LI w0 B tb sb lb ex T l aF on u)=>GJ hu f);have hkeep:=I1.2 hf;have hkl:=(dC aF f).2.1
 have hil:i+1+Bt.length<l.length:=by
  have:=(dC l b).2.1;omega
 rw[hi]at HG;rw[show((i:Int)).toNat=i from rfl]at HG;have HF:=hd' hf;clear h hB hFf hFb hbl hi h0 hfb hf;generalize nX l f=un at *;go_enter func214,ntmps214
 go_upto_if 32 with(first|(go_at_call 97;refine ze.o'.mono ?_;rintro e w1 ⟨v,rfl,ho,hb⟩;obtain⟨g1,m1,rfl,_,hm1,hm2⟩:=qW ho (by omega);have HA:=hd' (jh ho).at;have HG1:=hd' (ho.lt g1 rfl);have HB:=hd' hb;have H1:=hd' (HL.o'.world hb);have d0:=aM hb c0;have d1:=aM hb c1;clear hb ho)|(go_at_call_of 152 (Value.int .i64 f);refine(HFf.o' _ H1.o').mono ?_;rintro e w2 ⟨rfl,rfl⟩))
 unfold maxLen at hm2;go_cut [9]from 31 to 37 (λs9 wx=>s9= .int .i64 un/\wx=w1)
 case first =>
  by_cases hi0:0<i
  ·obtain⟨j,rfl⟩: ∃j,i=j+1:=⟨i-1,by omega⟩;have hjl:j<l.length:=by omega
   have hx:=HA.o'.get (fw l j hjl);rw[iM]at hx
   have hU:un=l[j]:=by
    rw[HU.o',au hi0];simp[List.getD,mi hjl]
   have HU2:=hd' hU;clear hU;go_wp2_with fail
   go_meet
   exact⟨aW _ HU2.o'.symm,rfl⟩
  ·have hU:un=0:=by rw[HU.o',aj hi0]
   have HU2:=hd' hU;obtain rfl:i=0:=by omega
   clear hU;go_wp2_with fail
   go_meet
   exact⟨aW _ HU2.o'.symm,rfl⟩
 case rest =>
 obtain⟨rfl,hwc⟩:=hcut;subst hwc;obtain⟨ex',hex⟩: ∃e:Nat->Prop,e=λk=>ex k\/k=g1:=⟨_,rfl⟩
 have hL1:LI w0 B tb sb lb ex' T l aF on wc:=HL.o'.dE (F:=λ_=>False) (az.bC HB.o') (λ_ h=>h.elim) (λk hk=>by
  rw[hex]at hk;rcases hk with hk|hk
  ·exact⟨.inl hk,fA (HL.o'.Bu k hk) HB.o'.size⟩
  ·rw[hk];exact⟨.inr HG1.o'.1,HG1.o'.2⟩)
 have HL1:=hd' hL1
 have HA1:Hid (rX (Own w0 ex') wc (some ⟨g1,0,none⟩) (bB l)):=hd' (rX.yS HA.o' (λb o s hb=>by
  cases hb
  exact λhx=>hx.2 (by rw[hex];exact .inr rfl)))
 have HEX:Hid (∀k,ex k->ex' k):=hd' (λk hk=>by rw[hex];exact .inl hk);clear hL1 hex HA HL HU ze;generalize aT aF f=kp0 at *;go_wp2_with (first|(go_at_call 201;refine(HFe.o' _ H1.o').mono ?_;rintro e w2 ⟨rfl,rfl⟩)|(go_at_call 152;refine(HFb.o' _ H1.o').mono ?_;rintro e w2 ⟨rfl,rfl⟩))
 go_loopw [10,11,12,13] (λs10 s11 s12 s13 wr=> ∃(k c:Nat) (S:TS),k<=Bt.length/\s12= .int .i64 ((i:Int)+k)/\s13= .int .i64 c/\c+k=Bt.length+1/\s10= .int .i64 S.keep/\s11= .int .i64 S.last /\
  Hid (LI w0 B tb sb lb ex' S.T S.l S.aF on wr)/\Hid (az (Own w0 ex') wc wr)/\Hid (eB b Bt.reverse 1 ⟨T,l,aF,kp0,b⟩=eB b (Bt.take k).reverse c S)/\Hid (S.l.length<=l.length/\S.aF.length<=aF.length/\f∈S.aF/\0<=S.keep/\S.keep<=S.aF.length)) (λ_ _ s12 _ _=>(intOf s12-i).toNat)
 case atStart=>exact⟨Bt.length,1,⟨T,l,aF,kp0,b⟩,ay _,by go_num,rfl,by omega,rfl,rfl,HL1,hd' (az.refl _ _),hd' (by rw[iH (ay _)]),hd' ⟨ay _,ay _,HF.o',hkeep,Int.le_of_lt hkl⟩⟩
 case round =>
  obtain⟨k,c,S,hk,rfl,rfl,hck,rfl,rfl,Bo,DU,HV,HS⟩:=hrel;obtain⟨T1,l1,e1,kp,la⟩:=S;simp only at Bo HV HS |-;obtain⟨_,_,e0,ec1,_⟩:=Bo.o'.cells;cases k with
  |zero =>
   have hq:eB b Bt.reverse 1 ⟨T,l,aF,kp0,b⟩=(⟨T1,l1,e1,kp,la⟩,0):=HV.o';obtain⟨p,hp⟩: ∃p:Int×Int,p=if un≠0 then aZ T1 l1 on un else(0,0):=⟨_,rfl⟩
   have HT2:Hid (gN T l aF on f b=jE (fe T1 p.1 p.2 la).1 l1 e1 f b kp):=hd' (by
    rw[HT.o',hq,hp]
    rfl)
   have hok:=afw HS.o'.2.2.1 HS.o'.2.2.2.1 HS.o'.2.2.2.2;have hl1:l1.length<1000000:=by have:=HS.o'.1;omega
   have he1:e1.length<1000000:=by have:=HS.o'.2.1;omega
   have aji:Hid (∀u,LI w0 B tb sb lb ex' T1 l1 e1 on u->Calls prog 147 #[.pointer (some ⟨tb,0,none⟩),.int .i64 p.1,.int .i64 p.2,.int .i64 la] u λe w'=>e= .returned (.int .i64 (fe T1 p.1 p.2 la).2)/\LI w0 B tb sb lb ex' (fe T1 p.1 p.2 la).1 l1 e1 on w'/\az (Own w0 ex') u w'):=hd' (λu hu=>N7 hu _ _ _)
   have HCl:Hid (∀u,LI w0 B tb sb lb ex' (fe T1 p.1 p.2 la).1 l1 e1 on u->Calls prog 225 #[.pointer (some ⟨lb,0,none⟩),.int .i64 f,.int .i64 b,.int .i64 kp] u λe w' =>
    e= .returned (.int .i64 (jE (fe T1 p.1 p.2 la).1 l1 e1 f b kp).2.2.2)/\LI w0 B tb sb lb ex' (jE (fe T1 p.1 p.2 la).1 l1 e1 f b kp).1 (jE (fe T1 p.1 p.2 la).1 l1 e1 f b kp).2.1 (jE (fe T1 p.1 p.2 la).1 l1 e1 f b kp).2.2.1 on w'/\az (Own w0 ex') u w'):=hd' (λu hu=>agn hu f b kp hl1 he1 hok.1 hok.2)
   generalize fe T1 p.1 p.2 la=PT at *;clear hq HT hok;by_cases hun:un=0
   ·rw[aj (by simpa using hun)]at hp;subst hp;subst hun;go_wp2_with fail
    refine(aji.o' _ Bo.o').mono ?_;rintro e w4 ⟨rfl,h4,k4⟩;have K4:=hd' (DU.o'.trans k4);have H4:=hd' h4;clear h4 k4;go_wp2_with fail
    refine(HCl.o' _ H4.o').mono ?_;rintro e w5 ⟨rfl,h5,k5⟩;have K5:=hd' (K4.o'.trans k5);have H5:=hd' h5;clear h5 k5;go_wp2_with fail
    go_ret;rw[HT2.o'];exact⟨rfl,H5.o'.less HEX.o',(az.bC HB.o').trans (K5.o'.mono λ_ _ hx=>⟨hx.1,λhy=>hx.2 (HEX.o' _ hy)⟩)⟩
   ·rw[au hun]at hp;have hun':(un==0)=false:=by simpa using hun
    have HPl:=hd' (N8 Bo.o' un);rw[<-hp]at HPl;clear hp hun;obtain⟨p1,p2⟩:=p;go_wp2_with fail
    refine HPl.o'.mono ?_;rintro e w3 ⟨rfl,hb3⟩;have ark:=hd' (DU.o'.trans (az.bC hb3));have ari:=hd' (Bo.o'.world hb3);clear Bo DU hb3 e0 ec1;have Bo:=ari;have DU:=ark;obtain⟨_,_,e0,ec1,_⟩:=Bo.o'.cells;go_wp2_with fail
    refine(aji.o' _ Bo.o').mono ?_;rintro e w4 ⟨rfl,h4,k4⟩;have K4:=hd' (DU.o'.trans k4);have H4:=hd' h4;clear h4 k4;go_wp2_with fail
    refine(HCl.o' _ H4.o').mono ?_;rintro e w5 ⟨rfl,h5,k5⟩;have K5:=hd' (K4.o'.trans k5);have H5:=hd' h5;clear h5 k5;go_wp2_with fail
    go_ret;rw[HT2.o'];exact⟨rfl,H5.o'.less HEX.o',(az.bC HB.o').trans (K5.o'.mono λ_ _ hx=>⟨hx.1,λhy=>hx.2 (HEX.o' _ hy)⟩)⟩
  |succ k =>
   have hkB:k<Bt.length:=by omega
   obtain⟨hm,hBk⟩:=HG.o' k hkB;have hne:=Kr.o' k hkB;have hcell:=(HA1.o'.kept DU.o').at.get (fw l (i+1+k) hm);obtain⟨m,hmm⟩: ∃m,m=i+1+k:=⟨_,rfl⟩;have HRV:Hid (eB b Bt.reverse 1 ⟨T,l,aF,kp0,b⟩=eB b (Bt[k]::(Bt.take k).reverse) c ⟨T1,l1,e1,kp,la⟩):=hd' (by rw[<-aen];exact HV.o');rw[hBk]at hne HRV;obtain⟨x,hx⟩: ∃x,x=l[i+1+k]:=⟨_,rfl⟩;rw[<-hx]at hne HRV hcell;rw[<-hmm,iM]at hcell;have hidx:((i:Int)+((k+1:Nat):Int))=((m:Nat):Int):=by omega
   rw[hidx];have hml:m<l.length:=by omega
   have him:(i:Int)<(m:Int):=by omega
   have hw1:IntKind.i64.wrap ((m:Int)-1)=(m:Int)-1:=by rw[qG];omega
   have hc1:c<=1000001:=by omega
   have HFx:=hd' (GJ Bo.o' x);obtain⟨a1,a2,_,_⟩:=dC e1 x;have HM:=hd' hmm;have HNx:=hd' hne;have hel:e1.length<1000000:=by have:=HS.o'.2.1;omega
   have hll:l1.length<1000000:=by have:=HS.o'.1;omega
   clear hBk hx HV hmm hidx hne hm;by_cases h0:0<=aT e1 x
   ·by_cases h3:3<c
    ·have Xa:=hd' (KD Bo.o' (aT e1 x) a2);have HR2:Hid (eB b Bt.reverse 1 ⟨T,l,aF,kp0,b⟩=eB b (Bt.take k).reverse (c+1) ⟨T1,vg l1 x,iX e1 (aT e1 x),if aT e1 x<kp then kp-1 else kp,la⟩):=hd' (by rw[HRV.o',eB,au h0,au h3]);have HRl:=hd' (show(vg l1 x).length<=l1.length from oG l1 (aT l1 x))
     have HDl:Hid (((iX e1 (aT e1 x)).length:Int)=e1.length-1):=hd' (by
      rw[iX,au h0,Iu,au (by omega)]
      omega)
     have HMD:=hd' (ae8 HS.o'.2.2.1 HNx.o');have hs4:=HS.o'.2.2.2;have hw2:IntKind.i64.wrap (kp-1)=kp-1:=by rw[qG];omega
     generalize iX e1 (aT e1 x)=e2 at *;generalize aT e1 x=at0 at *;have HH0:=hd' hs4;clear HRV hs4;by_cases hk3:at0<kp
     all_goals
      first
       |rw[au hk3]at HR2
       |rw[aj hk3]at HR2
      go_wp2_with (first|(go_at_call 201;refine HFx.o'.mono ?_;rintro e w2 ⟨rfl,rfl⟩)|(go_at_call 200;refine Xa.o'.mono ?_;rintro e w3 ⟨rfl,h3',k3⟩;obtain⟨_,_,e0',avG,_⟩:=h3'.cells;have H3:=hd' h3';have K3:=hd' (DU.o'.trans k3);clear h3' k3))
      refine(Bf H3.o' x).mono ?_;rintro e w4 ⟨rfl,h4,k4⟩;have H4:=hd' h4;have K4:=hd' (K3.o'.trans k4);clear h4 k4;go_wp2_with fail
      go_roundw
      case rel =>
       refine⟨k,c+1,_,by omega,aW (Value.int .i64) (by have:=HM.o';omega),by go_num,by omega,?_,?_,?_,K4,HR2,?_⟩
       ·rfl
       ·rfl
       ·exact H4
       ·refine hd' ⟨bY HRl.o' HS.o'.1,?_,HMD.o',?_,?_⟩
        ·have:=HDl.o';have:=HS.o'.2.1;show e2.length<=_;omega
        ·have:=HH0.o';dsimp only;omega
        ·have:=HH0.o';have:=HDl.o';dsimp only;omega
      case measure=>simp[intOf];omega
    ·have HLk:=hd' (abd Bo.o' x)
     have HRC:Hid (eB b Bt.reverse 1 ⟨T,l,aF,kp0,b⟩=if(dm T1 x).2.2=0 then
      eB b (Bt.take k).reverse (c+1) ⟨(fe (dm T1 x).1 (dm T1 x).2.1 0 la).1,oO l1 x (dm T1 x).2.1,e1.set (aT e1 x).toNat (dm T1 x).2.1,if la=b then aT e1 x+1 else kp,(dm T1 x).2.1⟩
      else(⟨(dm T1 x).1,l1,e1,kp,la⟩,(dm T1 x).2.2)):=hd' (by rw[HRV.o',eB,au h0,aj h3])
     have HMS:=hd' (λn=>mem_set (n:=n) HS.o'.2.2.1 HNx.o' h0);generalize dm T1 x=q at *;obtain⟨T2,n,er⟩:=q;simp only at HLk HRC;obtain⟨j,hj⟩:=bQ h0;rw[hj]at HFx HRC HMS a2;rw[show((j:Int)).toNat=j from rfl]at HRC HMS;have hje:j<e1.length:=by omega
     clear HRV hj h0 a1;have h3c:(c:Int)<=3:=by omega
     by_cases her:er=0
     ·rw[au her]at HRC;subst her
      have hls:(oO l1 x n).length=l1.length:=by
       unfold oO;split
       ·rw[nR]
       ·rfl
      have HLS:=hd' hls;clear hls;by_cases hlb:la=b
      all_goals
       first
        |rw[au hlb]at HRC
        |rw[aj hlb]at HRC
       go_wp2_with (first|(go_at_call 201;refine HFx.o'.mono ?_;rintro e w2 ⟨rfl,rfl⟩)|(go_at_call 223;refine HLk.o'.mono ?_;rintro e w3 ⟨rfl,h3',k3⟩;obtain⟨g3,c3,z0,z1,z2,zc,zm,zx,zf,zne,hset⟩:=h3'.set j hje;obtain⟨_,_,y0,y1,_⟩:=(hset n).1.cells;have H4:=hd' (hset n).1;have K4:=hd' ((DU.o'.trans k3).trans (hset n).2);unfold maxLen at zm;clear h3' k3 hset))
      ·skip;refine(WR H4.o' x n).mono ?_;rintro e w5 ⟨rfl,h5,k5⟩;obtain⟨_,_,v0,v1,_⟩:=h5.cells;have H5:=hd' h5;have K5:=hd' (K4.o'.trans k5);subst hlb;clear h5 k5;go_wp2_with fail
       refine(N7 H5.o' n 0 la).mono ?_;rintro e w6 ⟨rfl,h6,k6⟩;have H6:=hd' h6;have K6:=hd' (K5.o'.trans k6);clear h6 k6;go_wp2_with fail
       go_roundw
       case rel =>
        refine⟨k,c+1,_,by omega,aW (Value.int .i64) (by have:=HM.o';omega),by go_num,by omega,?_,?_,?_,K6,HRC,?_⟩
        ·rfl
        ·rfl
        ·exact H6
        ·refine hd' ⟨?_,?_,HMS.o' n,?_,?_⟩
         ·have:=HLS.o';have:=HS.o'.1;dsimp only;omega
         ·have:=HS.o'.2.1;dsimp only;rw[nR];exact this
         ·have:=HS.o'.2.2.2;dsimp only at this |-;omega
         ·have:=HS.o'.2.2.2;dsimp only at this |-;rw[nR];omega
       case measure=>simp[intOf];omega
      ·skip;refine(WR H4.o' x n).mono ?_;rintro e w5 ⟨rfl,h5,k5⟩;obtain⟨_,_,v0,v1,_⟩:=h5.cells;have H5:=hd' h5;have K5:=hd' (K4.o'.trans k5);have amP:(la==b)=false:=by simpa using hlb
       clear h5 k5;go_wp2_with fail
       refine(N7 H5.o' n 0 la).mono ?_;rintro e w6 ⟨rfl,h6,k6⟩;have H6:=hd' h6;have K6:=hd' (K5.o'.trans k6);clear h6 k6;go_wp2_with fail
       go_roundw
       case rel =>
        refine⟨k,c+1,_,by omega,aW (Value.int .i64) (by have:=HM.o';omega),by go_num,by omega,?_,?_,?_,K6,HRC,?_⟩
        ·rfl
        ·rfl
        ·exact H6
        ·refine hd' ⟨?_,?_,HMS.o' n,?_,?_⟩
         ·have:=HLS.o';have:=HS.o'.1;dsimp only;omega
         ·have:=HS.o'.2.1;dsimp only;rw[nR];exact this
         ·have:=HS.o'.2.2.2;dsimp only at this |-;omega
         ·have:=HS.o'.2.2.2;dsimp only at this |-;rw[nR];omega
       case measure=>simp[intOf];omega
     ·rw[aj her]at HRC;have apO:(er==0)=false:=by simpa using her
      have HT2:Hid (gN T l aF on f b=(T2,l1,e1,er)):=hd' (by rw[HT.o',HRC.o',aj her]);clear HT HRC her;go_wp2_with (first|(go_at_call 201;refine HFx.o'.mono ?_;rintro e w2 ⟨rfl,rfl⟩)|(go_at_call 223;refine HLk.o'.mono ?_;rintro e w3 ⟨rfl,h3',k3⟩;have H3:=hd' h3';have K3:=hd' (DU.o'.trans k3);clear h3' k3))
      go_ret;rw[HT2.o'];exact⟨rfl,H3.o'.less HEX.o',(az.bC HB.o').trans (K3.o'.mono λ_ _ hx=>⟨hx.1,λhy=>hx.2 (HEX.o' _ hy)⟩)⟩
   ·have h1:aT e1 x= -1:=by omega
    have HR2:Hid (eB b Bt.reverse 1 ⟨T,l,aF,kp0,b⟩=eB b (Bt.take k).reverse (c+1) ⟨T1,vg l1 x,e1,kp,la⟩):=hd' (by rw[HRV.o',eB,aj h0]);rw[h1]at HFx;have HRl:=hd' (show(vg l1 x).length<=l1.length from oG l1 (aT l1 x));clear HRV h0 h1;go_wp2_with (go_at_call 201;refine HFx.o'.mono ?_;rintro e w2 ⟨rfl,rfl⟩)
    refine(Bf Bo.o' x).mono ?_;rintro e w3 ⟨rfl,h3,k3⟩;have H3:=hd' h3;have K3:=hd' (DU.o'.trans k3);clear h3 k3;go_wp2_with fail
    go_roundw
    case rel=>exact⟨k,c+1,⟨T1,vg l1 x,e1,kp,la⟩,by omega,aW (Value.int .i64) (by have:=HM.o';omega),by go_num,by omega,rfl,rfl,H3,K3,HR2,hd' ⟨bY HRl.o' HS.o'.1,HS.o'.2⟩⟩
    case measure=>simp[intOf];omega
end
structure AS where
 T:aB
 l:List Int
 aF:List Int
noncomputable def jF (on:Bool) (ah:ae):Nat->Nat->AS->AS×Bool×Int
 |0,_,S=>(S,true,0)
 |r+1,t,S =>
  if findF S.T S.aF ah=0 then(S,decide (0<t),0)
  else if aT S.l (findF S.T S.aF ah)<0 then({S with aF:=vg S.aF (findF S.T S.aF ah)},true,0)
  else if vG S.T S.l (findF S.T S.aF ah)=false then(S,true,0)
  else if ik S.T S.l (findF S.T S.aF ah)=0 then(⟨S.T,S.l.take (aT S.l (findF S.T S.aF ah)).toNat,vg S.aF (findF S.T S.aF ah)⟩,true,0)
  else if(gN S.T S.l S.aF on (findF S.T S.aF ah) (ik S.T S.l (findF S.T S.aF ah))).2.2.2=0 then
   jF on ah r (t+1) ⟨(gN S.T S.l S.aF on (findF S.T S.aF ah) (ik S.T S.l (findF S.T S.aF ah))).1,(gN S.T S.l S.aF on (findF S.T S.aF ah) (ik S.T S.l (findF S.T S.aF ah))).2.1,(gN S.T S.l S.aF on (findF S.T S.aF ah) (ik S.T S.l (findF S.T S.aF ah))).2.2.1⟩
  else(⟨(gN S.T S.l S.aF on (findF S.T S.aF ah) (ik S.T S.l (findF S.T S.aF ah))).1,(gN S.T S.l S.aF on (findF S.T S.aF ah) (ik S.T S.l (findF S.T S.aF ah))).2.1,(gN S.T S.l S.aF on (findF S.T S.aF ah) (ik S.T S.l (findF S.T S.aF ah))).2.2.1⟩,false,(gN S.T S.l S.aF on (findF S.T S.aF ah) (ik S.T S.l (findF S.T S.aF ah))).2.2.2)
noncomputable def gW (on:Bool) (ah:ae) (S:AS):AS×Bool×Int :=
 if aI S.T (S.l.getLast?.getD 0) [ah]&&decide (aT S.aF (S.l.getLast?.getD 0)<0)then(⟨S.T,S.l.dropLast,S.aF⟩,true,0)else jF on ah 8 0 S
theorem Qe (T:aB) (ah:ae): ∀l:List Int,yt T ah l≠0->yt T ah l∈l
 | [],h=>absurd rfl h
 |x::r,h=>by
  rw[yt]at h |-;split
  ·exact dR
  ·rename_i hx;rw[aj hx]at h;exact gm _ (Qe T ah r h)
theorem acU {T:aB} {aF:List Int} {ah:ae} (h:findF T aF ah≠0):findF T aF ah∈aF:=by
 have:=Qe T ah _ h;exact pQ (jM.1 this)
theorem Fu (T:aB): ∀l:List Int,vZ T l≠0->vZ T l∈l
 | [],h=>absurd rfl h
 |x::r,h=>by
  rw[vZ]at h |-;split
  ·exact dR
  ·rename_i hx;rw[aj hx]at h;exact gm _ (Fu T r h)
theorem SK {T:aB} {l:List Int} {f:Int} (h:ik T l f≠0):aT l f<aT l (ik T l f):=by
 have hm:=Fu T _ h;obtain⟨i,hi,he⟩:=pR hm;rw[List.getElem_drop]at he;have hs:=dC l f
 have hi':(aT l f+1).toNat+i<l.length:=by
  rw[dN]at hi;omega
 rcases mZ (aT l f) (aT l (ik T l f))with h'|h'
 ·exact h'
 ·have hb:=dC l (ik T l f);exact absurd he (hb.2.2.1 _ hi' (by omega))
theorem Rp (l:List Int) (n:Int):(vg l n).length<=l.length:=oG _ _
theorem afy (l:List Int) (b n:Int):(Co l b n).length<=l.length+1:=by
 unfold Co;split
 ·have:=dC l b;rw[Dr _ _ _ (by omega)];exact ay _
 ·omega
theorem abM (l:List Int) (o n:Int):(oO l o n).length=l.length:=by
 unfold oO;split
 ·rw[nR]
 ·rfl
theorem afz (l:List Int) (i:Nat) (x:Int):(qd l i x).length=l.length+1:=by
 simp only[qd,fC,fV,dB,dN];omega
theorem zq (b:Int): ∀(r:List Int) (c:Nat) (S:TS),(eB b r c S).1.l.length<=S.l.length/\(eB b r c S).1.aF.length<=S.aF.length
 | [],_,_=>⟨ay _,ay _⟩
 |x::r,c,S=>by
  rw[eB];split
  ·split
   ·obtain⟨h1,h2⟩:=zq b r (c+1) {S with aF:=iX S.aF (aT S.aF x),keep:=if aT S.aF x<S.keep then S.keep-1 else S.keep,l:=vg S.l x};exact⟨bY h1 (Rp _ _),bY h2 (oG _ _)⟩
   ·split
    ·refine⟨bY (zq b r (c+1) _).1 ?_,bY (zq b r (c+1) _).2 ?_⟩
     ·exact uu (abM _ _ _)
     ·exact uu (by simp)
    ·exact⟨ay _,ay _⟩
  ·obtain⟨h1,h2⟩:=zq b r (c+1) {S with l:=vg S.l x};exact⟨bY h1 (Rp _ _),h2⟩
theorem Zg (T:aB) (l aF:List Int) (f b keep:Int):(jE T l aF f b keep).2.1.length<=l.length+1/\(jE T l aF f b keep).2.2.1.length<=aF.length+1:=by
 unfold jE;split
 ·refine⟨bY (afy _ _ _) (KZ (Rp _ _)),?_⟩;show(qd _ _ _).length<=_;rw[afz];exact KZ (oG _ _)
 ·exact⟨wY _,wY _⟩
theorem abw (T:aB) (l aF:List Int) (on:Bool) (f b:Int):(gN T l aF on f b).2.1.length<=l.length+1/\(gN T l aF on f b).2.2.1.length<=aF.length+1:=by
 obtain⟨h1,h2⟩:=zq b (df l f b).reverse 1 ⟨T,l,aF,aT aF f,b⟩;unfold gN;simp only;split
 ·obtain⟨h3,h4⟩:=Zg (fe (eB b (df l f b).reverse 1 ⟨T,l,aF,aT aF f,b⟩).1.T (if nX l f≠0 then aZ (eB b (df l f b).reverse 1 ⟨T,l,aF,aT aF f,b⟩).1.T (eB b (df l f b).reverse 1 ⟨T,l,aF,aT aF f,b⟩).1.l on (nX l f)else(0,0)).1 (if nX l f≠0 then aZ (eB b (df l f b).reverse 1 ⟨T,l,aF,aT aF f,b⟩).1.T (eB b (df l f b).reverse 1 ⟨T,l,aF,aT aF f,b⟩).1.l on (nX l f)else(0,0)).2 (eB b (df l f b).reverse 1 ⟨T,l,aF,aT aF f,b⟩).1.last).1 (eB b (df l f b).reverse 1 ⟨T,l,aF,aT aF f,b⟩).1.l (eB b (df l f b).reverse 1 ⟨T,l,aF,aT aF f,b⟩).1.aF f b (eB b (df l f b).reverse 1 ⟨T,l,aF,aT aF f,b⟩).1.keep;exact⟨bY h3 (KZ h1),bY h4 (KZ h2)⟩
 ·exact⟨bY h1 (wY _),bY h2 (wY _)⟩
theorem aeC {l:List Int} {f:Int} {k:Nat} (h0:0<=aT l f) (hk:(aT l f).toNat<k+1) (hkl:k<l.length):(l[k]=f↔k=(aT l f).toNat):=by
 obtain⟨h1,h2,h3,h4⟩:=dC l f;constructor
 ·intro e;rcases lG (aT l f).toNat k with h|h
  ·exact absurd e (h3 k hkl (by omega))
  ·omega
 ·intro e;exact h4 k hkl (by omega)
section
variable {w0 w w':af} {B B' tb sb lb:Nat} {ex:Nat->Prop} {T T':aB} {l l' aF ent':List Int} {on on':Bool}
theorem aha (h:LI w0 B tb sb lb ex T l aF on w) (ah:ae) (hl:l.length+10<1000000) (he:aF.length+10<1000000) :
 Calls prog 199 #[.pointer (some ⟨lb,0,none⟩),.string ah] w λe w' =>
  e= .returned (.tuple #[.bool (gW on ah ⟨T,l,aF⟩).2.1,.int .i64 (gW on ah ⟨T,l,aF⟩).2.2])/\LI w0 B tb sb lb ex (gW on ah ⟨T,l,aF⟩).1.T (gW on ah ⟨T,l,aF⟩).1.l (gW on ah ⟨T,l,aF⟩).1.aF on w'/\az (Own w0 ex) w w':=by
 obtain⟨sa,sc,c0,c1,_⟩:=h.cells;have HL:=hd' h;have adB:Hid (∀u,LI w0 B tb sb lb ex T l aF on u->Calls prog 42 #[.pointer (some ⟨sb,0,none⟩)] u λe w'=>e= .returned (.int .i64 (l.getLast?.getD 0))/\ ∃q,w'=u.drewN q):=hd' (λu hu=>KH hu);have HNm:Hid (∀u,LI w0 B tb sb lb ex T l aF on u->Calls prog 189 #[.pointer (some ⟨lb,0,none⟩),.int .i64 (l.getLast?.getD 0),.slice (some ⟨u.heap.size,0,none⟩) 1 1] (u.alloc (.cells #[.string ah] 9)) λe w'=>e= .returned (.bool (aI T (l.getLast?.getD 0) [ah]))/\Below u.heap.size u w'):=hd' (λu hu=>IY hu _ ah);have HFe:Hid (∀u,LI w0 B tb sb lb ex T l aF on u->Calls prog 201 #[.pointer (some ⟨lb,0,none⟩),.int .i64 (l.getLast?.getD 0)] u λe w'=>e= .returned (.int .i64 (aT aF (l.getLast?.getD 0)))/\u=w'):=hd' (λu hu=>GJ hu _);have anO:Hid (∀u,LI w0 B tb sb lb ex T l aF on u->Calls prog 56 #[.pointer (some ⟨sb,0,none⟩)] u λe w'=>e= .returned (.int .i64 (l.getLast?.getD 0))/\LI w0 B tb sb lb ex T l.dropLast aF on w'/\az (Own w0 ex) u w'):=hd' (λu hu=>Tk hu);have HA:Hid (gW on ah ⟨T,l,aF⟩=if aI T (l.getLast?.getD 0) [ah]&&decide (aT aF (l.getLast?.getD 0)<0)then(⟨T,l.dropLast,aF⟩,true,0)else jF on ah 8 0 ⟨T,l,aF⟩):=hd' rfl;have hrf:=(dC aF (l.getLast?.getD 0)).1;generalize l.getLast?.getD 0=top at *;generalize aT aF top=rt at *;clear h;go_enter func199,ntmps199
 obtain⟨cnd,hcnd⟩: ∃cnd,cnd=(aI T top [ah]&&decide (rt<0)):=⟨_,rfl⟩;rw[<-hcnd]at HA;go_upto_region 1 with fail
 go_cut [28]from 10 to 28 (λs28 wx=>s28= .bool cnd/\Hid (Below w.heap.size w wx))
 case first =>
  go_wp2_with (go_at_call 42;fail)
  refine(adB.o' _ HL.o').mono ?_;rintro e w1 ⟨rfl,q,rfl⟩;have H1:=hd' (HL.o'.world (fM w q));have KB1:=hd' (fM w q);have d1:=(show(w.drewN q).cell? ⟨lb,1,none⟩=some (.pointer (some ⟨sb,0,none⟩))from c1);clear c0 c1;generalize w.drewN q=w1 at *;cases hnm:aI T top [ah]
  ·rw[hnm]at HNm hcnd;have hc2:cnd=false:=hcnd;clear hcnd;subst hc2;go_wp2_with (go_at_call 189;refine(HNm.o' _ H1.o').mono ?_;rintro e w2 ⟨rfl,hb2⟩;have KB2:=hd' (aK KB1.o' hb2);clear hb2)
   go_meet
   exact⟨rfl,KB2⟩
  ·rw[hnm]at HNm hcnd;have hc2:cnd=decide (rt<0):=hcnd;clear hcnd;subst hc2;go_wp2_with (go_at_call 189;fail)
   refine(HNm.o' _ H1.o').mono ?_;rintro e w2 ⟨rfl,hb2⟩;have H2:=hd' (H1.o'.world hb2);have e1:=aM hb2 d1;have KB2:=hd' (aK KB1.o' hb2);clear hb2 d1 H1 KB1;go_wp2_with (go_at_call 42;fail)
   refine(adB.o' _ H2.o').mono ?_;rintro e w3 ⟨rfl,q3,rfl⟩;have H3:=hd' (H2.o'.world (fM w2 q3));have KB3:=hd' (aK KB2.o' (fM w2 q3));clear e1 H2 KB2;generalize w2.drewN q3=w3 at *;go_wp2_with ((go_at_call 201;refine(HFe.o' _ H3.o').mono ?_;rintro e w4 ⟨rfl,rfl⟩))
   go_meet
   exact⟨rfl,KB3⟩
 case rest =>
 obtain⟨rfl,HBc⟩:=hcut;have HLc:=hd' (HL.o'.world HBc.o');have d0:=aM HBc.o' c0;have d1:=aM HBc.o' c1;clear hcnd adB HNm HFe HL c0 c1;cases cnd
 ·have HA2:Hid (gW on ah ⟨T,l,aF⟩=jF on ah 8 0 ⟨T,l,aF⟩):=hd' (by rw[HA.o'];rfl);clear HA anO;go_wp2_with fail
  go_loopw [6] (λs6 wr=> ∃(t:Nat) (S:AS),t<=8/\s6= .int .i64 t/\Hid (LI w0 B tb sb lb ex S.T S.l S.aF on wr)/\Hid (az (Own w0 ex) w wr)/\Hid (jF on ah 8 0 ⟨T,l,aF⟩=jF on ah (8-t) t S)/\Hid (S.l.length<=l.length+t/\S.aF.length<=aF.length+t)) (λs6 _=>8-(intOf s6).toNat)
  case atStart=>exact⟨0,⟨T,l,aF⟩,by omega,rfl,HLc,hd' (az.bC HBc.o'),hd' rfl,hd' ⟨ay _,ay _⟩⟩
  case round =>
   obtain⟨t,S,ht,rfl,Bo,DU,HV,HS⟩:=hrel;obtain⟨T1,l1,e1⟩:=S;simp only at Bo HV HS |-;obtain⟨_,_,g0,g1,_⟩:=Bo.o'.cells;by_cases hlt:t<8
   ·obtain⟨r,hr⟩: ∃r,8-t=r+1:=⟨7-t,by omega⟩;have HFi:=hd' (abk Bo.o' ah)
    have HR:Hid (jF on ah 8 0 ⟨T,l,aF⟩=if findF T1 e1 ah=0 then(⟨T1,l1,e1⟩,decide (0<t),0)
     else if aT l1 (findF T1 e1 ah)<0 then(⟨T1,l1,vg e1 (findF T1 e1 ah)⟩,true,0)
     else if vG T1 l1 (findF T1 e1 ah)=false then(⟨T1,l1,e1⟩,true,0)
     else if ik T1 l1 (findF T1 e1 ah)=0 then(⟨T1,l1.take (aT l1 (findF T1 e1 ah)).toNat,vg e1 (findF T1 e1 ah)⟩,true,0)
     else if(gN T1 l1 e1 on (findF T1 e1 ah) (ik T1 l1 (findF T1 e1 ah))).2.2.2=0 then
      jF on ah r (t+1) ⟨(gN T1 l1 e1 on (findF T1 e1 ah) (ik T1 l1 (findF T1 e1 ah))).1,(gN T1 l1 e1 on (findF T1 e1 ah) (ik T1 l1 (findF T1 e1 ah))).2.1,(gN T1 l1 e1 on (findF T1 e1 ah) (ik T1 l1 (findF T1 e1 ah))).2.2.1⟩
     else(⟨(gN T1 l1 e1 on (findF T1 e1 ah) (ik T1 l1 (findF T1 e1 ah))).1,(gN T1 l1 e1 on (findF T1 e1 ah) (ik T1 l1 (findF T1 e1 ah))).2.1,(gN T1 l1 e1 on (findF T1 e1 ah) (ik T1 l1 (findF T1 e1 ah))).2.2.1⟩,false,(gN T1 l1 e1 on (findF T1 e1 ah) (ik T1 l1 (findF T1 e1 ah))).2.2.2)):=hd' (by rw[HV.o',hr];rfl)
    have anU:=hd' (λh:findF T1 e1 ah≠0=>acU h);have hHR:=hd' hr;clear HV hr;generalize findF T1 e1 ah=f at *;by_cases hf:f=0
    ·rw[au hf]at HR;subst hf;go_wp2_with (go_at_call 158;refine HFi.o'.mono ?_;rintro e w2 ⟨rfl,hb2⟩;have H2:=hd' (Bo.o'.world hb2);have K2:=hd' (DU.o'.trans (az.bC hb2));clear hb2)
     go_ret2;rw[HA2.o',HR.o'];refine⟨?_,H2.o',K2.o'⟩;simp
    rw[aj hf]at HR;have hf':(f==0)=false:=by simpa using hf
    have HM:=hd' (anU.o' hf);clear anU hf;have hr1:=(dC l1 f).1;go_wp2_with (go_at_call 158;refine HFi.o'.mono ?_;rintro e w2 ⟨rfl,hb2⟩;have H2:=hd' (Bo.o'.world hb2);have K2:=hd' (DU.o'.trans (az.bC hb2));have j0:=aM hb2 g0;have j1:=aM hb2 g1;have HSF:=hd' (CO H2.o' f);clear hb2)
    by_cases hr0:aT l1 f<0
    ·rw[au hr0]at HR;have HRm:=hd' (JB H2.o' f);generalize aT l1 f=rf at *;refine HSF.o'.mono ?_;rintro e w3 ⟨rfl,rfl⟩;go_wp2_with fail
     refine HRm.o'.mono ?_;rintro e w4 ⟨rfl,h4,k4⟩;have H4:=hd' h4;have K4:=hd' (K2.o'.trans k4);clear h4 k4;go_wp2_with fail
     go_ret2;rw[HA2.o',HR.o'];exact⟨rfl,H4.o',K4.o'⟩
    rw[aj hr0]at HR;have HHN:=hd' (ZI H2.o' f);have h00:0<=aT l1 f:=by omega
    have HBk:Hid (∀u,LI w0 B tb sb lb ex T1 l1 e1 on u->Calls prog 213 #[.pointer (some ⟨lb,0,none⟩),.int .i64 f] u λe w'=>e= .returned (.int .i64 (ik T1 l1 f))/\Below u.heap.size u w'):=hd' (λu hu=>agw hu f h00)
    have HTn:Hid (ik T1 l1 f≠0-> ∀u,LI w0 B tb sb lb ex T1 l1 e1 on u->Calls prog 214 #[.pointer (some ⟨lb,0,none⟩),.int .i64 f,.int .i64 (ik T1 l1 f)] u λe w' =>
     e= .returned (.int .i64 (gN T1 l1 e1 on f (ik T1 l1 f)).2.2.2)/\LI w0 B tb sb lb ex (gN T1 l1 e1 on f (ik T1 l1 f)).1 (gN T1 l1 e1 on f (ik T1 l1 f)).2.1 (gN T1 l1 e1 on f (ik T1 l1 f)).2.2.1 on w'/\az (Own w0 ex) u w'):=hd' (λhb u hu =>
      ahu hu f _ (by have:=HS.o'.1;omega) (by have:=HS.o'.2;omega) HM.o' h00 (SK hb))
    have HTl:=hd' (abw T1 l1 e1 on f (ik T1 l1 f));have HRs:=hd' (dC l1 f);have amR:aT l1 f<l1.length:=(dC l1 f).2.1;refine HSF.o'.mono ?_;rintro e w3 ⟨rfl,rfl⟩;cases hhn:vG T1 l1 f
    ·rw[hhn,au rfl]at HR;rw[hhn]at HHN;generalize aT l1 f=rf at *;go_wp2_with (go_at_call 212;refine HHN.o'.mono ?_;rintro e w4 ⟨rfl,hb4⟩;have H4:=hd' (H2.o'.world hb4);have K4:=hd' (K2.o'.trans (az.bC hb4));clear hb4)
     go_ret2;rw[HA2.o',HR.o'];exact⟨rfl,H4.o',K4.o'⟩
    rw[hhn,aj (by simp)]at HR;rw[hhn]at HHN;obtain⟨b,hb⟩: ∃b,b=ik T1 l1 f:=⟨_,rfl⟩;rw[<-hb]at HR HBk HTn HTl;obtain⟨p,hp⟩:=bQ h00;have HPS:=hd' (λk (hk:(aT l1 f).toNat<k+1) (hkl:k<l1.length)=>aeC (f:=f) h00 hk hkl);rw[hp]at HR HPS amR;rw[show((p:Int)).toNat=p from rfl]at HR HPS;have hpl:p<l1.length:=by omega
    have hd0:decide ((p:Int)<0)=false:=qB (by omega);rw[hp];clear hb hp h00 hr0 hr1 amR HRs HSF hhn;go_wp2_with ((go_at_call 212;refine HHN.o'.mono ?_;rintro e w4 ⟨rfl,hb4⟩;have H4:=hd' (H2.o'.world hb4);have K4:=hd' (K2.o'.trans (az.bC hb4));have i0:=aM hb4 j0;have i1:=aM hb4 j1;clear hb4))
    refine(HBk.o' _ H4.o').mono ?_;rintro e w5 ⟨rfl,hb5⟩;have H5:=hd' (H4.o'.world hb5);have K5:=hd' (K4.o'.trans (az.bC hb5));have v0:=aM hb5 i0;have v1:=aM hb5 i1;clear hb5 i0 i1 j0 j1 g0 g1 H4 K4 H2 K2 HBk HHN;by_cases hb0:b=0
    ·rw[au hb0]at HR;subst hb0;clear HTn HTl;have HR2:Hid (jF on ah 8 0 ⟨T,l,aF⟩=(⟨T1,l1.take p,vg e1 f⟩,true,0)):=HR;clear HR;obtain⟨n0,hn0⟩: ∃n0,l1.length=p+n0+1:=⟨l1.length-p-1,by omega⟩;have HN0:=hd' hn0;clear hn0;go_wp2_with fail
     go_loopg [] n0 (λgk wr=>Hid (gk<=n0/\LI w0 B tb sb lb ex T1 (l1.take (p+gk+1)) e1 on wr/\az (Own w0 ex) w wr))
     case atStart=>exact hd' ⟨ay _,by rw[<-HN0.o',iH (ay _)];exact H5.o',K5.o'⟩
     case round =>
      have HX:=hrel;clear hrel v0 v1 H5 K5 Bo DU HFi;have hkl:p+gk<l1.length:=by have:=HN0.o';have:=HX.o'.1;omega
      obtain⟨_,_,v0,v1,_⟩:=HX.o'.2.1.cells;have HPp:=hd' (Tk HX.o'.2.1);have htl:=CX hkl;have hps:=HPS.o' (p+gk) (by omega) hkl;rw[htl.1,htl.2]at HPp;obtain⟨x,hx⟩: ∃x,x=l1[p+gk]:=⟨_,rfl⟩;rw[<-hx]at HPp hps;clear htl hx;go_wp2_with fail
      refine HPp.o'.mono ?_;rintro e w7 ⟨rfl,h7,k7⟩;have H7:=hd' h7;have K7:=hd' (HX.o'.2.2.trans k7);cases gk with
      |zero =>
       have hxf:x=f:=hps.2 rfl;have apr:(x !=f)=false:=by simp[hxf]
       have HRm:=hd' (JB h7 f);clear h7 k7 hps hxf;go_wp2_with fail
       refine HRm.o'.mono ?_;rintro e w8 ⟨rfl,h8,k8⟩;have H8:=hd' h8;have K8:=hd' (K7.o'.trans k8);clear h8 k8;go_wp2_with fail
       go_ret2;rw[HA2.o',HR2.o'];exact⟨rfl,H8.o',K8.o'⟩
      |succ j =>
       have hxf:x≠f:=λe=>by have:=hps.1 e;omega
       have apr:(x !=f)=true:=by simpa using hxf
       clear h7 k7 hps hxf;go_wp2_with fail
       go_roundg j
       case measure=>omega
       case rel=>exact hd' ⟨by have:=HX.o'.1;omega,H7.o',K7.o'⟩
    ·rw[aj hb0]at HR;have avi:(b==0)=false:=by simpa using hb0
     have anG:=hd' (HTn.o' hb0);clear HTn hb0 HPS;generalize gN T1 l1 e1 on f b=q at *;obtain⟨T2,l2,e2,er⟩:=q;simp only at HR anG HTl;go_wp2_with (go_at_call 214;fail)
     refine(anG.o' _ H5.o').mono ?_;rintro e w6 ⟨rfl,h6,k6⟩;have H6:=hd' h6;have K6:=hd' (K5.o'.trans k6);clear h6 k6;by_cases her:er=0
     ·rw[au her]at HR;subst her;go_wp2_with fail
      go_roundw
      case rel=>exact⟨t+1,⟨T2,l2,e2⟩,by omega,by go_num,H6,K6,hd' (by rw[HR.o',show 8-(t+1)=r by have:=hHR.o';omega]),hd' ⟨by have:=HTl.o'.1;have:=HS.o'.1;dsimp only;omega,by have:=HTl.o'.2;have:=HS.o'.2;dsimp only;omega⟩⟩
      case measure=>simp[intOf];omega
     ·rw[aj her]at HR;have apO:(er==0)=false:=by simpa using her
      go_wp2_with fail
      go_ret2;rw[HA2.o',HR.o'];exact⟨rfl,H6.o',K6.o'⟩
   ·obtain rfl:t=8:=by omega
    have HV2:Hid (jF on ah 8 0 ⟨T,l,aF⟩=(⟨T1,l1,e1⟩,true,0)):=hd' (by rw[HV.o'];rfl);go_wp2_with fail
    go_ret2;rw[HA2.o',HV2.o'];exact⟨rfl,Bo.o',DU.o'⟩
 ·have HA2:Hid (gW on ah ⟨T,l,aF⟩=(⟨T,l.dropLast,aF⟩,true,0)):=hd' (by rw[HA.o'];rfl);go_wp2_with fail
  refine(anO.o' _ HLc.o').mono ?_;rintro e w5 ⟨rfl,h5,k5⟩;have H5:=hd' h5;have K5:=hd' ((az.bC HBc.o').trans k5);clear h5 k5;go_wp2_with fail
  go_ret2;rw[HA2.o'];exact⟨rfl,H5.o',K5.o'⟩
end
end Go.Proofs.YtnlbcifhedjbfaaGreatDoor
end
