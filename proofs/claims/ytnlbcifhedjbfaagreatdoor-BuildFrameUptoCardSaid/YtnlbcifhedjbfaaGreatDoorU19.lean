/- oZ joined for a claim: aqs, aqy, aqw, aqx, aqv, aqu, aqr, aqp, aqn: plain laws and contracts. No conditions beyond those that each lemma types. -/
import Derived.Test.YtnlbcifhedjbfaaGreatDoorU18
import Derived.LoopTactic
import Derived.Deep.WholeRow
import Derived.Lib.IndexLaws
set_option linter.unusedVariables false
set_option linter.unusedSimpArgs false
set_option maxRecDepth 100000
set_option maxHeartbeats 8000000
open Go.Proofs.Tryz
namespace Go.Proofs.YtnlbcifhedjbfaaGreatDoor.Rd
open Go.RowKit Mem
theorem int_eq {k:IntKind} {a b:Int} (h:a=b):Value.int k a= .int k b:=by rw[h]
theorem Nw {b f v:Nat} {c:ax} {r:bH} (h:DN c.toNat<b):nH b (f+1) (c::r) v=((nH b f r (min (v*b+DN c.toNat) 0x110000)).1+1,(nH b f r (min (v*b+DN c.toNat) 0x110000)).2):=by
 have:Zc b c=some (DN c.toNat):=by rw[Zc,au h]
 rw[nH,this]
theorem CE {b f v:Nat} {c:ax} {r:bH} (h: ¬DN c.toNat<b):nH b (f+1) (c::r) v=(0,v):=by
 have:Zc b c=none:=by rw[Zc,aj h]
 rw[nH,this]
theorem Fj {b v:Nat} {r:bH}:nH b 0 r v=(0,v):=by rw[nH]
theorem Dw {b f v:Nat}:nH b f [] v=(0,v):=by cases f <;>rfl
theorem drop_byte (s:ae) (p:Nat) (h:p<s.size):s.toList.drop p=s[p]::s.toList.drop (p+1):=by
 have h':p<s.toList.length:=by rw[aR];exact h
 rw[kR h'];congr 1;simp only[dZ];rfl
theorem ahp (s:ae) (h:0<s.size):xB s.toList=(s[0]==120||s[0]==88):=by
 have:=drop_byte s 0 h;rw[xh]at this;rw[this];rfl
theorem adQ {s:ae} (h: ¬0<s.size):xB s.toList=false:=by
 have:s.toList= []:=rF (by rw[aR];omega);rw[this];rfl
theorem afP {s:bH} (h:xB s=true):kN s=1/\rP s=nH 16 16 (s.drop 1) 0:=by unfold rP kN aa6;simp[h]
theorem afQ {s:bH} (h:xB s=false):kN s=0/\rP s=nH 10 16 (s.drop 0) 0:=by unfold rP kN aa6;simp[h]
theorem uR {s:bH} {p f v:Nat} {b:Bool} (hh:kN s=f) (hg:rP s=((p-f)+0,v)) (hp:f<=p) (hb:b=decide ((f:Int)<(p:Int))) :
 Ending.returned (.tuple #[.int .i64 p,.int .i64 v,.bool b])= .returned (.tuple #[.int .i64 (xX s),.int .i64 (rP s).2,.bool (decide (0<(rP s).1))]):=by
 have h1:xX s=p:=by unfold xX;rw[hh,hg];show f+(p-f+0)=p;omega
 have h2:decide ((f:Int)<(p:Int))=decide (0<p-f+0):=pJ.2 (by omega);rw[h1,hg,hb,h2]
theorem KE {b c:ax} (h:b≠c):((b.toNat:Int)==(c.toNat:Int))=false:=by
 rw[aV];intro e;exact h (KN.1 (by omega))
theorem MG (s:ae) (w:af) (hs:s.size<=9223372036854775807):Calls prog 127 #[.string s] w λe w'=>e= .returned (.tuple #[.int .i64 (xX s.toList),.int .i64 (rP s.toList).2,.bool (decide (0<(rP s.toList).1))])/\w=w':=by
 by_cases h0:0<s.size
 ·have hne:=MM (s:=s) (by intro h;have:=aR s;rw[h]at this;simp at this;omega);have hxB:=ahp s h0;by_cases hx:s[0]=120
  ·obtain⟨hh,hg⟩:=afP (s:=s.toList) (by rw[hxB,hx];rfl);have HH:=hd' hh;have HG:=hd' hg;clear hh hg hxB;go_enter func127,ntmps127
   go_wp2_with fail
   go_loop [5,8] (λi n=> ∃p v:Nat,1<=p/\p<=17/\p<=s.size/\v<=1114112/\i= .int .i64 p/\n= .int .i64 v/\rP s.toList=((p-1)+(nH 16 (17-p) (s.toList.drop p) v).1,(nH 16 (17-p) (s.toList.drop p) v).2)) (λi _=>s.size-(intOf i).toNat)
   case atStart=>exact⟨1,0,by omega,by omega,by omega,by omega,rfl,rfl,by rw[HG.o',wX,iM]⟩
   case round =>
    obtain⟨p,v,hp0,hp1,hp2,hv,rfl,rfl,hg⟩:=hrel;have HR:=hd' hg;clear hg;by_cases hlt:p<s.size
    ·by_cases hlf:p<17
     ·have hu:=s[p].toNat_lt;have hdr:=drop_byte s p hlt;have hfu:17-p=(16-p)+1:=by omega
      rw[hfu,hdr]at HR;have hval:Calls prog 177 #[.int .u8 (s[p].toNat:Nat),.int .i64 16] w _:=wN s[p].toNat 16 (by omega) w;by_cases hd:DN s[p].toNat<16
      ·have hg:=Nw (f:=16-p) (r:=s.toList.drop (p+1)) (v:=v) hd;rw[hg]at HR;obtain⟨d,hdd⟩: ∃d,d=DN s[p].toNat:=⟨_,rfl⟩;rw[<-hdd]at HR hval hd;rw[pI hd]at hval;have HV:=hd' hval;clear hval hg hdr hfu hdd;go_wp2_with (go_at_call 177;refine HV.o'.mono ?_;rintro e w1 ⟨rfl,rfl⟩)
       go_round
       case rel=>exact⟨p+1,min (v*16+d) 1114112,by omega,by omega,by omega,by omega,by go_num,int_eq (by omega),by rw[HR.o',show 17-(p+1)=16-p from by omega,show p+1-1=p-1+1 from by omega];exact Prod.ext (by show _+(_+1)=_+1+_;omega) rfl⟩
       case measure=>simp[intOf];omega
      ·have hg:=CE (f:=16-p) (r:=s.toList.drop (p+1)) (v:=v) hd;rw[hg]at HR;rw[qB hd]at hval;have HV:=hd' hval;clear hval hg hdr hfu hd;go_wp2_with (go_at_call 177;refine HV.o'.mono ?_;rintro e w1 ⟨rfl,rfl⟩)
       go_ret3;exact⟨uR HH.o' HR.o' hp0 (pJ.2 (by omega)),rfl⟩
     ·have hfu:17-p=0:=by omega
      rw[hfu,Fj]at HR;clear hfu;go_wp2_with fail
      go_ret3;exact⟨uR HH.o' HR.o' hp0 (pJ.2 (by omega)),rfl⟩
    ·have hdr:s.toList.drop p= []:=iZ (by rw[aR];omega);rw[hdr,Dw]at HR;clear hdr;go_wp2_with fail
     go_ret3;exact⟨uR HH.o' HR.o' hp0 (pJ.2 (by omega)),rfl⟩
  ·by_cases hX:s[0]=88
   ·obtain⟨hh,hg⟩:=afP (s:=s.toList) (by rw[hxB,hX];rfl);have HH:=hd' hh;have HG:=hd' hg;clear hh hg hxB hx;go_enter func127,ntmps127
    go_wp2_with fail
    go_loop [5,8] (λi n=> ∃p v:Nat,1<=p/\p<=17/\p<=s.size/\v<=1114112/\i= .int .i64 p/\n= .int .i64 v/\rP s.toList=((p-1)+(nH 16 (17-p) (s.toList.drop p) v).1,(nH 16 (17-p) (s.toList.drop p) v).2)) (λi _=>s.size-(intOf i).toNat)
    case atStart=>exact⟨1,0,by omega,by omega,by omega,by omega,rfl,rfl,by rw[HG.o',wX,iM]⟩
    case round =>
     obtain⟨p,v,hp0,hp1,hp2,hv,rfl,rfl,hg⟩:=hrel;have HR:=hd' hg;clear hg;by_cases hlt:p<s.size
     ·by_cases hlf:p<17
      ·have hu:=s[p].toNat_lt;have hdr:=drop_byte s p hlt;have hfu:17-p=(16-p)+1:=by omega
       rw[hfu,hdr]at HR;have hval:Calls prog 177 #[.int .u8 (s[p].toNat:Nat),.int .i64 16] w _:=wN s[p].toNat 16 (by omega) w;by_cases hd:DN s[p].toNat<16
       ·have hg:=Nw (f:=16-p) (r:=s.toList.drop (p+1)) (v:=v) hd;rw[hg]at HR;obtain⟨d,hdd⟩: ∃d,d=DN s[p].toNat:=⟨_,rfl⟩;rw[<-hdd]at HR hval hd;rw[pI hd]at hval;have HV:=hd' hval;clear hval hg hdr hfu hdd;go_wp2_with (go_at_call 177;refine HV.o'.mono ?_;rintro e w1 ⟨rfl,rfl⟩)
        go_round
        case rel=>exact⟨p+1,min (v*16+d) 1114112,by omega,by omega,by omega,by omega,by go_num,int_eq (by omega),by rw[HR.o',show 17-(p+1)=16-p from by omega,show p+1-1=p-1+1 from by omega];exact Prod.ext (by show _+(_+1)=_+1+_;omega) rfl⟩
        case measure=>simp[intOf];omega
       ·have hg:=CE (f:=16-p) (r:=s.toList.drop (p+1)) (v:=v) hd;rw[hg]at HR;rw[qB hd]at hval;have HV:=hd' hval;clear hval hg hdr hfu hd;go_wp2_with (go_at_call 177;refine HV.o'.mono ?_;rintro e w1 ⟨rfl,rfl⟩)
        go_ret3;exact⟨uR HH.o' HR.o' hp0 (pJ.2 (by omega)),rfl⟩
      ·have hfu:17-p=0:=by omega
       rw[hfu,Fj]at HR;clear hfu;go_wp2_with fail
       go_ret3;exact⟨uR HH.o' HR.o' hp0 (pJ.2 (by omega)),rfl⟩
     ·have hdr:s.toList.drop p= []:=iZ (by rw[aR];omega);rw[hdr,Dw]at HR;clear hdr;go_wp2_with fail
      go_ret3;exact⟨uR HH.o' HR.o' hp0 (pJ.2 (by omega)),rfl⟩
   ·obtain⟨hh,hg⟩:=afQ (s:=s.toList) (by rw[hxB];simp[hx,hX]);have HH:=hd' hh;have HG:=hd' hg;have hx':((s[0].toNat:Int)==120)=false:=KE hx;have hX':((s[0].toNat:Int)==88)=false:=KE hX;clear hh hg hxB hx hX;go_enter func127,ntmps127
    go_wp2_with fail
    go_loop [5,8] (λi n=> ∃p v:Nat,0<=p/\p<=16/\p<=s.size/\v<=1114112/\i= .int .i64 p/\n= .int .i64 v/\rP s.toList=((p-0)+(nH 10 (16-p) (s.toList.drop p) v).1,(nH 10 (16-p) (s.toList.drop p) v).2)) (λi _=>s.size-(intOf i).toNat)
    case atStart=>exact⟨0,0,by omega,by omega,by omega,by omega,rfl,rfl,by rw[HG.o',wX,iM]⟩
    case round =>
     obtain⟨p,v,hp0,hp1,hp2,hv,rfl,rfl,hg⟩:=hrel;have HR:=hd' hg;clear hg;by_cases hlt:p<s.size
     ·by_cases hlf:p<16
      ·have hu:=s[p].toNat_lt;have hdr:=drop_byte s p hlt;have hfu:16-p=(15-p)+1:=by omega
       rw[hfu,hdr]at HR;have hval:Calls prog 177 #[.int .u8 (s[p].toNat:Nat),.int .i64 10] w _:=wN s[p].toNat 10 (by omega) w;by_cases hd:DN s[p].toNat<10
       ·have hg:=Nw (f:=15-p) (r:=s.toList.drop (p+1)) (v:=v) hd;rw[hg]at HR;obtain⟨d,hdd⟩: ∃d,d=DN s[p].toNat:=⟨_,rfl⟩;rw[<-hdd]at HR hval hd;rw[pI hd]at hval;have HV:=hd' hval;clear hval hg hdr hfu hdd;go_wp2_with (go_at_call 177;refine HV.o'.mono ?_;rintro e w1 ⟨rfl,rfl⟩)
        go_round
        case rel=>exact⟨p+1,min (v*10+d) 1114112,by omega,by omega,by omega,by omega,by go_num,int_eq (by omega),by rw[HR.o',show 16-(p+1)=15-p from by omega,show p+1-0=p-0+1 from by omega];exact Prod.ext (by show _+(_+1)=_+1+_;omega) rfl⟩
        case measure=>simp[intOf];omega
       ·have hg:=CE (f:=15-p) (r:=s.toList.drop (p+1)) (v:=v) hd;rw[hg]at HR;rw[qB hd]at hval;have HV:=hd' hval;clear hval hg hdr hfu hd;go_wp2_with (go_at_call 177;refine HV.o'.mono ?_;rintro e w1 ⟨rfl,rfl⟩)
        go_ret3;exact⟨uR HH.o' HR.o' hp0 (pJ.2 (by omega)),rfl⟩
      ·have hfu:16-p=0:=by omega
       rw[hfu,Fj]at HR;clear hfu;go_wp2_with fail
       go_ret3;exact⟨uR HH.o' HR.o' hp0 (pJ.2 (by omega)),rfl⟩
     ·have hdr:s.toList.drop p= []:=iZ (by rw[aR];omega);rw[hdr,Dw]at HR;clear hdr;go_wp2_with fail
      go_ret3;exact⟨uR HH.o' HR.o' hp0 (pJ.2 (by omega)),rfl⟩
 ·obtain⟨hh,hg⟩:=afQ (adQ h0);have HH:=hd' hh;have HG:=hd' hg;have hem:s.toList.isEmpty=true:=Cm (rF (by rw[aR];omega));clear hh hg;go_enter func127,ntmps127
  go_wp2_with fail
  go_loop [5,8] (λi n=> ∃p v:Nat,0<=p/\p<=16/\p<=s.size/\v<=1114112/\i= .int .i64 p/\n= .int .i64 v/\rP s.toList=((p-0)+(nH 10 (16-p) (s.toList.drop p) v).1,(nH 10 (16-p) (s.toList.drop p) v).2)) (λi _=>s.size-(intOf i).toNat)
  case atStart=>exact⟨0,0,by omega,by omega,by omega,by omega,rfl,rfl,by rw[HG.o',wX,iM]⟩
  case round =>
   obtain⟨p,v,hp0,hp1,hp2,hv,rfl,rfl,hg⟩:=hrel;have HR:=hd' hg;clear hg;have hlt: ¬p<s.size:=by omega
   have hdr:s.toList.drop p= []:=iZ (by rw[aR];omega);rw[hdr,Dw]at HR;clear hdr;go_wp2_with fail
   go_ret3;exact⟨uR HH.o' HR.o' hp0 (pJ.2 (by omega)),rfl⟩
theorem enc1 {c:Nat} (h:c<128):AR c= [UInt8.ofNat c]:=by rw[AR,au (show c<0x80 from h)]
theorem enc2 {c:Nat} (h1: ¬c<128) (h:c<2048):AR c= [UInt8.ofNat (0xc0+c/64),UInt8.ofNat (0x80+c%64)]:=by rw[AR,aj (show ¬c<0x80 from h1),au (show c<0x800 from h)]
theorem enc3 {c:Nat} (h1: ¬c<2048) (h:c<65536):AR c= [UInt8.ofNat (0xe0+c/4096),UInt8.ofNat (0x80+c/64%64),UInt8.ofNat (0x80+c%64)]:=by rw[AR,aj (show ¬c<0x80 from by omega),aj (show ¬c<0x800 from h1),au (show c<0x10000 from h)]
theorem enc4 {c:Nat} (h1: ¬c<65536):AR c= [UInt8.ofNat (0xf0+c/262144),UInt8.ofNat (0x80+c/4096%64),UInt8.ofNat (0x80+c/64%64),UInt8.ofNat (0x80+c%64)]:=by rw[AR,aj (show ¬c<0x80 from by omega),aj (show ¬c<0x800 from by omega),aj (show ¬c<0x10000 from h1)]
theorem Qf (c:Nat):(AR c).length<=4:=by
 unfold AR;split
 ·simp
 ·split
  ·simp
  ·split <;>simp
theorem Kb (l r:bH):bZ (l++r)=bZ l++bZ r:=by simp[bZ]
def encR (r:Int):bH:=if xP r then AR r.toNat else AR 0xfffd
def X7 (l:List Int):List ak:=l.map (Value.int .i32)
theorem X6 (l:List Int) (k:Nat) (h:k<l.length):(X7 l)[k]?=some (.int .i32 l[k]):=by simp[X7,h]
theorem zQ (n:Int):xP n=true↔(0<=n/\n<=1114111/\ ¬(55296<=n/\n<=57343)):=by
 unfold xP;simp only[cz,Af,Bool.and_eq_false_iff,mX,decide_eq_false_iff_not];omega
theorem u8z {n:Nat} {z:Int} (_:n<256) (hz:z=n):z.toNat.toUInt8=UInt8.ofNat n:=by subst hz;simp[Nat.toUInt8]
theorem Km {r:Int} (h:xP r=true):Lib.encodeRune r=AR r.toNat:=by
 obtain⟨h0,h1,h2⟩:=(zQ r).1 h;obtain⟨n,rfl⟩:=bQ h0;rw[kg];unfold Lib.encodeRune;by_cases a:n<128
 ·rw[Lib.encodeRuneZ_one (by omega) (by omega),enc1 a];simp only[dX,fK];rw[u8z (n:=n) (by omega) rfl]
 ·by_cases b:n<2048
  ·rw[Lib.encodeRuneZ_two (by omega) (by omega),enc2 a b];simp only[dX,fK];rw[u8z (n:=0xc0+n/64) (by omega) (by omega),u8z (n:=0x80+n%64) (by omega) (by omega)]
  ·by_cases c:n<65536
   ·rw[Lib.encodeRuneZ_three (by omega),enc3 b c];simp only[dX,fK];rw[u8z (n:=0xe0+n/4096) (by omega) (by omega),u8z (n:=0x80+n/64%64) (by omega) (by omega),u8z (n:=0x80+n%64) (by omega) (by omega)]
   ·rw[Lib.encodeRuneZ_four (by omega) (by omega),enc4 c];simp only[dX,fK];rw[u8z (n:=0xf0+n/262144) (by omega) (by omega),u8z (n:=0x80+n/4096%64) (by omega) (by omega),u8z (n:=0x80+n/64%64) (by omega) (by omega),u8z (n:=0x80+n%64) (by omega) (by omega)]
theorem L9 {r:Int} (h:xP r=true):Lib.runeCells r=bZ (encR r):=by
 rw[encR,au h,<-Km h];exact(Lib.byteCells_encodeRune r).symm
theorem Oj {r:Int} (h:xP r=false):Lib.runeCells 65533=bZ (encR r):=by
 rw[encR,h];rfl
theorem ZR (l:List Int) (a:Option Addr) (c:Nat) (w:af) (hl:l.length<=1099511627776) (hr: ∀r∈l, -2147483648<=r/\r<=2147483647) (ha:At w a (X7 l)) :
 Calls prog 179 #[.slice a l.length c] w λe w'=>e= .returned (.string (bA (l.flatMap encR)))/\Below w.heap.size w w':=by
 have HA:=hd' ha;have HR:=hd' hr;clear ha hr;go_enter func179,ntmps179
 go_wp2_with fail
 go_loopw [8] (λi wr=> ∃k:Nat,k<=l.length/\i= .int .i64 k/\Lib.IsBuilderF 75 5 w.heap.size w.heap.size (bZ ((l.take k).flatMap encR)) wr/\Below w.heap.size w wr/\((l.take k).flatMap encR).length<=4*k) (λi _=>l.length-(intOf i).toNat)
 case atStart=>exact⟨0,bD _,rfl,QY (QW 75 5 w),(aQ _ _).alloc (ay _) _,by simp⟩
 case round =>
  obtain⟨k,hk,rfl,hI,hb,hlen⟩:=hrel;have HI:=hd' hI;have HB:=hd' hb;have HL:=hd' hlen;have hsz:=hb.size;clear hI;by_cases hlt:k<l.length
  ·obtain⟨b,o,rfl,e1⟩:=(HA.o'.below hb) _ _ (X6 l k hlt);obtain⟨hr0,hr1⟩:=HR.o' l[k] (kH hlt)
   have htk:(l.take (k+1)).flatMap encR=(l.take k).flatMap encR++encR l[k]:=by
    rw[jL hlt,List.flatMap_append];simp
   have HTK:=hd' htk;obtain⟨r,hrr⟩: ∃r,r=l[k]:=⟨_,rfl⟩;have HRR:=hd' hrr;rw[<-hrr]at e1 hr0 hr1;have h4:(encR r).length<=4:=by unfold encR;split <;>exact(Qf _)
   have hbl:(bZ ((l.take k).flatMap encR)).length+4<=140737488355328:=by rw[dP];omega
   have HBL:=hd' hbl;clear hb htk hrr hlen hbl;cases hc:xP r
   ·have hbad:r<0\/(1114111<r/\0<=r)\/(0<=r/\r<=1114111/\55296<=r/\r<=57343):=by
     have: ¬(0<=r/\r<=1114111/\ ¬(55296<=r/\r<=57343)):=λh=>by rw[(zQ r).2 h]at hc;cases hc
     omega
    have HC:=hd' (Oj hc);clear hc;rcases hbad with h|⟨h,h'⟩|⟨h,h',h'',h3⟩
    all_goals
     go_wp2_with (go_at_call 208;refine(D9 w.heap.size w.heap.size _ 65533 _ (by omega) (by omega) HI.o' HBL.o' hsz).mono ?_;rintro e W1 ⟨rfl,g1,b1,k1⟩;have HG1:=hd' g1;have HB1:=hd' b1;clear g1 b1 k1)
     go_roundw
     case rel=>exact⟨k+1,by omega,by go_num,by rw[HTK.o',Kb,<-HRR.o',<-HC.o'];exact .inr HG1.o',HB.o'.trans HB1.o',by rw[HTK.o',fC,<-HRR.o'];have:=HL.o';omega⟩
     case measure=>simp[intOf];omega
   ·obtain⟨h,h',h''⟩:=(zQ r).1 hc;have HC:=hd' (L9 hc);clear hc;have h3:r<55296\/(55296<=r/\57343<r):=by omega
    clear h'';rcases h3 with h3|⟨h3,h4'⟩
    all_goals
     go_wp2_with (go_at_call 208;refine(D9 w.heap.size w.heap.size _ r _ hr0 hr1 HI.o' HBL.o' hsz).mono ?_;rintro e W1 ⟨rfl,g1,b1,k1⟩;have HG1:=hd' g1;have HB1:=hd' b1;clear g1 b1 k1)
     go_roundw
     case rel=>exact⟨k+1,by omega,by go_num,by rw[HTK.o',Kb,<-HRR.o',<-HC.o'];exact .inr HG1.o',HB.o'.trans HB1.o',by rw[HTK.o',fC,<-HRR.o'];have:=HL.o';omega⟩
     case measure=>simp[intOf];omega
  ·clear hb hlen;go_wp2_with (go_at_call 32;refine(sH w.heap.size w.heap.size _ _ HI.o' hsz).mono ?_;rintro e W1 ⟨rfl,g1,b1,k1⟩;have HB1:=hd' b1;clear g1 b1 k1)
   go_ret;obtain rfl:k=l.length:=by omega
   exact⟨by rw[QM];rfl,HB.o'.trans HB1.o'⟩
theorem Xm {P:Program} {ops:Array Oper} {rest:List Oper} {o:Oper} {a:Act} {w:af} {Q:Exit->Act->af->Prop} {v:ak} (hgd:o.guard=none) (h:(execOp a.eval o).run P w= .ok (.value v) w)
 (hk:wpList P ops Q rest (a.put o.dst v) w):wpList P ops Q (o::rest) a w :=
 wpList_plain hgd λK hK=>by unfold Oper.wp;rw[h];exact hK _ _ hk
theorem Xn {P:Program} {ops:Array Oper} {rest:List Oper} {o:Oper} {a:Act} {w:af} {Q:Exit->Act->af->Prop} {v:ak} {c:Obj} (hgd:o.guard=none) (h:(execOp a.eval o).run P w= .ok (.value v) (w.alloc c))
 (hk:wpList P ops Q rest (a.put o.dst v) (w.alloc c)):wpList P ops Q (o::rest) a w :=
 wpList_plain hgd λK hK=>by unfold Oper.wp;rw[h];exact hK _ _ hk
def Gb:Array ak:= #[.int .i32 8364,.int .i32 129,.int .i32 8218,.int .i32 402,.int .i32 8222,.int .i32 8230,.int .i32 8224,.int .i32 8225,.int .i32 710,.int .i32 8240,.int .i32 352,.int .i32 8249,.int .i32 338,.int .i32 141,.int .i32 381,.int .i32 143,.int .i32 144,.int .i32 8216,.int .i32 8217,.int .i32 8220,.int .i32 8221,.int .i32 8226,.int .i32 8211,.int .i32 8212,.int .i32 732,.int .i32 8482,.int .i32 353,.int .i32 8250,.int .i32 339,.int .i32 157,.int .i32 382,.int .i32 376]
theorem Oe {P:Program} {ops:Array Oper} {rest:List Oper} {o:Oper} {a:Act} {w:af} {Q:Exit->Act->af->Prop} (d:Nat) (v:ak) (hd:o.dst=some d) (hgd:o.guard=none) (h:(execOp a.eval o).run P w= .ok (.value v) w)
 (hk:wpList P ops Q rest (a.put (some d) v) w):wpList P ops Q (o::rest) a w:=Xm (v:=v) hgd h (by rw[hd];exact hk)
theorem Og {P:Program} {ops:Array Oper} {rest:List Oper} {o:Oper} {a:Act} {w:af} {Q:Exit->Act->af->Prop} (d:Nat) (v:ak) (c:Obj) (hd:o.dst=some d) (hgd:o.guard=none) (h:(execOp a.eval o).run P w= .ok (.value v) (w.alloc c))
 (hk:wpList P ops Q rest (a.put (some d) v) (w.alloc c)):wpList P ops Q (o::rest) a w:=Xn (v:=v) (c:=c) hgd h (by rw[hd];exact hk)
def Qj (n:Nat):Nat:=if 128<=n/\n<160 then Kk.getD (n-128) 0 else n
theorem ach: ∀j:Nat,j<32-> ∀w,(Instr.index 201 (.agg Gb) (.int .u8 (j:Nat))).run prog w= .ok (.int .i32 (Kk.getD j 0:Nat)) w
 |0,_=>λ_=>by kernel_rfl
 |1,_=>λ_=>by kernel_rfl
 |2,_=>λ_=>by kernel_rfl
 |3,_=>λ_=>by kernel_rfl
 |4,_=>λ_=>by kernel_rfl
 |5,_=>λ_=>by kernel_rfl
 |6,_=>λ_=>by kernel_rfl
 |7,_=>λ_=>by kernel_rfl
 |8,_=>λ_=>by kernel_rfl
 |9,_=>λ_=>by kernel_rfl
 |10,_=>λ_=>by kernel_rfl
 |11,_=>λ_=>by kernel_rfl
 |12,_=>λ_=>by kernel_rfl
 |13,_=>λ_=>by kernel_rfl
 |14,_=>λ_=>by kernel_rfl
 |15,_=>λ_=>by kernel_rfl
 |16,_=>λ_=>by kernel_rfl
 |17,_=>λ_=>by kernel_rfl
 |18,_=>λ_=>by kernel_rfl
 |19,_=>λ_=>by kernel_rfl
 |20,_=>λ_=>by kernel_rfl
 |21,_=>λ_=>by kernel_rfl
 |22,_=>λ_=>by kernel_rfl
 |23,_=>λ_=>by kernel_rfl
 |24,_=>λ_=>by kernel_rfl
 |25,_=>λ_=>by kernel_rfl
 |26,_=>λ_=>by kernel_rfl
 |27,_=>λ_=>by kernel_rfl
 |28,_=>λ_=>by kernel_rfl
 |29,_=>λ_=>by kernel_rfl
 |30,_=>λ_=>by kernel_rfl
 |31,_=>λ_=>by kernel_rfl
 |n+32,h=>absurd h (by omega)
theorem U9:(prog.info? 201).map (·.size)=some Gb.size:=by kernel_rfl
theorem ahX (w:af):Calls prog 207 #[] w λe w'=>e= .returned (.agg Gb)/\Below w.heap.size w w':=by
 go_enter func207,ntmps207
 go_wp2_with ((with_reducible refine Oe 1 (.agg Gb) rfl rfl (by kernel_rfl) ?_);refine wpList_store_row rfl 201 _ _ rfl w.heap.size Gb (by rfl) (by rfl) 201 _ (heap_alloc_last w _) U9 rfl (by kernel_rfl) ?_;rw[World.setRow_alloc_new];simp only[Act.put,dV,dF,dK])
 exact bU (v:= .agg Gb) (results_cell_row rfl _ _ w.heap.size 201 Gb (0,0) _ rfl (heap_alloc_last w _) underlying201 rfl U9) rfl ⟨rfl,(aQ _ _).alloc (ay _) _⟩
theorem adA (n:Nat) (hn:n<256) (w:af):Calls prog 178 #[.int .u8 n] w λe w'=>e= .returned (.int .i32 (Qj n))/\Below w.heap.size w w':=by
 by_cases h1:128<=n
 ·by_cases h2:n<160
  ·have h1':(n:Int)>=128:=by omega
   have h2':(n:Int)<160:=by omega
   obtain⟨j,rfl⟩: ∃j,n=128+j:=⟨n-128,by omega⟩;have hj:j<32:=by omega
   have hsub:IntKind.u8.wrap (((128+j:Nat):Int)-128)=(j:Int):=by rw[IntWalk.u8_in _ (by omega)];omega
   have hix: ∀w,(Instr.index 201 (.agg Gb) (.int .u8 (128+(j:Int)-128))).run prog w= .ok (.int .i32 (Kk.getD j 0:Nat)) w:=by
    rw[show(128+(j:Int)-128)=j from by omega];exact ach j hj
   go_enter func178,ntmps178
   go_wp2_with (go_at_call 207;refine(ahX _).mono ?_;rintro e w1 ⟨rfl,hb⟩;have HB:=hd' hb;clear hb;generalize Gb=oc at *)
   go_ret;exact⟨iN (by rw[Qj,au (by omega),QK];rfl),HB.o'⟩
  ·have h1':(n:Int)>=128:=by omega
   have h2': ¬(n:Int)<160:=by omega
   go_enter func178,ntmps178
   go_wp2_with fail
   go_ret;exact⟨iN (by rw[Qj,aj (by omega)]),aQ _ _⟩
 ·have h1': ¬(n:Int)>=128:=by omega
  go_enter func178,ntmps178
  go_wp2_with fail
  go_ret;exact⟨iN (by rw[Qj,aj (by omega)]),aQ _ _⟩
theorem aeP: ∀j:Nat,j<32->xP (Kk.getD j 0:Nat)=true/\Kk.getD j 0<=1114111:=by
 have h:((List.range 32).all λj=>xP (Kk.getD j 0:Nat)&&decide (Kk.getD j 0<=1114111))=true:=by decide +kernel
 intro j hj;have:=qF.1 h j (List.mem_range.2 hj);simpa using this
theorem Va {n:Int} (h:n=0\/xP n=false):Gc n=AR 0xfffd:=by unfold Gc aeR;rw[au h]
theorem Pw {n:Int} (hn:n≠0) (hc:xP n=true):aeR n=if 0x80<=n/\n<0xa0 then Kk.getD (n.toNat-0x80) 0 else n.toNat:=by
 unfold aeR;rw[aj];rintro(h|h)
 ·exact hn h
 ·rw[hc]at h;cases h
theorem aeQ {j:Nat} (hj:j<32):Gc ((128+j:Nat):Int)=AR (Kk.getD j 0):=by
 have hc:xP ((128+j:Nat):Int)=true:=(zQ _).2 ⟨by omega,by omega,by omega⟩;rw[Gc,Pw (by omega) hc,au (by omega),kg,QK]
theorem agd {n:Int} (hn:n≠0) (h: ¬(128<=n/\n<160)):encR n=Gc n:=by
 cases hc:xP n
 ·rw[Va (.inr hc),encR,hc];rfl
 ·rw[encR,au hc,Gc,Pw hn hc,aj h]
theorem af5 (r:Int): [r].flatMap encR=encR r:=by simp
theorem xx {a b:bH} (h:a=b):Ending.returned (.string (bA a))= .returned (.string (bA b)):=by rw[h]
theorem TB (r:Int) (g:Nat) (c:Nat) (w:af) (hr: -2147483648<=r/\r<=2147483647) (ha:At w (some ⟨g,0,none⟩) [.int .i32 r]) :
 Calls prog 179 #[.slice (some ⟨g,0,none⟩) 1 c] w λe w'=>e= .returned (.string (bA (encR r)))/\Below w.heap.size w w' :=
 (ZR [r] _ c w (by simp) (λq hq=>by rw[show q=r from by simpa using hq];exact hr) ha).mono λe w' ⟨h1,h2⟩=>⟨by rw[h1,af5],h2⟩
theorem ZG (n:Int) (w:af) (h0: -9223372036854775808<=n) (h1:n<=9223372036854775807):Calls prog 129 #[.int .i64 n] w λe w'=>e= .returned (.string (bA (Gc n)))/\Below w.heap.size w w':=by
 by_cases ha:n=0\/n<0\/1114111<n
 ·have hN:Hid (Gc n=encR 65533):=by
   show _=_;rw[Va]
   ·rfl
   ·rcases ha with h|h
    ·exact .inl h
    ·refine .inr ?_;cases hc:xP n
     ·rfl
     ·obtain⟨_,_,_⟩:=(zQ n).1 hc;omega
  have hat:=jy (w:=w) (di:= #[.int .i32 65533]) (e:=21) rfl rfl;have HE:=hd' (TB 65533 w.heap.size 1 _ (by omega) hat);have HB:=hd' ((aQ _ w).alloc (ay _) (.cells #[.int .i32 65533] 21));clear hat;rcases ha with h|h|h
  ·have h':(n==0)=true:=by simpa using h
   clear h;go_enter Ik,Ic
   go_wp2_with (go_at_call 179;refine HE.o'.mono ?_;rintro e w1 ⟨rfl,hb⟩;have HB1:=hd' hb;clear hb)
   go_ret;exact⟨xx hN.o'.symm,aK HB.o' HB1.o'⟩
  ·have h':(n==0)=false:=by simpa using (show n≠0 from by omega)
   go_enter Ik,Ic
   go_wp2_with (go_at_call 179;refine HE.o'.mono ?_;rintro e w1 ⟨rfl,hb⟩;have HB1:=hd' hb;clear hb)
   go_ret;exact⟨xx hN.o'.symm,aK HB.o' HB1.o'⟩
  ·have h':(n==0)=false:=by simpa using (show n≠0 from by omega)
   have h2: ¬n<0:=by omega
   go_enter Ik,Ic
   go_wp2_with (go_at_call 179;refine HE.o'.mono ?_;rintro e w1 ⟨rfl,hb⟩;have HB1:=hd' hb;clear hb)
   go_ret;exact⟨xx hN.o'.symm,aK HB.o' HB1.o'⟩
 ·have h':(n==0)=false:=by simpa using (show n≠0 from by omega)
  have hb1: ¬n<0:=by omega
  have hb2: ¬n>1114111:=by omega
  obtain⟨k,rfl⟩:=bQ (by omega:0<=n);by_cases hk:128<=k/\k<160
  ·obtain⟨hk1,hk2⟩:=hk;obtain⟨j,hkj⟩: ∃j,k=128+j:=⟨k-128,by omega⟩;have hj:j<32:=by omega
   obtain⟨c1,c2⟩:=aeP j hj
   have hN:Hid (Gc (k:Int)=encR (Kk.getD j 0:Nat)):=by
    show _=_;rw[hkj,aeQ hj,encR,au c1];rfl
   obtain⟨q,hq⟩: ∃q,q=Kk.getD j 0:=⟨_,rfl⟩;have h9:Qj k=q:=by rw[Qj,au (by omega),hkj,QK,hq]
   rw[<-hq]at hN c2;have HL:=hd' (adA k (by omega) w);rw[h9]at HL;have HE:=hd' (λu=>TB (q:Nat) (World.heap u).size 1 _ (by omega) (jy (w:=u) (di:= #[.int .i32 (q:Nat)]) (e:=21) rfl rfl));clear hq h9 ha c1 hkj hj;have hge:(k:Int)>=128:=by omega
   have hlt:(k:Int)<160:=by omega
   go_enter Ik,Ic
   go_wp2_with (first
    |(go_at_call 178;refine HL.o'.mono ?_;rintro e w1 ⟨rfl,hb⟩;have HB0:=hd' hb;clear hb)
    |(go_at_call 179;refine(HE.o' _).mono ?_;rintro e w2 ⟨rfl,hb⟩;have HB1:=hd' hb;clear hb))
   go_ret;exact⟨xx hN.o'.symm,aK HB0.o' (aK ((aQ _ _).alloc (ay _) _) HB1.o')⟩
  ·have hN:=hd' (agd (n:=(k:Int)) (by omega) (by omega));have HE:=hd' (λu=>TB (k:Nat) (World.heap u).size 1 _ (by omega) (jy (w:=u) (di:= #[.int .i32 (k:Nat)]) (e:=21) rfl rfl));clear ha;by_cases hk1:128<=k
   ·have hge:(k:Int)>=128:=by omega
    have hlt: ¬(k:Int)<160:=by omega
    clear hk;go_enter Ik,Ic
    go_wp2_with (first
     |(go_at_call 179;refine(HE.o' _).mono ?_;rintro e w2 ⟨rfl,hb⟩;have HB1:=hd' hb;clear hb))
    go_ret;exact⟨xx hN.o',aK ((aQ _ _).alloc (ay _) _) HB1.o'⟩
   ·have hge: ¬(k:Int)>=128:=by omega
    clear hk;go_enter Ik,Ic
    go_wp2_with (first
     |(go_at_call 179;refine(HE.o' _).mono ?_;rintro e w2 ⟨rfl,hb⟩;have HB1:=hd' hb;clear hb))
    go_ret;exact⟨xx hN.o',aK ((aQ _ _).alloc (ay _) _) HB1.o'⟩
theorem GV {s p:ae} {r:bH} (h:s.toList=p.toList++r) (w:af):Calls prog 126 #[.string s,.string p] w λe w'=>e= .returned (.tuple #[.string (bA r),.bool true])/\w=w':=by
 rw[dZ,dZ]at h;have h1:Lib.hasPrefix s.data.toList p.data.toList=true:=by rw[h];simp[Lib.hasPrefix]
 have h2:Lib.trimPrefix s.data.toList p.data.toList=r:=by rw[Lib.trimPrefix,au h1,h];simp
 refine(Ea s p w).mono λe w' ⟨he,hw⟩=>⟨?_,hw.symm⟩
 rw[he,h1,h2];rfl
theorem Dx {s p:ae} (h:p.toList.isPrefixOf s.toList=false) (w:af):Calls prog 126 #[.string s,.string p] w λe w'=>e= .returned (.tuple #[.string s,.bool false])/\w=w':=by
 rw[dZ,dZ]at h;have h1:Lib.hasPrefix s.data.toList p.data.toList=false:=h;have h2:Lib.trimPrefix s.data.toList p.data.toList=s.data.toList:=by rw[Lib.trimPrefix,h1];rfl
 refine(Ea s p w).mono λe w' ⟨he,hw⟩=>⟨?_,hw.symm⟩
 rw[he,h1,h2]
def TL (n:Nat):Bool:=decide (48<=n/\n<=57\/97<=n/\n<=122\/65<=n/\n<=90\/n=61)
theorem abn (c:ax):ZX c=TL c.toNat:=by
 unfold ZX TL;rw[rG];simp only[jD,cz,mX,cO,Hq,<-KN];simp only[show(48:ax).toNat=48 from rfl,show(57:ax).toNat=57 from rfl,show(97:ax).toNat=97 from rfl,show(122:ax).toNat=122 from rfl,show(65:ax).toNat=65 from rfl,show(90:ax).toNat=90 from rfl,show(61:ax).toNat=61 from rfl];omega
theorem adR (n:Nat) (hn:n<256) (w:af):Calls prog 131 #[.int .u8 n] w λe w'=>e= .returned (.bool (TL n))/\w=w':=by
 have HW:Hid (TL n=decide (48<=n/\n<=57\/97<=n/\n<=122\/65<=n/\n<=90\/n=61)):=by show _=_;rfl
 have hc:(48<=n/\n<=57)\/(97<=n/\n<=122)\/(65<=n/\n<=90)\/n=61\/n<48\/(57<n/\n<65/\n≠61)\/(90<n/\n<97)\/122<n:=by omega
 rcases hc with⟨a,b⟩|⟨a,b⟩|⟨a,b⟩|rfl|a|⟨a,b,c⟩|⟨a,b⟩|a
 all_goals
  go_enter func131,ntmps131
  go_wp2_with fail
  all_goals (go_ret;exact⟨bJ (by rw[HW.o'];first|(simp[*];done)|(rw[rG];simp;omega)),rfl⟩)
theorem XJ {r:bH} (h:(rP r).1=0):ru r=([],0):=by rw[ru,au h]
theorem Re {r:bH} (h:(rP r).1≠0) (h':(r.drop (xX r)).head?=some 59):ru r=(Gc (rP r).2,xX r+1+2):=by rw[ru,aj h,au h']
theorem FN {r:bH} (h:(rP r).1≠0) (h':(r.drop (xX r)).head?≠some 59):ru r=(Gc (rP r).2,xX r+2):=by rw[ru,aj h,aj h']
theorem J7 (b:Nat): ∀(k:Nat) (s:bH) (v:Nat),v<=0x110000->(nH b k s v).2<=0x110000
 |0,_,_,h=>h
 |_+1,[],_,h=>h
 |k+1,c::r,v,h=>by
  unfold nH;cases Zc b c with
  |none=>exact h
  |some d=>exact J7 b k r _ (Nat.min_le_right _ _)
theorem Yu (r:bH):(rP r).2<=1114112:=J7 _ _ _ _ (bD _)
theorem P9 (s:ae) (n:Nat) (h:n<s.size):(s.toList.drop n).head?=some s[n]:=by rw[drop_byte s n h];rfl
theorem P8 (s:ae) (n:Nat) (h: ¬n<s.size):(s.toList.drop n).head?=none:=by rw[iZ (by rw[aR];omega)];rfl
theorem acC (s:ae) (m:Nat) (h:m<s.size):(s.toList.take (m+1)).getLast?=some s[m]:=by
 have h':m<s.toList.length:=by rw[aR];exact h
 rw[jL h',QQ];simp only[dZ];rfl
theorem aa2 {b c:ax} (h:b=c):((b.toNat:Int)==(c.toNat:Int))=true:=by rw[h];simp
theorem agt {b c:ax} (h:b≠c):((b.toNat:Int) !=(c.toNat:Int))=true:=by rw[bne,KE h];rfl
theorem ac6 {b c:ax} (h:b=c):((b.toNat:Int) !=(c.toNat:Int))=false:=by rw[bne,aa2 h];rfl
theorem bV (l:bH):(bA l).size=l.length:=by rw[<-aR,bT]
theorem adt (s:ae) (r:bH) (attr:Bool) (w:af) (hs:s.size<=9223372036854775807) (h:s.toList=38::35::r):Calls prog 79 #[.string s,.bool attr] w λe w' =>
 e= .returned (.tuple #[.string (bA (bG s.toList attr).1),.int .i64 (bG s.toList attr).2])/\Below w.heap.size w w':=by
 have HT:Hid (bG s.toList attr=ru r):=by show _=_;rw[h,EB]
 have HC:=hd' (GV (s:=s) (p:=⟨#[38,35]⟩) (r:=r) (by rw[h,dZ];rfl) w);have hrs:r.length+2=s.size:=by rw[<-aR,h];simp
 obtain⟨rb,hrb⟩: ∃rb,rb=bA r:=⟨_,rfl⟩;have hrl:rb.toList=r:=by rw[hrb,bT]
 have hsz:rb.size=r.length:=by rw[hrb,bV]
 have HN:=hd' (MG rb w (by omega));have hle:=aaq r;have hbd:=Yu r;rw[hrl]at HN;rw[<-hrb]at HC;obtain⟨n,hn⟩: ∃n,n=xX r:=⟨_,rfl⟩;obtain⟨v,hv⟩: ∃v,v=(rP r).2:=⟨_,rfl⟩;have hnr:n<=rb.size:=by omega
 have hr2:rb.size<=9223372036854775805:=by omega
 rw[<-hn,<-hv]at HN;rw[<-hv]at hbd;have HX:=hd' (λu=>ZG (v:Nat) u (by omega) (by omega));by_cases hc:(rP r).1=0
 ·have HR:=hd' (XJ hc);rw[hc]at HN;clear h hrs hrb hrl hsz hle hn hv hc;go_enter wW,wV
  go_wp2_with (first
   |(go_at_call 126;refine HC.o'.mono ?_;rintro e w1 ⟨rfl,rfl⟩)
   |(go_at_call 127;refine HN.o'.mono ?_;rintro e w1 ⟨rfl,rfl⟩))
  go_ret2;exact⟨lL (by rw[HT.o',HR.o'];rfl) (by rw[HT.o',HR.o'];rfl),aQ _ _⟩
 ·rw[pI (by omega:0<(rP r).1)]at HN;by_cases hlt:n<rb.size
  ·have hhd:=P9 rb n hlt;rw[hrl]at hhd;by_cases Y2:rb[n]=59
   ·have HR:=hd' (Re hc (by rw[<-hn,hhd,Y2]));have he:((rb[n].toNat:Int)==59)=true:=aa2 Y2;rw[<-hn,<-hv]at HR;clear h hrs hrb hrl hsz hle hn hv hc hhd Y2;go_enter wW,wV
    go_wp2_with (first
     |(go_at_call 126;refine HC.o'.mono ?_;rintro e w1 ⟨rfl,rfl⟩)
     |(go_at_call 127;refine HN.o'.mono ?_;rintro e w1 ⟨rfl,rfl⟩)
     |(go_at_call 129;refine(HX.o' _).mono ?_;rintro e w1 ⟨rfl,hb⟩;have HB:=hd' hb;clear hb))
    go_ret2;exact⟨lL (by rw[HT.o',HR.o']) (by rw[HT.o',HR.o'];show _=((n+1+2:Nat):Int);omega),HB.o'⟩
   ·have HR:=hd' (FN hc (by rw[<-hn,hhd];simpa using Y2));have he:((rb[n].toNat:Int)==59)=false:=KE Y2;rw[<-hn,<-hv]at HR;clear h hrs hrb hrl hsz hle hn hv hc hhd Y2;go_enter wW,wV
    go_wp2_with (first
     |(go_at_call 126;refine HC.o'.mono ?_;rintro e w1 ⟨rfl,rfl⟩)
     |(go_at_call 127;refine HN.o'.mono ?_;rintro e w1 ⟨rfl,rfl⟩)
     |(go_at_call 129;refine(HX.o' _).mono ?_;rintro e w1 ⟨rfl,hb⟩;have HB:=hd' hb;clear hb))
    go_ret2;exact⟨lL (by rw[HT.o',HR.o']) (by rw[HT.o',HR.o'];show _=((n+2:Nat):Int);omega),HB.o'⟩
  ·have hhd:=P8 rb n hlt;rw[hrl]at hhd;have HR:=hd' (FN hc (by rw[<-hn,hhd];simp));rw[<-hn,<-hv]at HR;clear h hrs hrb hrl hsz hle hn hv hc hhd;go_enter wW,wV
   go_wp2_with (first
    |(go_at_call 126;refine HC.o'.mono ?_;rintro e w1 ⟨rfl,rfl⟩)
    |(go_at_call 127;refine HN.o'.mono ?_;rintro e w1 ⟨rfl,rfl⟩)
    |(go_at_call 129;refine(HX.o' _).mono ?_;rintro e w1 ⟨rfl,hb⟩;have HB:=hd' hb;clear hb))
   go_ret2;exact⟨lL (by rw[HT.o',HR.o']) (by rw[HT.o',HR.o'];show _=((n+2:Nat):Int);omega),HB.o'⟩
theorem JO {r:bH} {attr:Bool} (h:refused r attr=true):qN r attr=([],0):=by rw[qN,au h]
theorem Rf {r:bH} {attr:Bool} (h:refused r attr=false):qN r attr=((findF r).1,(findF r).2+1):=by rw[qN,h];rfl
theorem F3 {r:bH} {attr:Bool} (h:(findF r).2=0):refused r attr=true:=by simp[refused,h]
theorem Ol {r:bH} (h:(findF r).2≠0):refused r false=false:=by simp[refused,h]
theorem Ru {r:bH} {attr:Bool} (h:(findF r).2≠0) (h':(r.take (findF r).2).getLast?=some 59):refused r attr=false:=by simp[refused,h,h']
theorem UE {r:bH} {attr:Bool} (h:(findF r).2≠0) (h':(r.drop (findF r).2).head?=none):refused r attr=false:=by simp[refused,h,h']
theorem Rt {r:bH} {c d:ax} (h:(findF r).2≠0) (h':(r.take (findF r).2).getLast?=some c) (hc:c≠59) (hd:(r.drop (findF r).2).head?=some d):refused r true=ZX d:=by
 unfold refused;rw[h',hd,show((findF r).2==0)=false from by simpa using h,show(some c==some (59:ax))=false from by simpa using hc];rfl
theorem aak {r:bH} (h:r.head?≠some 35):([38,35]:bH).isPrefixOf (38::r)=false:=by
 rw[Ag];intro h';obtain⟨t,ht⟩:=Iw.1 h';simp only[mq,jZ,Lu,BD]at ht;rw[<-ht]at h;exact h rfl
theorem aeB {s:bH} (h:s.head?≠some 38) (q:bH):(38::q:bH).isPrefixOf s=false:=by
 rw[Ag];intro h';obtain⟨t,ht⟩:=Iw.1 h';rw[<-ht]at h;exact h rfl
theorem b38:(⟨#[38]⟩:ae).toList= [38]:=by rw[dZ]
theorem WA:(⟨#[38,35]⟩:ae).toList= [38,35]:=by rw[dZ]
theorem ads (s:ae) (r:bH) (attr:Bool) (w:af) (hs:s.size<=9223372036854775807) (h:s.toList=38::r) (h35:r.head?≠some 35):Calls prog 79 #[.string s,.bool attr] w λe w' =>
 e= .returned (.tuple #[.string (bA (bG s.toList attr).1),.int .i64 (bG s.toList attr).2])/\w=w':=by
 have HT:Hid (bG s.toList attr=qN r attr):=by show _=_;rw[h,IJ h35]
 have HC:=hd' (Dx (s:=s) (p:=⟨#[38,35]⟩) (by rw[h,WA];exact aak h35) w);have ZO:=hd' (GV (s:=s) (p:=⟨#[38]⟩) (r:=r) (by rw[h,dZ];rfl) w);have hrs:r.length+1=s.size:=by rw[<-aR,h];simp
 obtain⟨rb,hrb⟩: ∃rb,rb=bA r:=⟨_,rfl⟩;have hrl:rb.toList=r:=by rw[hrb,bT]
 have hsz:rb.size=r.length:=by rw[hrb,bV]
 have hf:=ag7 rb w (by omega);have hle:=VZ r;rw[hrl]at hf;rw[<-hrb]at ZO;have hr2:rb.size<=9223372036854775806:=by omega
 obtain⟨t,ht⟩: ∃t,t=bA (findF r).1:=⟨_,rfl⟩;rw[<-ht]at hf;have HFT:=hd' ht;cases hn:(findF r).2 with
 |zero =>
  have HR:=hd' (JO (attr:=attr) (F3 hn));rw[hn]at hf;have HF:=hd' hf;clear h hrs hrb hrl hsz hle hn hf ht h35;go_enter wW,wV
  go_wp2_with (first
   |(go_at_call 126;(first|(with_reducible refine HC.o'.mono ?_)|(with_reducible refine ZO.o'.mono ?_));rintro e w1 ⟨rfl,rfl⟩)
   |(go_at_call 130;refine HF.o'.mono ?_;rintro e w1 ⟨rfl,rfl⟩))
  go_ret2;exact⟨lL (by rw[HT.o',HR.o'];rfl) (by rw[HT.o',HR.o'];rfl),rfl⟩
 |succ m =>
  have hn0:(findF r).2≠0:=by omega
  have hy:=Rf (r:=r) (attr:=attr);have hno:=JO (r:=r) (attr:=attr);rw[hn]at hf hle hy;have hm:m<rb.size:=by omega
  have hlast:=acC rb m hm;rw[hrl,<-hn]at hlast
  have HF:Hid (Calls prog 130 #[.string rb] w λe w'=>e= .returned (.tuple #[.string t,.int .i64 ((m:Int)+1)])/\w=w'):=by
   have e:((m+1:Nat):Int)=(m:Int)+1:=by omega
   rw[e]at hf;exact hd' hf
  have HFT:=hd' ht;cases attr
  ·have HR:=hd' (hy (Ol hn0));clear h hrs hrb hrl hsz hle hn hf ht h35 hn0 hy hno hlast;go_enter wW,wV
   go_wp2_with (first
    |(go_at_call 126;(first|(with_reducible refine HC.o'.mono ?_)|(with_reducible refine ZO.o'.mono ?_));rintro e w1 ⟨rfl,rfl⟩)
    |(go_at_call 130;refine HF.o'.mono ?_;rintro e w1 ⟨rfl,rfl⟩))
   go_ret2;exact⟨lL (by rw[HT.o',HR.o',<-HFT.o']) (by rw[HT.o',HR.o'];show _=((m+1+1:Nat):Int);omega),rfl⟩
  ·by_cases Y2:rb[m]=59
   ·have HR:=hd' (hy (Ru hn0 (by rw[hlast,Y2])));have he:((rb[m].toNat:Int) !=59)=false:=ac6 Y2;clear h hrs hrb hrl hsz hle hn hf ht h35 hn0 hy hno hlast Y2;go_enter wW,wV
    go_wp2_with (first
     |(go_at_call 126;(first|(with_reducible refine HC.o'.mono ?_)|(with_reducible refine ZO.o'.mono ?_));rintro e w1 ⟨rfl,rfl⟩)
     |(go_at_call 130;refine HF.o'.mono ?_;rintro e w1 ⟨rfl,rfl⟩))
    go_ret2;exact⟨lL (by rw[HT.o',HR.o',<-HFT.o']) (by rw[HT.o',HR.o'];show _=((m+1+1:Nat):Int);omega),rfl⟩
   ·have he:((rb[m].toNat:Int) !=59)=true:=agt Y2;by_cases hlt:m+1<rb.size
    ·have hhd:=P9 rb (m+1) hlt;rw[hrl]at hhd;have hu:=rb[m+1].toNat_lt;have hw:=adR rb[m+1].toNat (by omega) w;have hrw:=Rt hn0 hlast Y2 (by rw[hn];exact hhd);rw[abn]at hrw;have hlt':(m:Int)+1<(rb.size:Int):=by omega
     cases hwd:TL rb[m+1].toNat
     ·rw[hwd]at hw hrw;have HW:=hd' hw;have HR:=hd' (hy hrw);clear h hrs hrb hrl hsz hle hn hf ht h35 hn0 hy hno hlast Y2 hhd hu hw hrw hwd;go_enter wW,wV
      go_wp2_with (first
       |(go_at_call 126;(first|(with_reducible refine HC.o'.mono ?_)|(with_reducible refine ZO.o'.mono ?_));rintro e w1 ⟨rfl,rfl⟩)
       |(go_at_call 130;refine HF.o'.mono ?_;rintro e w1 ⟨rfl,rfl⟩)
       |(go_at_call 131;refine HW.o'.mono ?_;rintro e w1 ⟨rfl,rfl⟩))
      go_ret2;exact⟨lL (by rw[HT.o',HR.o',<-HFT.o']) (by rw[HT.o',HR.o'];show _=((m+1+1:Nat):Int);omega),rfl⟩
     ·rw[hwd]at hw hrw;have HW:=hd' hw;have HR:=hd' (hno hrw);clear h hrs hrb hrl hsz hle hn hf ht h35 hn0 hy hno hlast Y2 hhd hu hw hrw hwd;go_enter wW,wV
      go_wp2_with (first
       |(go_at_call 126;(first|(with_reducible refine HC.o'.mono ?_)|(with_reducible refine ZO.o'.mono ?_));rintro e w1 ⟨rfl,rfl⟩)
       |(go_at_call 130;refine HF.o'.mono ?_;rintro e w1 ⟨rfl,rfl⟩)
       |(go_at_call 131;refine HW.o'.mono ?_;rintro e w1 ⟨rfl,rfl⟩))
      go_ret2;exact⟨lL (by rw[HT.o',HR.o'];rfl) (by rw[HT.o',HR.o'];rfl),rfl⟩
    ·have HR:=hd' (hy (UE hn0 (by rw[hn,<-hrl,P8 rb (m+1) hlt])));have hlt': ¬(m:Int)+1<(rb.size:Int):=by omega
     clear h hrs hrb hrl hsz hle hn hf ht h35 hn0 hy hno hlast Y2 hlt;go_enter wW,wV
     go_wp2_with (first
      |(go_at_call 126;(first|(with_reducible refine HC.o'.mono ?_)|(with_reducible refine ZO.o'.mono ?_));rintro e w1 ⟨rfl,rfl⟩)
      |(go_at_call 130;refine HF.o'.mono ?_;rintro e w1 ⟨rfl,rfl⟩))
     go_ret2;exact⟨lL (by rw[HT.o',HR.o',<-HFT.o']) (by rw[HT.o',HR.o'];show _=((m+1+1:Nat):Int);omega),rfl⟩
theorem NY (s:ae) (attr:Bool) (w:af) (hs:s.size<=9223372036854775807):Calls prog 79 #[.string s,.bool attr] w λe w' =>
 e= .returned (.tuple #[.string (bA (bG s.toList attr).1),.int .i64 (bG s.toList attr).2])/\Below w.heap.size w w':=by
 have key:s.toList.head?≠some 38->Calls prog 79 #[.string s,.bool attr] w λe w'=>e= .returned (.tuple #[.string (bA (bG s.toList attr).1),.int .i64 (bG s.toList attr).2])/\Below w.heap.size w w':=by
  intro hh;have hp:=aeB hh;have HT:Hid (bG s.toList attr=([],0)):=by show _=_;rw[bG,hp,hp];rfl
  have HC:=hd' (Dx (s:=s) (p:=⟨#[38,35]⟩) (by rw[WA];exact hp [35]) w);have ZO:=hd' (Dx (s:=s) (p:=⟨#[38]⟩) (by rw[b38];exact hp []) w);clear hp hh;go_enter wW,wV
  go_wp2_with (go_at_call 126;(first|(with_reducible refine HC.o'.mono ?_)|(with_reducible refine ZO.o'.mono ?_));rintro e w1 ⟨rfl,rfl⟩)
  go_ret2;exact⟨lL (by rw[HT.o'];rfl) (by rw[HT.o'];rfl),aQ _ _⟩
 rcases DC s.toList with⟨r,h⟩|⟨r,h,h'⟩|⟨c,r,h,h'⟩|h
 ·exact adt s r attr w hs h
 ·exact(ads s r attr w hs h h').mono λe w' ⟨h1,h2⟩=>⟨h1,by subst h2;exact aQ _ _⟩
 ·exact key (by rw[h];simpa using h')
 ·exact key (by rw[h];simp)
theorem age (c:Nat):(AR c).length<=4:=Qf c
theorem Jj (s:ae) (a:Nat):(s.extract a s.size).toList=s.toList.drop a:=by
 rw[ext_list,iH (by rw[dN,aR];omega)]
theorem gL (s:bH) (attr:Bool) (h:(bG s attr).2≠0):(bG s attr).1.length<=2*(bG s attr).2:=by
 rcases DC s with⟨r,rfl⟩|⟨r,rfl,h35⟩|⟨c,r,rfl,hc⟩|rfl
 ·rw[EB]at h |-;unfold ru at h |-;by_cases h0:(rP r).1=0
  ·rw[au h0]at h;exact absurd rfl h
  ·rw[aj h0];have:=age (aeR (rP r).2);have hn:xX r=kN r+(rP r).1:=rfl;show(Gc _).length<=_;unfold Gc;split <;>simp only <;>omega
 ·rw[IJ h35]at h |-;unfold qN at h |-;cases hr:refused r attr
  ·rw[hr]at h;simp only[gQ,dM];have hk: ∀k∈keys,k.2.length<=2*k.1.length:=by decide +kernel
   rcases(Ns r).1 with⟨h1,_⟩|⟨h1,h2,h3⟩
   ·rw[F3 h1]at hr;cases hr
   ·have:=hk _ h3;simp only[fV]at this;omega
  ·rw[hr]at h;exact absurd rfl h
 ·rw[JP hc]at h;exact absurd rfl h
 ·rw[O4]at h;exact absurd rfl h
theorem WL (attr:Bool): ∀(n:Nat) (s:bH),s.length<=n->(uO s attr).length<=2*s.length:=by
 intro n
 induction n with
 |zero =>
  intro s hs;have:s= []:=rF (by omega);subst this;simp[WK]
 |succ n ih =>
  intro s hs;cases s with
  |nil=>simp[WK]
  |cons c r =>
   simp only[dB]at hs;rw[DD];by_cases h:c=38/\(bG (c::r) attr).2≠0
   ·rw[au h,fC];have h1:=gL (c::r) attr h.2;have h2:=FO (c::r) attr;have h3:=ih ((c::r).drop (bG (c::r) attr).2) (by rw[dN,dB];have:=h.2;omega);rw[dN]at h3;omega
   ·rw[aj h];have:=ih r (by omega);simp only[dB];omega
theorem WJ (attr:Bool) (x:bH): ∀p:bH,(∀c∈p,c≠38)->uO (p++x) attr=p++uO x attr
 | [],_=>rfl
 |c::r,h=>by
  rw[mq,NR (h c dR),WJ attr x r λd hd=>h d (gm _ hd)];rfl
theorem acN (s:ae):(Lib.indexByte s.data.toList 38= -1/\ ∀c∈s.toList,c≠38)\/ ∃i r,Lib.indexByte s.data.toList 38=(i:Nat)/\i<s.size/\s.toList.drop i=38::r/\ ∀c∈s.toList.take i,c≠38:=by
 rw[dZ];rcases mZ (Lib.indexByte s.data.toList 38) 0 with h|h
 ·have h1:Lib.indexByte s.data.toList 38= -1:=by have:=Lib.indexByte_ge s.data.toList 38;omega
  refine .inl ⟨h1,λc hc e=> ?_⟩;obtain⟨k,hk,rfl⟩:=pR hc;exact Lib.indexByte_none h1 k (by rw[mi hk,e])
 ·obtain⟨i,hi⟩:=bQ h;obtain⟨h1,h2⟩:=Lib.indexByte_some hi;obtain⟨hl,he⟩:=En.1 h1;refine .inr ⟨i,s.data.toList.drop (i+1),hi,by simpa using hl,by rw[kR hl,he],λc hc e=> ?_⟩;obtain⟨k,hk,hke⟩:=pR hc;simp only[fV]at hk;rw[List.getElem_take]at hke;exact h2 k (by omega) (by rw[mi (by omega),hke,e])
def XR:ak->Nat
 | .string s=>s.size
 |_=>0
theorem BQ (s:ae):Lib.strCells s=bZ s.toList:=by rw[dZ];rfl
theorem iU (l r:bH):bZ (l++r)=bZ l++bZ r:=by simp[bZ]
theorem aiW {attr:Bool} {r:bH} (h:(bG (38::r) attr).2≠0):uO (38::r) attr=(bG (38::r) attr).1++uO ((38::r).drop (bG (38::r) attr).2) attr:=by rw[DD,au ⟨rfl,h⟩]
theorem agC {attr:Bool} {r:bH} (h:(bG (38::r) attr).2=0):uO (38::r) attr=38::uO r attr:=by rw[DD,aj (λh'=>h'.2 h)]
theorem jc {T e:TypeId} {B b:Nat} {bs:List ak} {w w':af} (h:Lib.IsBuilderF T e B b bs w) (hb:Below w.heap.size w w'):Lib.IsBuilderF T e B b bs w':=by
 have key: ∀p,Lib.BuilderAtF T e B b p bs w->Lib.BuilderAtF T e B b p bs w':=λp hp=>by
  have hlt:=hp.lt;obtain⟨hB,v,hh,hown,hne⟩:=hp;exact⟨hB,v,(hb.block b hlt).trans hh,hown.kept (row:=none) ⟨hb.os,hb.tape,hb.output,hb.size,λk hk _=>hb.block k hk⟩ (by cases hv:v.ownBlock <;>simp),hne⟩
 exact h.imp (key _) (key _)
theorem abl (s:ae) (attr:Bool) (w:af) (hs:s.size<=1099511627776):Calls prog 186 #[.string s,.bool attr] w λe w'=>e= .returned (.string (bA (uO s.toList attr)))/\Below w.heap.size w w':=by
 have aqT:Hid ((uO s.toList attr).length<=2199023255552):=hd' (by have:=WL attr _ s.toList (ay _);rw[aR]at this;omega);go_enter func186,ntmps186
 go_wp2_with fail
 go_loopw [0] (λv wr=> ∃(di:ae) (acc:bH),v= .string di/\di.size<=s.size/\Lib.IsBuilderF 75 5 w.heap.size w.heap.size (bZ acc) wr/\Below w.heap.size w wr/\acc++uO di.toList attr=uO s.toList attr) (λv _=>XR v)
 case atStart=>exact⟨s,[],rfl,ay _,QY (QW 75 5 w),(aQ _ _).alloc (ay _) _,rfl⟩
 case round =>
  obtain⟨di,acc,rfl,hcs,hI,hb,hv⟩:=hrel;have HI:=hd' hI;have HB:=hd' hb;have HV:=hd' hv;have hsz:=hb.size;have hacc:acc.length+(uO di.toList attr).length<=2199023255552:=by have:=aqT.o';rw[<-hv,fC]at this;exact this
  have apS:di.size<=1099511627776:=by omega
  clear hI hb hv;rcases acN di with⟨h1,h2⟩|⟨i,r,h1,hi,hdr,hpre⟩
  ·have hix: ∀u,Calls prog 45 #[.string di,.int .u8 38] u _:=λu=>rq di 38 u
   have e38:(38:Int).toNat.toUInt8=38:=rfl;rw[e38,h1]at hix;have hap:=NQ attr di.toList h2;rw[hap]at hacc;have JJ:=hd' hix;have HAP:=hd' hap;have hbl:(bZ acc).length+di.size<=140737488355328:=by rw[dP,<-aR];omega
   have HBL:=hd' hbl;clear hix h1 h2 hap hacc hbl e38
   go_wp2_with (first
    |(go_at_call 45;refine(JJ.o' _).mono ?_;rintro e w1 ⟨rfl,rfl⟩)
    |(go_at_call 30;refine(gG w.heap.size w.heap.size _ di _ HI.o' HBL.o' hsz).mono ?_;rintro e W1 ⟨rfl,g1,b1,k1⟩;have HG1:=hd' g1;have HB1:=hd' b1;have hs1:=b1.size;have HI2:=hd' (show Lib.IsBuilderF 75 5 w.heap.size w.heap.size (Lib.byteCells (acc++di.toList)) W1 from by rw[show Lib.byteCells (acc++di.toList)=bZ acc++Lib.strCells di from by rw[BQ];exact iU _ _];exact .inr g1);have hs2:=bY hsz (ay _);clear g1 b1 k1)
    |(go_at_call 32;refine(sH w.heap.size w.heap.size _ _ HI2.o' (by have:=HB1.o'.size;omega)).mono ?_;rintro e W2 ⟨rfl,g2,b2,k2⟩;have HB2:=hd' b2;clear g2 b2 k2))
   go_ret;exact⟨xx (by rw[<-HV.o',HAP.o']),(HB.o'.trans HB1.o').trans HB2.o'⟩
  ·have hix: ∀u,Calls prog 45 #[.string di,.int .u8 38] u _:=λu=>rq di 38 u
   have e38:(38:Int).toNat.toUInt8=38:=rfl;rw[e38,h1]at hix;have JJ:=hd' hix;have hcl:(di.extract 0 i).toList=di.toList.take i:=by rw[ext_list,xh,Ef]
   have hrl:(di.extract i di.size).toList=38::r:=by rw[Jj,hdr]
   have hall:uO di.toList attr=di.toList.take i++uO (38::r) attr:=by
    conv=>lhs;rw[<-nQ i di.toList,hdr]
    exact WJ attr _ _ hpre
   have htk:=λu=>NY (di.extract i di.size) attr u (by rw[Ac];omega)
   rw[hrl]at htk;have YY:=FO (38::r) attr;have hrlen:(38::r:bH).length=di.size-i:=by rw[<-hdr,dN,aR]
   rw[hall,fC]at hacc;have hcz:(di.extract 0 i).size=(di.toList.take i).length:=by rw[<-aR,hcl]
   have hbl:(bZ acc).length+(di.extract 0 i).size<=140737488355328:=by rw[dP,hcz];omega
   have HBL:=hd' hbl;have hdn: ∀n:Nat,(di.extract (i+n) di.size).toList=(38::r:bH).drop n:=λn=>by rw[Jj,<-hdr,BL]
   have HDN:=hd' hdn;have aod:=hd' hall
   have am1: ∀W,Lib.BuilderAtF 75 5 w.heap.size w.heap.size (.pointer (some ⟨w.heap.size,0,none⟩)) (bZ acc++Lib.strCells (di.extract 0 i)) W->Lib.IsBuilderF 75 5 w.heap.size w.heap.size (bZ (acc++di.toList.take i)) W:=λW hW=>by
    rw[iU,<-hcl,<-BQ];exact .inr hW
   have an8:=hd' am1;clear hix h1 hcl hrl hdr hpre hall e38 hbl hdn hcz am1;by_cases hn0:(bG (38::r) attr).2=0
   ·have HM:=hd' (agC hn0);rw[hn0]at htk;have HTK:=hd' htk;rw[HM.o',dB]at hacc;have hr1:i+1<=di.size:=by simp only[dB]at hrlen;omega
    have Y1:(bZ (acc++di.toList.take i)).length+(⟨#[38]⟩:ae).size<=140737488355328:=by rw[dP,fC];show _+1<=_;omega
    have alC:=hd' Y1;clear htk hn0 YY hrlen Y1 hacc;go_wp2_with (go_at_call 45;refine(JJ.o' _).mono ?_;rintro e w1 ⟨rfl,rfl⟩)
    refine(gG w.heap.size w.heap.size _ (di.extract 0 i) _ HI.o' HBL.o' hsz).mono ?_;rintro e W1 ⟨rfl,g1,b1,k1⟩;have HI2:=hd' (an8.o' _ g1);have HB1:=hd' (HB.o'.trans b1);have hs1:=bY hsz b1.size;clear g1 b1 k1;dsimp only;go_wp2_with (go_at_call 79;fail)
    refine(HTK.o' _).mono ?_;rintro e W2 ⟨rfl,hb2⟩;have HI3:=hd' (jc HI2.o' hb2);have HB2:=hd' (aK HB1.o' hb2);have hs2:=bY hs1 hb2.size;clear hb2;dsimp only;go_wp2_with (go_at_call 30;fail)
    refine(gG w.heap.size w.heap.size _ ⟨#[38]⟩ _ HI3.o' alC.o' hs2).mono ?_;rintro e W3 ⟨rfl,g1,b1,k1⟩;have HI4:=hd' g1;have HB3:=hd' (HB2.o'.trans b1);clear g1 b1 k1;dsimp only;go_wp2_with fail
    go_roundw
    case rel =>
     refine⟨di.extract (i+1) di.size,acc++di.toList.take i++ [38],rfl,by rw[Ac];omega,?_,HB3.o',?_⟩
     ·rw[iU];exact .inr HI4.o'
     ·rw[<-HV.o',aod.o',HM.o',HDN.o'];simp
    case measure=>simp only[XR,Ac];omega
   ·have HM:=hd' (aiW hn0);have amO:=gL (38::r) attr hn0;obtain⟨n,hn⟩: ∃n,n=(bG (38::r) attr).2:=⟨_,rfl⟩;rw[HM.o',fC]at hacc;rw[<-hn]at htk hn0 YY HM hacc;have hnz:((n:Nat):Int)≠0:=by omega
    have auN:(((n:Nat):Int)==0)=false:=by rw[aV];exact hnz
    have hin:i+n<=di.size:=by omega
    have hn1:1<=n:=by omega
    have HTK:=hd' htk;have Y1:(bZ (acc++di.toList.take i)).length+(bA (bG (38::r) attr).1).size<=140737488355328:=by rw[dP,fC,bV];omega
    have alC:=hd' Y1;clear htk hn0 YY hrlen Y1 hacc hn amO hnz;go_wp2_with (go_at_call 45;refine(JJ.o' _).mono ?_;rintro e w1 ⟨rfl,rfl⟩)
    refine(gG w.heap.size w.heap.size _ (di.extract 0 i) _ HI.o' HBL.o' hsz).mono ?_;rintro e W1 ⟨rfl,g1,b1,k1⟩;have HI2:=hd' (an8.o' _ g1);have HB1:=hd' (HB.o'.trans b1);have hs1:=bY hsz b1.size;clear g1 b1 k1;dsimp only;go_wp2_with (go_at_call 79;fail)
    refine(HTK.o' _).mono ?_;rintro e W2 ⟨rfl,hb2⟩;have HI3:=hd' (jc HI2.o' hb2);have HB2:=hd' (aK HB1.o' hb2);have hs2:=bY hs1 hb2.size;clear hb2;dsimp only;go_wp2_with (go_at_call 30;fail)
    refine(gG w.heap.size w.heap.size _ (bA (bG (38::r) attr).1) _ HI3.o' alC.o' hs2).mono ?_;rintro e W3 ⟨rfl,g1,b1,k1⟩;have HI4:=hd' g1;have HB3:=hd' (HB2.o'.trans b1);clear g1 b1 k1;dsimp only;go_wp2_with fail
    go_roundw
    case rel =>
     refine⟨di.extract (i+n) di.size,acc++di.toList.take i++(bG (38::r) attr).1,rfl,by rw[Ac];omega,?_,HB3.o',?_⟩
     ·rw[iU];exact .inr HI4.o'
     ·rw[<-HV.o',aod.o',HM.o',HDN.o'];simp
    case measure=>simp only[XR,Ac];omega
end Go.Proofs.YtnlbcifhedjbfaaGreatDoor.Rd
