/- oZ joined for a claim: aoH, aqo: plain laws and contracts. No conditions beyond those that each lemma types. -/
import Derived.Test.YtnlbcifhedjbfaaGreatDoorU18
import Derived.Test.YtnlbcifhedjbfaaGreatDoorU19
import Derived.BigQuiet
import Derived.BigRegion
import Derived.Deep.DeepMust
import Derived.Laws.Runes
import Derived.Lib.Hide
import Derived.Lib.IndexLaws
import Derived.WalkMore
set_option linter.unusedVariables false
set_option linter.unusedSimpArgs false
set_option maxRecDepth 100000
set_option maxHeartbeats 8000000
open Go.Proofs.Tryz
section
namespace Go.Proofs.YtnlbcifhedjbfaaGreatDoor.Rd
open Go.RowKit Mem
theorem OD (r:Int) (w:af):Calls prog 175 #[.int .i32 r] w λe w'=>e= .returned (.bool (validRune r))/\w=w':=by
 have HV:=hd' (show validRune r=decide ((0<=r/\r<55296)\/(57343<r/\r<=1114111))from rfl);go_enter func175,ntmps175
 go_wp2
 all_goals go_ret
 all_goals exact⟨bJ (by rw[HV.o'];symm;first|exact pI (by omega)|exact qB (by omega)),rfl⟩
def xW (s:ae):Prop:= ∀(j:Nat) b,s.data.toList[j]?=some b->b.toNat<128
theorem xW.mem {s:ae} (h:xW s): ∀b∈s.data.toList,b.toNat<128:=λb hb=>by
 obtain⟨j,hj,rfl⟩:=pR hb;exact h j _ (mi hj)
theorem xW.ext {s:ae} (h:xW s) (a e:Nat) (c:ax) (hc:128<=c.toNat):Lib.indexByte (s.extract a e).data.toList c= -1:=by
 rcases mZ (Lib.indexByte (s.extract a e).data.toList c) 0 with h0|h0
 ·have:=Lib.indexByte_ge (s.extract a e).data.toList c;omega
 ·obtain⟨i,hi⟩:=bQ h0;have h1:=(Lib.indexByte_some hi).1;have:=h.mem c (mem_extract (El h1));omega
theorem ML {s:ae} (h:xW s) (i:Nat) (hi:i<s.size):s[i].toNat<128:=h i _ (yQ s i hi)
theorem OG (s:ae) (w:af) (ha:xW s) :
 Calls prog 123 #[.string s,.int .i32 65533] w λe w'=>e= .returned (.int .i64 (-1))/\Below w.heap.size w w':=by
 have HA:=hd' ha;clear ha;go_enter func123,ntmps123
 go_wp2_with fail
 go_loopg [5,6] s.size (λg _ _ wx=> ∃i:Nat,i+g=s.size/\wx=w.iter s i)
 case atStart=>exact⟨0,by omega,rfl⟩
 case round =>
  obtain⟨i,hig,rfl⟩:=hrel;cases gk with
  |zero =>
   obtain rfl:i=s.size:=by omega
   have hnx:=run_next_end (P:=prog) w s s.size;go_wp2_with fail
   go_ret;exact⟨rfl,(aQ _ _).alloc (ay _) _⟩
  |succ g =>
   have hi:i<s.size:=by omega
   have hx128:=ML HA.o' i hi;have hnx:=λty=>run_next_ascii (P:=prog) w s i ty hi hx128
   generalize s[i]=x at *;go_wp2_with fail
   go_roundg g
   case measure=>omega
   case rel=>exact⟨i+1,by omega,rfl⟩
theorem agu {a c:ax} (ha:a.toNat<128) (hc:128<=c.toNat):((a.toNat:Int)==(c.toNat:Int))=false:=by
 rw[aV];omega
theorem Oa (s:ae) (r:Int) (w:af) (h0:128<=r) (ha:xW s) :
 Calls prog 123 #[.string s,.int .i32 r] w λe w'=>e= .returned (.int .i64 (-1))/\Below w.heap.size w w':=by
 by_cases he:r=65533
 ·subst he;exact OG s w ha
 have hne:(r==65533)=false:=aV.2 he;have hvr:=λu=>OD r u
 cases hv:validRune r
 ·rw[hv]at hvr;have HVR:=hd' hvr;clear hvr ha hv he;go_enter func123,ntmps123
  go_wp2_with (go_at_call 175;refine(HVR.o' _).mono ?_;rintro e w1 ⟨rfl,rfl⟩)
  go_ret;exact⟨rfl,aQ _ _⟩
 ·obtain⟨z2,z4,zl⟩:=encode_facts r (by rw[validRune_eq];exact hv) h0;obtain⟨rs,hrs⟩: ∃rs,rs=Utf8.encode r:=⟨_,rfl⟩;have Nh:=λu=>run_convert_int_string (P:=prog) u 21 9 .i32 r (by rw[Hu];rfl) jK
  rw[<-hrs]at z2 z4 zl Nh;obtain⟨L,hL⟩: ∃L,L+1=rs.size:=⟨rs.size-1,by omega⟩;have hLs:L<rs.size:=by omega
  have hlast:128<=(rs[L]'hLs).toNat:=by
   have:=zl (by omega);simp only[show rs.size-1=L from by omega]at this;exact this
  rw[hv]at hvr;have HVR:=hd' hvr
  have hix: ∀u,Calls prog 45 #[.string (s.extract (L+1) s.size),.int .u8 (rs[L]'hLs).toNat] u λe w'=>e= .returned (.int .i64 (-1))/\u=w':=λu=>by
   refine(rq _ _ u).mono λe w' ⟨h1,h2⟩=>⟨?_,h2.symm⟩
   have hb:((rs[L]'hLs).toNat:Int).toNat.toUInt8=rs[L]'hLs:=by simp
   rw[h1,hb,ha.ext _ _ _ hlast]
  have JJ:=hd' hix;have HA:=hd' ha;have hsz:(rs.size:Int)=(L:Int)+1:=by omega
  have hL4:L<=4:=by omega
  have avr:(L:Int)<(L:Int)+1:=by omega
  clear hvr ha hv he zl z2 z4 hix hrs hL;by_cases hlt:L<s.size
  ·have hb:=agu (ML HA.o' L hlt) hlast;have hle1:(L:Int)+1<=(s.size:Int):=by omega
   have hle2:L+1<=s.size:=by omega
   have htn:((L:Int)+1).toNat=L+1:=by omega
   have hwr:IntKind.i64.wrap ((L:Int)+1)=(L:Int)+1:=wrap_small _ (by omega) (by omega);have h0L:(0:Int)<=(L:Int)+1:=by omega
   go_enter func123,ntmps123
   go_wp2_with (go_at_call 175;refine(HVR.o' _).mono ?_;rintro e w1 ⟨rfl,rfl⟩)
   go_step3
   go_wp2_with fail
   go_loopw [9] (λv wr=>wr=w/\v= .int .i64 L) (λ_ _=>0)
   case atStart=>exact⟨rfl,rfl⟩
   case round =>
    obtain⟨rfl,rfl⟩:=hrel;go_wp2_with fail
    go_step3
    go_wp2_with fail
    refine bX (by kernel_rfl) (by kernel_rfl) ?_
    repeat
     with_reducible refine jW (λK hK=> ?_)
     first
      |(with_reducible apply gK
        ·rfl
        ·intro wq hC;unfold Oper.quietAt;go_simp
         (with_reducible rfl))
     simp only[Act.put,dV,dF,dK];refine hK _ ?_;clear hK K
    with_reducible refine jX ?_
    intro wq HQ;have HQ0:=HQ;go_wp2_with fail
    refine bX (by kernel_rfl) (by kernel_rfl) ?_
    repeat
     with_reducible refine jW (λK hK=> ?_)
     first
      |(with_reducible apply gK
        ·rfl
        ·intro wq hC;unfold Oper.quietAt;go_simp
         first|(go_at_call 45;refine(JJ.o' _).mono ?_;rintro e wx ⟨rfl,rfl⟩;exact⟨rfl,hC⟩)|with_reducible rfl)
     simp only[Act.put,dV,dF,dK];refine hK _ ?_;clear hK K
    with_reducible refine jX ?_
    intro wq HQ;go_wp2_with fail
    rw[Exit.noGoto_ret];go_wp2_with fail
    try rw[Exit.noGoto_ret]
    go_ret;exact⟨rfl,aK HQ0.o' HQ.o'⟩
  ·go_enter func123,ntmps123
   go_wp2_with (go_at_call 175;refine(HVR.o' _).mono ?_;rintro e w1 ⟨rfl,rfl⟩)
   go_step3
   go_wp2_with fail
   go_loopw [9] (λv wr=>wr=w/\v= .int .i64 L) (λ_ _=>0)
   case atStart=>exact⟨rfl,by go_num⟩
   case round =>
    obtain⟨rfl,rfl⟩:=hrel;go_wp2_with fail
    rw[Exit.noGoto_ret];go_ret;exact⟨rfl,aQ _ _⟩
def setIter (u:af) (b:Nat) (s:ae) (pos:Nat):af:= {u with heap:=u.heap.setIfInBounds b (.stringIter s pos)}
theorem FW (u:af) (b:Nat) (s:ae) (pos:Nat):(setIter u b s pos).heap.size=u.heap.size:=by simp[setIter]
theorem X5 {u:af} {b:Nat} (s:ae) (pos:Nat) (h:b<u.heap.size):(setIter u b s pos).heap[b]?=some (.stringIter s pos):=by simp[setIter,h]
theorem Oi {B b:Nat} {w u:af} (s:ae) (pos:Nat) (h:Below B w u) (hb:B<=b):Below B w (setIter u b s pos) :=
 ⟨h.os,h.tape,h.output,by rw[FW];exact h.size,λk hk=>by
  show(u.heap.setIfInBounds b (.stringIter s pos))[k]?=_;rw[Array.getElem?_setIfInBounds_ne (by omega)]
  exact h.block k hk⟩
theorem ahZ {P:Program} (u:af) (b:Nat) (s:ae) (pos:Nat) (ty:TypeId) (hb:u.heap[b]?=some (.stringIter s pos)) (h:pos<s.size) :
 (Instr.next (.pointer (some ⟨b,0,none⟩)) true ty).run P u= .ok (.tuple #[.bool true,.int .i64 pos,.int .i32 (Utf8.decode s pos).1]) (setIter u b s (pos+(Utf8.decode s pos).2)):=by
 simp only[Instr.next,getObj,setObj,Sem.run_bind,Sem.run,hb,Result.andThen,h,dY];simp[goInt,setIter]
theorem aeV {P:Program} (u:af) (b:Nat) (s:ae) (pos:Nat) (ty:TypeId) (hb:u.heap[b]?=some (.stringIter s pos)) (h: ¬pos<s.size) :
 (Instr.next (.pointer (some ⟨b,0,none⟩)) true ty).run P u= .ok (.tuple #[.bool false]) u:=by
 simp[Instr.next,getObj,Sem.run,hb,h]
theorem af2 (s:ae) (k:Nat) (h:k<s.size):s.get! k=s[k]'h:=by
 simp[ByteArray.get!,getElem!_pos,h];rfl
theorem J8 (s:ae) (pos:Nat) (h:pos<s.size) (ha:128<=(s[pos]'h).toNat): ∀k,1<=k->k<(Utf8.decode s pos).2->pos+k<s.size/\128<=(s.get! (pos+k)).toNat:=by
 have hn: ¬(s[pos]'h).toNat<128:=by omega
 intro k h1 h2;simp only[Utf8.decode,get_at s pos h,hn,dM]at h2;split at h2
 ·rename_i hc;simp only[cz,mX,cO]at hc;split at h2
  ·obtain rfl:k=1:=by simp only at h2;omega
   exact⟨hc.2.1,by omega⟩
  ·simp only at h2;omega
 ·split at h2
  ·rename_i hc;simp only[cz,mX,cO]at hc;split at h2
   ·simp only at h2;have:k=1\/k=2:=by omega
    rcases this with rfl|rfl
    ·exact⟨hc.1.2.1,by omega⟩
    ·exact⟨hc.2.1,by omega⟩
   ·simp only at h2;omega
  ·split at h2
   ·rename_i hc;simp only[cz,mX,cO]at hc;split at h2
    ·simp only at h2;have:k=1\/k=2\/k=3:=by omega
     rcases this with rfl|rfl|rfl
     ·exact⟨hc.1.1.2.1,by omega⟩
     ·exact⟨hc.1.2.1,by omega⟩
     ·exact⟨hc.2.1,by omega⟩
    ·simp only at h2;omega
   ·simp only at h2;omega
theorem Zd (s:ae) (pos:Nat) (h:pos<s.size):1<=(Utf8.decode s pos).2:=by
 by_cases ha:(s[pos]'h).toNat<128
 ·rw[decode_ascii s pos h ha];exact ay 1
 ·exact(decode_high s pos h (by omega)).2
theorem Ze (s:ae) (pos:Nat) (h:pos<s.size):pos+(Utf8.decode s pos).2<=s.size:=by
 by_cases ha:(s[pos]'h).toNat<128
 ·rw[decode_ascii s pos h ha];omega
 ·have h1:=(decode_high s pos h (by omega)).2;rcases lG (Utf8.decode s pos).2 2 with h2|h2
  ·omega
  ·have:=(J8 s pos h (by omega) ((Utf8.decode s pos).2-1) (by omega) (by omega)).1;omega
theorem Yv {s chars:ae} (hc:xW chars) {pos:Nat} (h:pos<s.size) (ha:128<=(s[pos]'h).toNat) (hn:Lib.NoAny s.data.toList chars.data.toList pos):Lib.NoAny s.data.toList chars.data.toList (pos+(Utf8.decode s pos).2):=by
 intro j b hj hb;rcases lG j pos with hlt|hge
 ·exact hn j b hlt hb
 ·obtain⟨k,rfl⟩:=Nat.le.dest hge
  have ar9:128<=b.toNat:=by
   by_cases hk:k=0
   ·subst hk;rw[pM,yQ s pos h]at hb;cases hb;exact ha
   ·have hw:=J8 s pos h ha k (by omega) (by omega);rw[af2 s _ hw.1]at hw;rw[yQ s _ hw.1]at hb;cases hb;exact hw.2
  rw[Ag];intro hcon;have:=hc.mem b (by simpa using hcon);omega
theorem Ob (s chars:ae) (w:af) (h2:2<=chars.size) (h8:s.size<=8) (hc:xW chars) :
 Calls prog 77 #[.string s,.string chars] w λe w'=>e= .returned (.int .i64 (Lib.indexAny s.data.toList chars.data.toList))/\Below w.heap.size w w':=by
 have HC:=hd' hc;clear hc
 have hemp:chars.toList.isEmpty=false:=by
  rw[Lib.toList_data];cases h:chars.data.toList with
  |nil=>have:=Lib.size_eq chars;rw[h,kQ]at this;omega
  |cons _ _=>rfl
 have hn1:((chars.size:Int)==1)=false:=aV.2 (by omega);have h8z:decide ((8:Int)<(s.size:Int))=false:=qB (by omega);go_enter func77,ntmps77
 go_wp2_with (go_at_call 124;refine(Any.strings_shouldUseASCIISet {M6 with} _ _).mono ?_;rintro e w' ⟨rfl,hw⟩;rw[hw,h8z])
 go_loopg [9,10] s.size (λg _ _ wx=> ∃i:Nat,i<=s.size/\s.size-i<=g/\wx.heap[w.heap.size]?=some (.stringIter s i)/\w.heap.size<wx.heap.size/\Below w.heap.size w wx/\Lib.NoAny s.data.toList chars.data.toList i)
 case atStart=>exact⟨0,bD _,by omega,World.iter_heap _ _ _,by simp[World.iter],(aQ _ _).alloc (ay _) _,Lib.NoAny.zero _ _⟩
 case round =>
  obtain⟨i,his,hig,hit,hsz,hb,hno⟩:=hrel;have HN:=hd' hno;have HB:=hd' hb;have HI:=hd' hit;clear hno hb hit;by_cases hi:i<s.size
  ·obtain⟨x,hx⟩: ∃x:ax,s[i]'hi=x:=⟨_,rfl⟩;have hxl:s.data.toList[i]?=some x:=by rw[<-hx];exact yQ s i hi
   have hnx:=λty=>ahZ (P:=prog) wr w.heap.size s i ty HI.o' hi
   have hp:=Zd s i hi;have hf:=Ze s i hi;have HB2:=hd' (Oi s (i+(Utf8.decode s i).2) HB.o' (ay _));have HI2:=hd' (X5 s (i+(Utf8.decode s i).2) hsz);have hs2:w.heap.size<(setIter wr w.heap.size s (i+(Utf8.decode s i).2)).heap.size:=by rw[FW];exact hsz
   by_cases hx128:x.toNat<128
   ·have hd:=decode_ascii s i hi (by rw[hx];exact hx128);rw[hx]at hd;rw[hd]at hnx hp hf HB2 HI2 hs2;have Hx:=hd' hxl;have hcon:=Lib.contains_iff_indexByte chars.data.toList x;have hback:((x.toNat:Int)).toNat.toUInt8=x:=by simp
    have HR:=hd' (λu=>DT chars x.toNat u (by omega) (by omega));rw[hback]at HR;clear hxl hx hd hback;generalize setIter wr w.heap.size s (i+1)=wi at *;cases hin:chars.data.toList.contains x
    ·rw[hin]at hcon;have hlt: ¬((0:Int)<=Lib.indexByte chars.data.toList x):=of_decide_eq_false hcon.symm;clear hcon;go_wp2_with (go_at_call 123;refine(HR.o' _).mono ?_;rintro e w1 ⟨rfl,rfl⟩)
     cases gk with
     |zero=>omega
     |succ g =>
      go_roundg g
      case measure=>omega
      case rel=>exact⟨i+1,by omega,by omega,HI2.o',hs2,HB2.o',HN.o'.succ Hx.o' hin⟩
    ·rw[hin]at hcon;have hge:(0:Int)<=Lib.indexByte chars.data.toList x:=zX hcon.symm;clear hcon;go_wp2_with (go_at_call 123;refine(HR.o' _).mono ?_;rintro e w1 ⟨rfl,rfl⟩)
     go_ret;exact⟨by rw[Lib.indexAny_hit HN.o' Hx.o' hin];rfl,HB2.o'⟩
   ·have hd:=decode_high s i hi (by rw[hx];omega);have HW:=hd' (Yv HC.o' hi (by rw[hx];omega) HN.o');have HR:=hd' (λu=>Oa chars (Utf8.decode s i).1 u (by omega) HC.o');have hle:=decode_le s i;clear hxl hx HN;generalize Utf8.decode s i=dc at *;obtain⟨dr,dn⟩:=dc;simp only at *;generalize setIter wr w.heap.size s (i+dn)=wi at *;go_wp2_with (go_at_call 123;refine(HR.o' _).mono ?_;rintro e w1 ⟨rfl,hb1⟩;have HB3:=hd' (aK HB2.o' hb1);have HI3:=hd' ((hb1.block w.heap.size hs2).trans HI2.o');have hs3:=fA hs2 hb1.size;clear hb1)
    cases gk with
    |zero=>omega
    |succ g =>
     go_roundg g
     case measure=>omega
     case rel=>exact⟨i+dn,by omega,by omega,HI3.o',hs3,HB3.o',HW.o'⟩
  ·obtain rfl:i=s.size:=by omega
   have hnx:=λty=>aeV (P:=prog) wr w.heap.size s s.size ty HI.o' (by omega)
   go_wp2_with fail
   go_ret;exact⟨by rw[Lib.indexAny_none (by rw[<-Lib.size_eq];exact HN.o')];rfl,HB.o'⟩
theorem Bh (s chars:ae) (w:af) (h1:1<=chars.size) (hc:xW chars) (hs:s.size<4294967281) (hcs:chars.size<4294967281) :
 Calls prog 77 #[.string s,.string chars] w λe w'=>e= .returned (.int .i64 (Lib.indexAny s.toList chars.toList))/\Below w.heap.size w w':=by
 rw[Lib.toList_data,Lib.toList_data];by_cases h:chars.size=1
 ·exact(JI s chars w h hc).mono λe w' ⟨h1,h2⟩=>⟨h1,h2▸aQ _ _⟩
 by_cases h8:s.size<=8
 ·exact Ob s chars w (by omega) h8 hc
 ·exact Hg s chars w (by omega) (by omega) hs hcs hc
def eZ (m:gP):List ak:= [.string (bA m.bn),.bool m.cr,.bool m.dO,.int .i64 m.aD,.string (bA m.ah),.bool m.CG,.int .i64 m.gY,.int .i64 m.aH,.bool m.fresh,.int .i64 m.dJ]
abbrev Only (b:Nat):Nat->Prop:=λk=>k=b
theorem bM {b j:Nat} {a w:af} (h:az (Only b) a w) (v:ak):az (Only b) a (w.setCell ⟨b,j,none⟩ v):=h.set (.inl rfl) v
theorem iy {F:Nat->Prop} {w u v:af} (h:az F w u) (hb:Below w.heap.size u v):az F w v :=
 ⟨hb.os.trans h.os,hb.tape.trans h.tape,hb.output.trans h.output,bY h.size hb.size,λk hk hF=>(hb.block k hk).trans (h.block k hk hF)⟩
theorem ueq (c d:ax):(c==d)=((c.toNat:Int)==(d.toNat:Int)):=by
 rw[rG,cO,cO,<-KN];omega
theorem ule (c d:ax):decide (c<=d)=decide ((c.toNat:Int)<=(d.toNat:Int)):=by
 rw[rG,decide_eq_true_iff,decide_eq_true_iff,Hq];omega
theorem XZ (c:ax):je c=((c.toNat:Int)==9||(c.toNat:Int)==10||(c.toNat:Int)==12||(c.toNat:Int)==32):=by
 unfold je;rw[ueq,ueq,ueq,ueq];rfl
theorem Vw (c:ax):jH c=decide ((97<=(c.toNat:Int)/\(c.toNat:Int)<=122)\/(65<=(c.toNat:Int)/\(c.toNat:Int)<=90)):=by
 unfold jH;rw[ule,ule,ule,ule,rG];simp only[jD,cz,mX];exact Iff.rfl
theorem IM (c:ax) (w:af):Calls prog 138 #[.int .u8 c.toNat] w λe w'=>e= .returned (.bool (je c))/\w=w':=by
 have HS:=hd' (XZ c);have hc:=c.toNat_lt;generalize c.toNat=n at *;go_enter func138,ntmps138
 go_wp2
 all_goals go_ret
 all_goals exact⟨bJ (by rw[HS.o'];first|done|simp[*]),rfl⟩
theorem M5 (c:ax) (w:af):Calls prog 134 #[.int .u8 c.toNat] w λe w'=>e= .returned (.bool (jH c))/\w=w':=by
 have HS:=hd' (Vw c);have hc:=c.toNat_lt;generalize c.toNat=n at *;go_enter func134,ntmps134
 go_wp2
 all_goals go_ret
 all_goals exact⟨bJ (by rw[HS.o'];first|exact(pI (by omega)).symm|exact(qB (by omega)).symm|exact pJ.2 (by omega)|(rw[<-Bool.decide_or];exact pJ.2 (by omega))),rfl⟩
theorem rZ (s:ae) (w:af) (hs:s.size<=maxLen) :
 Calls prog 137 #[.string s] w λe w'=>e= .returned (.string (bA (kK s.toList)))/\Below w.heap.size w w':=by
 obtain⟨c,W,Nh,hb,hsz,hrow,hcc⟩:=wG (P:=prog) w 9 73 5 s jK yC qC;have hsl:=aR s;unfold maxLen at hs;have HB:=hd' hb;have HR:=hd' hrow;have HZ:=hd' hsz;have HL:=hd' hsl;clear hb hrow hsz hsl;go_enter func137,ntmps137
 go_wp2
 go_loopw [10] (λi wr=> ∃k:Nat,k<=s.size/\i= .int .i64 k/\Below w.heap.size w wr/\w.heap.size<wr.heap.size/\Row wr w.heap.size (bZ (ny k s.toList))) (λi _=>s.size-(intOf i).toNat)
 case atStart=>exact⟨0,bD _,rfl,HB.o',by rw[HZ.o'];omega,by rw[Dk];exact HR.o'⟩
 case round =>
  obtain⟨k,hk,rfl,hb,hz,hr⟩:=hrel;clear Nh HB HR HZ;by_cases hlt:k<s.size
  ·have hkl:k<s.toList.length:=by rw[HL.o'];exact hlt
   obtain⟨x,hx⟩: ∃x:Nat,x=s.toList[k].toNat:=⟨_,rfl⟩;have hx255:x<=255:=by have:=s.toList[k].toNat_lt;omega
   have hcell:wr.cell? ⟨w.heap.size,k,none⟩=some (.int .u8 x):=by rw[hx];exact hr.cell (tY k _ hkl)
   have hfz:wr.frozen? ⟨w.heap.size,k,none⟩=false:=hr.frozen (by rw[dP,qc];exact hkl);have hl:=Gv s.toList[k];rw[<-hx]at hl;have HX:=hd' hl;have Hl:=hd' hx;have HB:=hd' hb;have HR:=hd' hr;clear hl hx hb hr;go_wp2
   ·go_roundw
    case rel =>
     exact⟨k+1,by omega,by go_num,HB.o'.setCell (ay _) _,by rw[pK];exact hz,by
      rw[<-lK k _ hkl (.int .u8 (x+32)) (by rw[HX.o',au ⟨by assumption,by assumption⟩])]
      exact HR.o'.set k _⟩
    case measure=>simp[intOf];omega
   ·go_roundw
    case rel=>exact⟨k+1,by omega,by go_num,HB.o',hz,by rw[<-kv k _ hkl (by rw[HX.o',aj (by omega),Hl.o'])];exact HR.o'⟩
    case measure=>simp[intOf];omega
   ·go_roundw
    case rel=>exact⟨k+1,by omega,by go_num,HB.o',hz,by rw[<-kv k _ hkl (by rw[HX.o',aj (by omega),Hl.o'])];exact HR.o'⟩
    case measure=>simp[intOf];omega
  ·obtain rfl:k=s.size:=by omega
   have hback:=uQ (P:=prog) wr 73 9 5 w.heap.size c (ny s.size s.toList) s.size (by rw[qc,HL.o']) yC qC jK hr;have HB:=hd' hb;clear hb hr;go_wp2
   go_ret;refine⟨mI ?_,HB.o'⟩;rw[<-HL.o',Gs];rfl
theorem aca {w w':af} {base:Nat} {e:TypeId} {size:Nat} {v:ak} {n:Nat} {xs:List ak} (h:w.ownsRowF base e size v n xs) (hb: ∀g,v.ownBlock=some g->w'.heap[g]?=w.heap[g]?):w'.ownsRowF base e size v n xs:=by
 obtain⟨h1,h2⟩:=h;refine⟨h1,?_⟩;rcases h2 with h2|⟨g,cap,di,fz,rfl,hg,hh,r⟩
 ·exact .inl h2
 ·exact .inr ⟨g,cap,di,fz,rfl,hg,(hb g rfl).trans hh,r⟩
theorem SC {T e:TypeId} {B b:Nat} {bs:List ak} {w w':af} (h:Lib.IsBuilderF T e B b bs w) (hk: ∀k,B<=k->k<w.heap.size->w'.heap[k]?=w.heap[k]?):Lib.IsBuilderF T e B b bs w':=by
 have key: ∀p,Lib.BuilderAtF T e B b p bs w->Lib.BuilderAtF T e B b p bs w':=λp hp=>by
  have hlt:=hp.lt;obtain⟨hB,v,hh,hown,hne⟩:=hp;exact⟨hB,v,(hk b hB hlt).trans hh,aca hown λg hg=>hk g (hown.lt g hg).1 (hown.lt g hg).2,hne⟩
 exact h.imp (key _) (key _)
theorem jP {T e:TypeId} {B b:Nat} {bs:List ak} {w:af} (h:Lib.IsBuilderF T e B b bs w) {p:Addr} (hp:p.block<B) (v:ak):Lib.IsBuilderF T e B b bs (w.setCell p v) :=
 SC h λk hk _=>eG _ _ _ _ (by omega)
theorem UR: ∀(a r:bH) (cr:Bool),EJ cr (a++r)=EJ (EJ cr a) r
 | [],_,_=>rfl
 |c::a,r,cr=>by simp only[mq,EJ];exact UR a r _
theorem UO: ∀(a r:bH) (cr:Bool),kr cr (a++r)=kr cr a++kr (EJ cr a) r
 | [],_,_=>rfl
 |c::a,r,cr=>by simp only[mq,kr,EJ,vP];rw[UO a r _]
theorem Yg (cr:Bool) (c:ax):(Ca cr c).length<=3:=by
 unfold Ca
 repeat' split
 all_goals simp
theorem qa: ∀(a:bH) (cr:Bool),(kr cr a).length<=3*a.length
 | [],_=>ay _
 |c::a,cr=>by
  have h:=qa a (c==13);have h1:=Yg cr c;simp only[kr,fC,dB];omega
theorem aev (cr:Bool) (l:bH) (k:Nat) (h:k<l.length):kr cr (l.take (k+1))=kr cr (l.take k)++Ca (EJ cr (l.take k)) l[k]/\EJ cr (l.take (k+1))=(l[k]==13):=by
 rw[jL h,UO,UR];simp[kr,EJ]
theorem Yf (cr:Bool) (c:ax):Ca cr c=if(c.toNat:Int)=10/\cr=true then []else if(c.toNat:Int)=13 then [10]else if(c.toNat:Int)=0 then [239,191,189]else [c]:=by
 have h:=λd:ax=>(show(c=d)↔(c.toNat:Int)=(d.toNat:Int)from by rw[<-KN];omega)
 have h1:(c=10)↔(c.toNat:Int)=10:=h 10;have h2:(c=13)↔(c.toNat:Int)=13:=h 13;have h3:(c=0)↔(c.toNat:Int)=0:=h 0;unfold Ca;simp only[h1,h2,h3]
theorem byte_at (s:ae) (k:Nat) (h:k<s.size) (h':k<s.toList.length):s.toList[k]=s[k]:=by
 have:=yQ s k h;rw[<-dZ,mi h']at this;exact Il this
theorem dA {w:af} {b:Nat} {m:gP} (h:Row w b (eZ m)):w.cell? ⟨b,0,none⟩=some (.string (bA m.bn))/\w.cell? ⟨b,1,none⟩=some (.bool m.cr)/\w.cell? ⟨b,2,none⟩=some (.bool m.dO)/\w.cell? ⟨b,3,none⟩=some (.int .i64 m.aD)/\w.cell? ⟨b,4,none⟩=some (.string (bA m.ah)) /\
 w.cell? ⟨b,5,none⟩=some (.bool m.CG)/\w.cell? ⟨b,6,none⟩=some (.int .i64 m.gY)/\w.cell? ⟨b,7,none⟩=some (.int .i64 m.aH)/\w.cell? ⟨b,8,none⟩=some (.bool m.fresh)/\w.cell? ⟨b,9,none⟩=some (.int .i64 m.dJ) :=
 ⟨h.cell rfl,h.cell rfl,h.cell rfl,h.cell rfl,h.cell rfl,h.cell rfl,h.cell rfl,h.cell rfl,h.cell rfl,h.cell rfl⟩
theorem gD {w:af} {b:Nat} {m:gP} (h:Row w b (eZ m)):w.frozen? ⟨b,0,none⟩=false/\w.frozen? ⟨b,1,none⟩=false/\w.frozen? ⟨b,2,none⟩=false/\w.frozen? ⟨b,3,none⟩=false/\w.frozen? ⟨b,4,none⟩=false /\
 w.frozen? ⟨b,5,none⟩=false/\w.frozen? ⟨b,6,none⟩=false/\w.frozen? ⟨b,7,none⟩=false/\w.frozen? ⟨b,8,none⟩=false/\w.frozen? ⟨b,9,none⟩=false :=
 have hf: ∀j,j<10->w.frozen? ⟨b,j,none⟩=false:=λj hj=>h.frozen hj
 ⟨hf 0 (by omega),hf 1 (by omega),hf 2 (by omega),hf 3 (by omega),hf 4 (by omega),hf 5 (by omega),hf 6 (by omega),hf 7 (by omega),hf 8 (by omega),hf 9 (by omega)⟩
theorem ahS (m:gP) (b:Nat) (s:ae) (w:af) (hr:Row w b (eZ m)) (hl:m.bn.length+3*s.size<=140737488355328) :
 Calls prog 18 #[.pointer (some ⟨b,0,none⟩),.string s] w λe w'=>e= .returned (.tuple #[])/\Row w' b (eZ {m with bn:=m.bn++kr m.cr s.toList,cr:=EJ m.cr s.toList})/\az (Only b) w w':=by
 have hbw:=hr.lt;have hc0:=hr.cell (j:=0) rfl;have hsz:s.size<=140737488355328:=by omega
 have HR:=hd' hr;have HL:=hd' hl;have HS:=hd' (aR s);clear hr hl;go_enter func18,ntmps18
 go_wp2_with fail
 refine(gG w.heap.size w.heap.size [] (bA m.bn) _ (QY (QW 75 5 w)) (by rw[bV];have:=HL.o';simp only[kQ];omega) (by simp)).mono ?_;rintro e W1 ⟨rfl,g1,b1,_⟩;have HB1:=hd' (((aQ w.heap.size w).alloc (ay _) _).trans b1);have HR1:=hd' (HR.o'.below HB1.o' hbw);have HI1:Hid (Lib.IsBuilderF 75 5 w.heap.size w.heap.size (bZ m.bn) W1):= .inr g1;have hz1:=HB1.o'.size;clear b1 g1;dsimp only;go_wp2_with fail
 go_loopw [5] (λi wr=> ∃k:Nat,k<=s.size/\i= .int .i64 k/\Row wr b (eZ {m with cr:=EJ m.cr (s.toList.take k)})/\Lib.IsBuilderF 75 5 w.heap.size w.heap.size (bZ (m.bn++kr m.cr (s.toList.take k))) wr/\az (Only b) w wr) (λi _=>s.size-(intOf i).toNat)
 case atStart=>exact⟨0,bD _,rfl,HR1.o',by rw[List.take_zero];simpa[kr] using HI1.o',az.bC HB1.o'⟩
 case round =>
  obtain⟨k,hk,rfl,hrr,hii,hkk⟩:=hrel;have hzr:=hkk.size;have hfr:=(gD hrr).2.1;have Tv:=hd' hrr;have HIr:=hd' hii;have DU:=hd' hkk;clear hii hkk HR1 HI1 HB1 hz1;by_cases hlt:k<s.size
  ·have hkl:k<s.toList.length:=by rw[HS.o'];exact hlt
   have hst:=aev m.cr s.toList k hkl;rw[byte_at s k hlt hkl]at hst;have HF1:=hd' hst.1;have ZP:=hd' hst.2;have hp1:=Yf (EJ m.cr (s.toList.take k)) s[k]
   have hlen:(bZ (m.bn++kr m.cr (s.toList.take k))).length+3<=140737488355328:=by
    have h3:=qa (s.toList.take k) m.cr;rw[fV]at h3;have:=HL.o';rw[dP,fC];omega
   have hLen:=hd' hlen;have hc1:=(dA hrr).2.1;simp only at hc1;obtain⟨cr',hcr⟩: ∃c,c=EJ m.cr (s.toList.take k):=⟨_,rfl⟩;have hu:=s[k].toNat_lt;obtain⟨x,hx⟩: ∃x:ax,x=s[k]:=⟨_,rfl⟩;have hub: ∀c:Nat,s[k].toNat=c->s[k]=UInt8.ofNat c:=λc h=>by rw[<-h];simp
   rw[<-hcr]at hc1 hp1 HF1 Tv;have hcx:(s[k]==13)=((s[k].toNat:Int)==13):=ueq _ _;rw[hcx]at ZP;clear hst hrr hlen hcr hcx;by_cases h10:(s[k].toNat:Int)=10
   ·have e1:((s[k].toNat:Int)==10)=true:=cO.2 h10;have e2:((s[k].toNat:Int)==13)=false:=aV.2 (by omega);have e3:((s[k].toNat:Int)==0)=false:=aV.2 (by omega);rw[e2]at ZP;cases cr'
    ·rw[aj (by simp),aj (by omega),aj (by omega)]at hp1;have HP:=hd' hp1;clear hp1 hu hub hx h10;go_wp2_with fail
     refine(uX w.heap.size w.heap.size _ _ _ HIr.o' (by have:=hLen.o';omega) hzr).mono ?_;rintro e W2 ⟨rfl,g2,b2,_⟩;have OI:=hd' (Tv.o'.below b2 hbw);have OL:=hd' (iy DU.o' b2);have hfn:=(gD OI.o').2.1;have hcn:=(dA OI.o').2.1;clear b2;dsimp only;go_wp2_with fail
     have Ty:Hid (Lib.IsBuilderF 75 5 w.heap.size w.heap.size (bZ (m.bn++kr m.cr (s.toList.take k))++bZ [s[k]]) W2):= .inr g2;go_roundw
     case rel =>
      refine⟨k+1,by omega,by go_num,?_,?_,bM OL.o' _⟩
      ·rw[ZP.o'];exact OI.o'.set 1 _
      ·rw[HF1.o',HP.o',<-vP,iU];exact jP Ty.o' hbw _
     case measure=>simp[intOf];omega
    ·rw[au ⟨h10,rfl⟩]at hp1;have HP:=hd' hp1;clear hp1 hu hub hx h10;have OI:=Tv;have OL:=DU
     have Ty:Hid (Lib.IsBuilderF 75 5 w.heap.size w.heap.size (bZ (m.bn++kr m.cr (s.toList.take k))++bZ []) wr):=by
      show Lib.IsBuilderF _ _ _ _ (_++ []) _;rw[kI];exact HIr.o'
     go_wp2_with fail
     go_roundw
     case rel =>
      refine⟨k+1,by omega,by go_num,?_,?_,bM OL.o' _⟩
      ·rw[ZP.o'];exact OI.o'.set 1 _
      ·rw[HF1.o',HP.o',<-vP,iU];exact jP Ty.o' hbw _
     case measure=>simp[intOf];omega
   ·have e1:((s[k].toNat:Int)==10)=false:=aV.2 h10;rw[aj (by simp[h10])]at hp1;by_cases h13:(s[k].toNat:Int)=13
    ·have e2:((s[k].toNat:Int)==13)=true:=cO.2 h13;rw[e2]at ZP;rw[au h13]at hp1;have HP:=hd' hp1;clear hp1 hu hub hx h10 h13;go_wp2_with fail
     refine(uX w.heap.size w.heap.size _ _ _ HIr.o' (by have:=hLen.o';omega) hzr).mono ?_;rintro e W2 ⟨rfl,g2,b2,_⟩;have OI:=hd' (Tv.o'.below b2 hbw);have OL:=hd' (iy DU.o' b2);have hfn:=(gD OI.o').2.1;have hcn:=(dA OI.o').2.1;clear b2;dsimp only;go_wp2_with fail
     have Ty:Hid (Lib.IsBuilderF 75 5 w.heap.size w.heap.size (bZ (m.bn++kr m.cr (s.toList.take k))++bZ [10]) W2):= .inr g2;go_roundw
     case rel =>
      refine⟨k+1,by omega,by go_num,?_,?_,bM OL.o' _⟩
      ·rw[ZP.o'];exact OI.o'.set 1 _
      ·rw[HF1.o',HP.o',<-vP,iU];exact jP Ty.o' hbw _
     case measure=>simp[intOf];omega
    ·have e2:((s[k].toNat:Int)==13)=false:=aV.2 h13;rw[e2]at ZP;rw[aj h13]at hp1;by_cases h0:(s[k].toNat:Int)=0
     ·have e3:((s[k].toNat:Int)==0)=true:=cO.2 h0;rw[au h0]at hp1;have HP:=hd' hp1;clear hp1 hu hub hx h10 h13 h0;go_wp2_with fail
      refine(gG w.heap.size w.heap.size _ ⟨#[239,191,189]⟩ _ HIr.o' (by have:=hLen.o';show _+3<=_;omega) hzr).mono ?_;rintro e W2 ⟨rfl,g2,b2,_⟩;have OI:=hd' (Tv.o'.below b2 hbw);have OL:=hd' (iy DU.o' b2);have hfn:=(gD OI.o').2.1;have hcn:=(dA OI.o').2.1;clear b2;dsimp only;go_wp2_with fail
      have Ty:Hid (Lib.IsBuilderF 75 5 w.heap.size w.heap.size (bZ (m.bn++kr m.cr (s.toList.take k))++bZ [239,191,189]) W2):= .inr g2;go_roundw
      case rel =>
       refine⟨k+1,by omega,by go_num,?_,?_,bM OL.o' _⟩
       ·rw[ZP.o'];exact OI.o'.set 1 _
       ·rw[HF1.o',HP.o',<-vP,iU];exact jP Ty.o' hbw _
      case measure=>simp[intOf];omega
     ·have e3:((s[k].toNat:Int)==0)=false:=aV.2 h0;rw[aj h0]at hp1;have HP:=hd' hp1;clear hp1 hu hub hx h10 h13 h0;go_wp2_with fail
      refine(uX w.heap.size w.heap.size _ _ _ HIr.o' (by have:=hLen.o';omega) hzr).mono ?_;rintro e W2 ⟨rfl,g2,b2,_⟩;have OI:=hd' (Tv.o'.below b2 hbw);have OL:=hd' (iy DU.o' b2);have hfn:=(gD OI.o').2.1;have hcn:=(dA OI.o').2.1;clear b2;dsimp only;go_wp2_with fail
      have Ty:Hid (Lib.IsBuilderF 75 5 w.heap.size w.heap.size (bZ (m.bn++kr m.cr (s.toList.take k))++bZ [s[k]]) W2):= .inr g2;go_roundw
      case rel =>
       refine⟨k+1,by omega,by go_num,?_,?_,bM OL.o' _⟩
       ·rw[ZP.o'];exact OI.o'.set 1 _
       ·rw[HF1.o',HP.o',<-vP,iU];exact jP Ty.o' hbw _
      case measure=>simp[intOf];omega
  ·obtain rfl:k=s.size:=by omega
   have htk:s.toList.take s.size=s.toList:=iH (by rw[HS.o'];omega);rw[htk]at Tv HIr;clear hrr hfr;go_wp2_with fail
   refine(sH w.heap.size w.heap.size _ _ HIr.o' hzr).mono ?_;rintro e W2 ⟨rfl,_,b2,_⟩;have OI:=hd' (Tv.o'.below b2 hbw);have OL:=hd' (iy DU.o' b2);have hf0:=(gD OI.o').1;have hcn:=(dA OI.o').1;clear b2;dsimp only;go_wp2_with fail
   go_end0
   exact⟨rfl,OI.o'.set 0 _,bM OL.o' _⟩
def nz (sl:ak) (x:pq):ak:= .agg #[.int .i64 x.aH,.string (bA x.ah),sl,.bool x.self,.string (bA x.aL)]
def Cc (o:Out):ak:= .tuple #[nz (.slice none 0 0) o.1,.bool o.2.1,.bool o.2.2.1]
theorem bP:(prog.info? 39).map (·.size)=some 5:=by kernel_rfl
theorem bE {P:Program} {fn:Func} {p t u:Tmp} {ty:TypeId} (h:fn.results= #[.cell p ty,.tmp t,.tmp u]) (tmps:Array ak) (w:af) (g:Nat) (e:TypeId) (cs:Array ak) (fr:Nat×Nat) (d:TypeDesc)
 (hp:tmps.getD p undef= .pointer (some ⟨g,0,none⟩)) (hg:w.heap[g]?=some (.cells cs e fr))
 (hu:P.underlying ty=some d) (hd:(match d with| .struct _| .array _ _=>true|_=>false)=true) (hi:(P.info? ty).map (·.size)=some cs.size) :
 (results fn tmps).run P w= .ok (.tuple #[.agg cs,tmps.getD t undef,tmps.getD u undef]) w:=by
 have hp':tmps[p]?.getD undef= .pointer (some ⟨g,0,none⟩):=by simpa using hp
 simp[results,h,hp',asAddr,QA w g e ty cs fr d hg hu hd hi,Result.andThen]
theorem alloc_at {u:af} {g:Nat} {o:Obj} (h:g=u.heap.size):(u.alloc o).heap[g]?=some o:=by
 subst h;exact eU _ _
theorem qP (l:bH) (a:Nat):(bA l).extract a l.length=bA (l.drop a):=by
 apply toList_inj;rw[bT,ext_list,bT,iH (by rw[dN];omega)]
theorem tX (m:gP) (b n:Nat) (w:af) (hr:Row w b (eZ m)) (hn:n<=m.bn.length) (_:m.bn.length<=140737488355328) :
 Calls prog 46 #[.pointer (some ⟨b,0,none⟩),.int .i64 n] w λe w'=>e= .returned (Cc (mR m n))/\Row w' b (eZ (mR m n).2.2.2)/\az (Only b) w w':=by
 have hbw:=hr.lt;have hc:=dA hr;have hf:=gD hr;obtain⟨hc0, -, -, -, -, -,hc6,hc7, -⟩:=hc;obtain⟨hf0, -, -, -, -, -,hf6, -⟩:=hf;have hsz:(bA m.bn).size=m.bn.length:=bV _;have HR:=hd' hr;clear hr;go_enter func46,ntmps46
 go_wp2_with fail
 refine bU (bE rfl _ _ w.heap.size _ _ _ _ rfl (alloc_at (by simp)) fG rfl bP) rfl ?_;refine⟨rfl,?_,(bM (bM (az.refl (Only b) w) _) _).alloc _⟩;have h1:=(HR.o'.set 0 (.string (bA (m.bn.drop n)))).set 6 (.int .i64 0)
 rw[qP];exact h1.kept (gu _ _ (by simp;exact hbw))
def cu:Array ak:= #[.int .i64 0,.string ⟨#[]⟩,.slice none 0 0,.bool false,.string ⟨#[]⟩]
theorem eY {W:af} {g:Nat} {e:TypeId} (h:W.heap[g]?=some (.cells cu e (0,0))) :
 (W.cell? ⟨g,0,none⟩=some (.int .i64 0)/\W.cell? ⟨g,1,none⟩=some (.string ⟨#[]⟩)/\W.cell? ⟨g,2,none⟩=some (.slice none 0 0)/\W.cell? ⟨g,3,none⟩=some (.bool false)/\W.cell? ⟨g,4,none⟩=some (.string ⟨#[]⟩)) /\
 (W.frozen? ⟨g,0,none⟩=false/\W.frozen? ⟨g,1,none⟩=false/\W.frozen? ⟨g,2,none⟩=false/\W.frozen? ⟨g,3,none⟩=false/\W.frozen? ⟨g,4,none⟩=false):=by
 refine⟨⟨?_,?_,?_,?_,?_⟩,?_,?_,?_,?_,?_⟩ <;>simp[World.cell?,World.frozen?,h,cu]
abbrev wI (W:af) (g:Nat) (v0 v1 v2 v3 v4:ak):af:=((((W.setCell ⟨g,0,none⟩ v0).setCell ⟨g,1,none⟩ v1).setCell ⟨g,2,none⟩ v2).setCell ⟨g,3,none⟩ v3).setCell ⟨g,4,none⟩ v4
theorem eD {W:af} {g:Nat} {e:TypeId} (h:W.heap[g]?=some (.cells cu e (0,0))) (v0 v1 v2 v3 v4:ak):(wI W g v0 v1 v2 v3 v4).heap[g]?=some (.cells #[v0,v1,v2,v3,v4] e (0,0)):=by
 simp[wI,World.setCell,Q4,h,cu]
theorem Fe (w:af):w.drew.heap=w.heap:=rfl
theorem qA {W:af} {g:Nat} {o:Option Obj} (h:W.heap[g]?=o):W.drew.heap[g]?=o:=by rw[Fe];exact h
theorem qR {W:af} {k:Nat} {xs:List ak} (h:Row W k xs):Row W.drew k xs:=h.kept (by rw[Fe])
theorem dz {W:af} {g k:Nat} {xs:List ak} (h:Row W k xs) (hg:k≠g) (v0 v1 v2 v3 v4:ak):Row (wI W g v0 v1 v2 v3 v4) k xs :=
 h.kept (by unfold wI;rw[eG _ _ _ _ hg,eG _ _ _ _ hg,eG _ _ _ _ hg,eG _ _ _ _ hg,eG _ _ _ _ hg])
theorem bK {F:Nat->Prop} {a W:af} (h:az F a W) {g:Nat} (hg:a.heap.size<=g) (v0 v1 v2 v3 v4:ak):az F a (wI W g v0 v1 v2 v3 v4) :=
 ((((h.set (.inr hg) _).set (.inr hg) _).set (.inr hg) _).set (.inr hg) _).set (.inr hg) _
theorem JW {b:Nat} {w W:af} {o:Obj} (h:az (Only b) (w.alloc o) W):az (Only b) w W :=
 ⟨h.os,h.tape,h.output,bY (by simp) h.size,λk hk hF=>(h.block k (by simp;omega) hF).trans (gu w o hk)⟩
theorem amq (m:gP) (b:Nat) (w:af) (hr:Row w b (eZ m)) (hl:m.bn.length<=140737488355328) (hp:m.gY=2) (hc:m.dO=true) (hi:Lib.indexByte m.bn 62= -1) :
 Calls prog 33 #[.pointer (some ⟨b,0,none⟩)] w λe w'=>e= .returned (Cc (mR m m.bn.length))/\Row w' b (eZ (mR m m.bn.length).2.2.2)/\az (Only b) w w':=by
 have hbw:=hr.lt;have hcs:=dA hr;obtain⟨hc0, -,hc2, -, -, -,hc6, -⟩:=hcs;rw[hp]at hc6;rw[hc]at hc2;have hz:(bA m.bn).size=m.bn.length:=bV _;have hix: ∀u,Calls prog 45 #[.string (bA m.bn),.int .u8 62] u _:=λu=>rq (bA m.bn) 62 u
 have e62:(62:Int).toNat.toUInt8=62:=rfl;rw[e62,zu,hi]at hix;have JJ:=hd' hix;have HR:=hd' hr;clear hr hix;go_enter Ih,H9
 go_wp2_with (go_at_call 45;refine(JJ.o' _).mono ?_;rintro e w1 ⟨rfl,rfl⟩)
 have HR1:=hd' (HR.o'.kept (gu w (.cells cu 39) hbw));refine(tX m b m.bn.length _ HR1.o' (ay _) hl).mono ?_;rintro e W1 ⟨rfl,r1,k1⟩;have hR:W1.heap[w.heap.size]?=some (.cells cu 39 (0,0)):=(k1.block w.heap.size (by simp) (by show ¬w.heap.size=b;omega)).trans (eU _ _);have wE:=hd' (JW k1);have HR2:=hd' r1;obtain⟨⟨q0,q1,q2,q3,q4⟩,f0,f1,f2,f3,f4⟩:=eY hR;have HG:=hd' hR;clear k1 hR r1;dsimp only[Cc,nz];go_wp2_with fail
 refine bU (bE rfl _ _ w.heap.size _ _ _ _ rfl (eD HG.o' _ _ _ _ _) fG rfl bP) rfl ?_;exact⟨rfl,dz HR2.o' (by omega) _ _ _ _ _,bK wE.o' (ay _) _ _ _ _ _⟩
theorem Y6 (p:Nat->Bool): ∀n,p n=true-> ∃i,i<=n/\p i=true/\ ∀j,j<i->p j=false:=by
 intro n
 induction n using Nat.strongRecOn with
 |_ n ih =>
  intro h;by_cases hex: ∃k,k<n/\p k=true
  ·obtain⟨k,hk,hp⟩:=hex;obtain⟨i,hi,h1,h2⟩:=ih k hk hp;exact⟨i,by omega,h1,h2⟩
  ·exact⟨n,ay _,h,λj hj=>by rw[Ag];exact λhp=>hex ⟨j,hj,hp⟩⟩
theorem E9 {s sub:bH} (h0:0<=Lib.index s sub) (hne:sub≠ []): ∃i:Nat,Lib.index s sub=i/\i+sub.length<=s.length/\Lib.occAt s sub i=true/\ ∀j,j<i->Lib.occAt s sub j=false:=by
 by_cases hex: ∃i,i<=s.length/\Lib.occAt s sub i=true
 ·obtain⟨n,hn,hp⟩:=hex;obtain⟨i,hi,h1,h2⟩:=Y6 _ n hp;refine⟨i,Lib.index_first (by omega) h1 h2,(Lib.occAt_room h1).resolve_right hne,h1,h2⟩
 ·have:=Lib.index_none (s:=s) (sub:=sub) λj hj=>by rw[Ag];exact λhp=>hex ⟨j,hj,hp⟩
  omega
theorem Nc {s sub:bH} (h0: ¬0<=Lib.index s sub):Lib.index s sub= -1:=by have:=Lib.index_ge s sub;omega
theorem FQ (l:bH) (a:Nat):(bA l).extract 0 a=bA (l.take a):=by
 apply toList_inj;rw[bT,ext_list,bT,xh,Ef]
theorem XT (l:bH):(bA l).toList.isEmpty=l.isEmpty:=by rw[bT]
def wy (w:af) (x:Int):Prop:=w.cell? ⟨0,0,none⟩=some (.int .i64 x)
theorem akr {w:af} {b:Nat} {x:Int} {m:gP} (h:wy w x) (hr:Row w b (eZ m)):0≠b:=by
 intro e;subst e;have h0:=hr.cell (j:=0) rfl;unfold wy at h;rw[h0]at h;cases h
theorem oC {w w':af} {b:Nat} {x:Int} {m:gP} (h:wy w x) (hr:Row w b (eZ m)) (hk:az (Only b) w w'):wy w' x:=by
 have hlt:=lt_of_cell h;unfold wy World.cell? at h |-;rw[hk.block _ hlt (akr h hr)];exact h
theorem fI {W:af} {R b j:Nat} {o:Obj} {v:ak} (h:W.heap[R]?=some o) (hne:R≠b):(W.setCell ⟨b,j,none⟩ v).heap[R]?=some o:=by
 rw[eG _ _ _ _ hne];exact h
theorem yT (l:bH):(!(bA l).toList.isEmpty)=decide (l≠ []):=by
 rw[XT];cases l <;>simp
theorem int_ne (a b:Int):(a !=b)=decide (a≠b):=by
 rw[rG];simp
theorem NG (m:gP) (b:Nat) (x:Int) (w:af) (hr:Row w b (eZ m)) (hm:wy w x) (hl:m.bn.length<=4294967280) (hp:m.gY≠0) :
 Calls prog 47 #[.pointer (some ⟨b,0,none⟩)] w λe w'=>e= .returned (Cc (TF m))/\Row w' b (eZ (TF m).2.2.2)/\az (Only b) w w':=by
 have hbw:=hr.lt;have hz:(bA m.bn).size=m.bn.length:=bV _;have hix:=λu hu=>JH (bA m.bn) ⟨#[93,93,62]⟩ x u (by rw[hz];omega) hu
 rw[zu,show(⟨#[93,93,62]⟩:ae).data.toList=agq from rfl]at hix;have JJ:=hd' hix;obtain⟨hc0, -,hc2, -, -, -,hc6, -⟩:=dA hr;obtain⟨hf0, -, -, -, -, -,hf6, -⟩:=gD hr;obtain⟨wa,kF⟩: ∃wa,wa=w.alloc (.cells cu 39):=⟨_,rfl⟩;have HR:=hd' (show Row wa b (eZ m)from kF▸hr.kept (gu w (.cells cu 39) hbw));have HZ:=hd' (show wa.heap[w.heap.size]?=some (.cells cu 39 (0,0))from kF▸eU _ _);have HK:=hd' (show az (Only b) w wa from kF▸(az.refl (Only b) w).alloc _);have hza:w.heap.size<wa.heap.size:=by rw[kF];simp
 have zb:Hid (wa=w.alloc (.cells #[.int .i64 0,.string ⟨#[]⟩,.slice none 0 0,.bool false,.string ⟨#[]⟩] 39)):=kF;clear kF;have Tx:=hd' hr;have HM:=hd' (oC hm hr HK.o');have hp6:(m.gY==0)=false:=aV.2 hp;obtain⟨o,ho⟩: ∃o,o=TF m:=⟨_,rfl⟩;rw[<-ho];clear hr hix hm;by_cases h0:0<=Lib.index m.bn agq
 ·obtain⟨i,hi,hil, -, -⟩:=E9 h0 (by decide);have au7:i+3<=m.bn.length:=hil
  have hcd:TF m=(JN (m.bn.take i),decide (m.bn.take i≠ []),false,{m with bn:=m.bn.drop (i+3),gY:=0}):=by
   unfold TF;simp only[hi];rw[au (by omega)];rfl
  have HO:=hd' (ho.trans hcd);rw[hi]at JJ;have e1:=FQ m.bn i;have e2:=qP m.bn (i+3);clear hcd h0 hil hi ho;go_enter func47,ntmps47
  go_wp2_with (go_at_call 75;refine(JJ.o' _ (zb.o'▸HM.o')).mono ?_;rintro e w1 ⟨rfl,rfl⟩)
  rw[<-zb.o'];clear hc0 hc2 hc6 hf0 hf6;obtain⟨hc0, -,hc2, -, -, -,hc6, -⟩:=dA HR.o';obtain⟨hf0, -, -, -, -, -,hf6, -⟩:=gD HR.o';obtain⟨⟨q0,q1,q2,q3,q4⟩,f0,f1,f2,f3,f4⟩:=eY HZ.o';go_region
  go_wp2_with fail
  go_region
  go_wp2_with fail
  have hne:w.heap.size≠b:=by omega
  have hg:=eD (fI (j:=6) (v:= .int .i64 0) (fI (j:=0) (v:= .string (bA (m.bn.drop (i+3)))) HZ.o' hne) hne) (.int .i64 1) (.string ⟨#[]⟩) (.slice none 0 0) (.bool false) (.string (bA (m.bn.take i)));have hg':=hd' (qA (qA hg));clear hg;refine bU (bE rfl _ _ w.heap.size _ _ _ _ rfl hg'.o' fG rfl bP) rfl ?_;rw[HO.o'];refine⟨?_,?_,?_⟩
  ·exact iR (by simp only[yT];rfl)
  ·exact qR (qR (dz ((HR.o'.set 0 _).set 6 _) (λe=>hne e.symm) _ _ _ _ _))
  ·exact(bK (bM (bM HK.o' _) _) (ay _) _ _ _ _ _).drew.drew
 ·have hn1:=Nc h0;rw[hn1]at JJ;by_cases hcl:m.dO=true
  ·have hcd:TF m=(JN m.bn,decide (m.bn≠ []),false,{m with bn:= [],gY:=0}):=by
    unfold TF;simp only[hn1];rw[aj (by omega),au hcl]
   have HO:=hd' (ho.trans hcd);rw[hcl]at hc2;clear hcd h0 hn1 hcl ho;go_enter func47,ntmps47
   go_wp2_with (go_at_call 75;refine(JJ.o' _ (zb.o'▸HM.o')).mono ?_;rintro e w1 ⟨rfl,rfl⟩)
   have HRb:Row (((w.setCell ⟨b,0,none⟩ (.string ⟨#[]⟩)).setCell ⟨b,6,none⟩ (.int .i64 0)).alloc (.cells #[.int .i64 0,.string ⟨#[]⟩,.slice none 0 0,.bool false,.string ⟨#[]⟩] 39)) b (eZ {m with bn:= [],gY:=0}) :=
    ((Tx.o'.set 0 (.string (bA []))).set 6 (.int .i64 0)).kept (gu _ _ (by simp;exact hbw))
   have HZb:(((w.setCell ⟨b,0,none⟩ (.string ⟨#[]⟩)).setCell ⟨b,6,none⟩ (.int .i64 0)).alloc (.cells #[.int .i64 0,.string ⟨#[]⟩,.slice none 0 0,.bool false,.string ⟨#[]⟩] 39)).heap[w.heap.size]?=some (.cells cu 39 (0,0)):=alloc_at (by simp);have HKb:az (Only b) w (((w.setCell ⟨b,0,none⟩ (.string ⟨#[]⟩)).setCell ⟨b,6,none⟩ (.int .i64 0)).alloc (.cells #[.int .i64 0,.string ⟨#[]⟩,.slice none 0 0,.bool false,.string ⟨#[]⟩] 39)):=(bM (bM (az.refl (Only b) w) _) _).alloc _;have hne:w.heap.size≠b:=by omega
   clear hc0 hc2 hc6 hf0 hf6 HR HZ HK HM JJ zb hza;generalize (((w.setCell ⟨b,0,none⟩ (.string ⟨#[]⟩)).setCell ⟨b,6,none⟩ (.int .i64 0)).alloc (.cells #[.int .i64 0,.string ⟨#[]⟩,.slice none 0 0,.bool false,.string ⟨#[]⟩] 39))=wb at *;obtain⟨hc0, -,hc2, -, -, -,am8, -⟩:=dA HRb;have hc6:wb.cell? ⟨b,6,none⟩=some (.int .i64 0):=am8;clear am8;obtain⟨⟨q0,q1,q2,q3,q4⟩,f0,f1,f2,f3,f4⟩:=eY HZb;have HR:=hd' HRb;have HK:=hd' HKb;have hg:=eD HZb (.int .i64 1) (.string ⟨#[]⟩) (.slice none 0 0) (.bool false) (.string (bA m.bn));have hg':=hd' (qA hg);clear hg HRb HKb HZb;go_region
   go_wp2_with fail
   refine bU (bE rfl _ _ w.heap.size _ _ _ _ rfl hg'.o' fG rfl bP) rfl ?_;rw[HO.o'];refine⟨?_,?_,?_⟩
   ·exact iR (by simp only[yT];rfl)
   ·exact qR (dz HR.o' (λe=>hne e.symm) _ _ _ _ _)
   ·exact(bK HK.o' (ay _) _ _ _ _ _).drew
  ·have hcl':m.dO=false:=by simpa using hcl
   have hcd:TF m=(JN (m.bn.take (m.bn.length-2)),decide (m.bn.take (m.bn.length-2)≠ []),decide (m.gY≠0),{m with bn:=m.bn.drop (m.bn.length-2)}):=by
    unfold TF;simp only[hn1];rw[aj (by omega),aj hcl]
   have HO:=hd' (ho.trans hcd);rw[hcl']at hc2;clear hcd h0 hn1 hcl hcl' ho;go_enter func47,ntmps47
   go_wp2_with (go_at_call 75;refine(JJ.o' _ (zb.o'▸HM.o')).mono ?_;rintro e w1 ⟨rfl,rfl⟩)
   have e1:=FQ m.bn (m.bn.length-2);have e2:=qP m.bn (m.bn.length-2);rw[<-zb.o'];clear hc0 hc2 hc6 hf0 hf6;obtain⟨hc0, -,hc2, -, -, -,hc6, -⟩:=dA HR.o';obtain⟨hf0, -, -, -, -, -,hf6, -⟩:=gD HR.o';obtain⟨⟨q0,q1,q2,q3,q4⟩,f0,f1,f2,f3,f4⟩:=eY HZ.o';have hne:w.heap.size≠b:=by omega
   have akV:(max 0 ((m.bn.length:Int)-2)).toNat=m.bn.length-2:=by omega
   have hg:=eD (fI (j:=0) (v:= .string (bA (m.bn.drop (m.bn.length-2)))) HZ.o' hne) (.int .i64 1) (.string ⟨#[]⟩) (.slice none 0 0) (.bool false) (.string (bA (m.bn.take (m.bn.length-2))));have hg':=hd' (qA (qA hg));clear hg;go_region
   go_wp2_with fail
   go_region
   go_wp2_with fail
   try rw[akV,e1,e2]
   refine bU (bE rfl _ _ w.heap.size _ _ _ _ rfl hg'.o' fG rfl bP) rfl ?_;rw[HO.o'];refine⟨?_,?_,?_⟩
   ·exact iR (by simp only[yT,int_ne];rfl)
   ·exact qR (qR (dz (HR.o'.set 0 _) (λe=>hne e.symm) _ _ _ _ _))
   ·exact(bK (bM HK.o' _) (ay _) _ _ _ _ _).drew.drew
end Go.Proofs.YtnlbcifhedjbfaaGreatDoor.Rd
end
section
namespace Go.Proofs.YtnlbcifhedjbfaaGreatDoor.Rd
open Go.RowKit Mem
def qJ:List ae:= [⟨#[97,109,112]⟩,⟨#[65,77,80]⟩,⟨#[108,116]⟩,⟨#[76,84]⟩,⟨#[103,116]⟩,⟨#[113,117,111,116]⟩,⟨#[110,98,115,112]⟩,⟨#[99,111,112,121]⟩,⟨#[114,101,103]⟩,⟨#[110,111,116]⟩,⟨#[112,97,114,97]⟩,⟨#[116,105,109,101,115]⟩,⟨#[100,105,118,105,100,101]⟩,⟨#[101,97,99,117,116,101]⟩,⟨#[69,84,72]⟩,⟨#[115,122,108,105,103]⟩,⟨#[97,112,111,115]⟩,⟨#[110,111,116,105,110]⟩,⟨#[99,111,112,121,115,114]⟩,⟨#[112,97,114,97,108,108,101,108]⟩,⟨#[116,105,109,101,115,98]⟩,⟨#[108,116,105,109,101,115]⟩,⟨#[103,116,100,111,116]⟩,⟨#[104,101,108,108,105,112]⟩,⟨#[110,100,97,115,104]⟩,⟨#[109,100,97,115,104]⟩,⟨#[108,115,113,117,111]⟩,⟨#[114,115,113,117,111]⟩,⟨#[108,100,113,117,111]⟩,⟨#[114,100,113,117,111]⟩,⟨#[101,117,114,111]⟩,⟨#[116,114,97,100,101]⟩,⟨#[108,97,114,114]⟩,⟨#[114,97,114,114]⟩,⟨#[84,97,98]⟩,⟨#[78,101,119,76,105,110,101]⟩,⟨#[99,111,108,111,110]⟩,⟨#[115,111,108]⟩,⟨#[113,117,101,115,116]⟩,⟨#[108,112,97,114]⟩,⟨#[122,119,106]⟩,⟨#[78,111,116,69,113,117,97,108,84,105,108,100,101]⟩,⟨#[84,104,105,99,107,83,112,97,99,101]⟩,⟨#[110,118,108,116]⟩]
theorem Yy (s:bH):(qJ.any λp=>s.isPrefixOf p.toList)=A9 s:=by
 have h1: ∀p∈qJ,∃q∈yu++A8,q.1=p.data.toList:=by decide +kernel
 have h2: ∀q∈yu++A8,∃p∈qJ,q.1=p.data.toList:=by decide +kernel
 unfold A9;rw[rG,nU,nU];constructor
 ·rintro⟨p,hp,h⟩;obtain⟨q,hq,e⟩:=h1 p hp;exact⟨q,hq,by rw[e,<-dZ];exact h⟩
 ·rintro⟨q,hq,h⟩;obtain⟨p,hp,e⟩:=h2 q hq;exact⟨p,hp,by rw[dZ,<-e];exact h⟩
theorem Vj (s:bH) (k:Nat) (h:k<qJ.length) (b:Bool) (hb:s.isPrefixOf qJ[k].toList=b):((qJ.drop k).any λp=>s.isPrefixOf p.toList)=(b||(qJ.drop (k+1)).any λp=>s.isPrefixOf p.toList):=by
 rw[kR h,Eu,hb]
theorem Cv (s p:ae) (w:af):Calls prog 74 #[.string s,.string p] w λe w'=>e= .returned (.bool (p.toList.isPrefixOf s.toList))/\w=w':=by
 refine(OH s p w).mono λe w' ⟨he,hw⟩=>⟨?_,hw.symm⟩
 rw[he,dZ,dZ];rfl
theorem Zt (s:ae) (w:af):Calls prog 128 #[.string s] w λe w'=>e= .returned (.bool (A9 s.toList))/\Below w.heap.size w w':=by
 have HP:=hd' (Yy s.toList);have amQ:qJ.length=44:=rfl;have HL:=hd' amQ;clear amQ;have HB:=hd' ((aQ _ w).alloc (ay _) (.cells (jo qJ).toArray 9));have HA:=hd' (jy (w:=w) (di:=(jo qJ).toArray) (e:=9) rfl rfl);go_enter func128,ntmps128
 go_wp2_with ((with_reducible refine Og 5 (.slice (some ⟨w.heap.size,0,none⟩) 44 44) (.cells (jo qJ).toArray 9) rfl rfl (by kernel_rfl) ?_);simp only[Act.put,dV,dF,dK];generalize w.alloc (.cells (jo qJ).toArray 9)=wa at *)
 go_loop [7] (λi=> ∃k:Nat,k<=44/\i= .int .i64 k/\((qJ.drop k).any λp=>s.toList.isPrefixOf p.toList)=A9 s.toList) (λi=>44-(intOf i).toNat)
 case atStart=>exact⟨0,by omega,rfl,by rw[xh];exact HP.o'⟩
 case round =>
  obtain⟨k,hk,rfl,hv⟩:=hrel;have HV:=hd' hv;clear hv;by_cases hlt:k<44
  ·have hlt':k<qJ.length:=by rw[HL.o'];exact hlt
   have hc:=HA.o'.get (IK qJ k hlt');rw[iM]at hc;obtain⟨nm,hnm⟩: ∃nm,nm=qJ[k]:=⟨_,rfl⟩;have hst:=λb hb=>Vj s.toList k hlt' b hb
   rw[<-hnm]at hc hst;have hh:=Cv nm s wa;cases hb:s.toList.isPrefixOf nm.toList
   ·have HS:=hd' (hst false hb);rw[hb]at hh;have HH:=hd' hh;clear hst hh hb hnm;by_cases hle:s.size<=nm.size
    all_goals
     go_wp2_with (go_at_call 74;refine HH.o'.mono ?_;rintro e w1 ⟨rfl,rfl⟩)
     go_round
     case rel=>exact⟨k+1,by omega,by go_num,by rw[<-HV.o',HS.o',Ev]⟩
     case measure=>simp[intOf];omega
   ·have HS:=hd' (hst true hb)
    have hle:s.size<=nm.size:=by
     have:=(Iw.1 hb).length_le
     rwa [aR,aR]at this
    rw[hb]at hh;have HH:=hd' hh;clear hst hh hb hnm;go_wp2_with (go_at_call 74;refine HH.o'.mono ?_;rintro e w1 ⟨rfl,rfl⟩)
    go_ret;exact⟨bJ (by rw[<-HV.o',HS.o',Bool.true_or]),HB.o'⟩
  ·go_wp2_with fail
   go_ret;exact⟨bJ (by rw[<-HV.o',iZ (by rw[HL.o'];omega)];rfl),HB.o'⟩
theorem agK (s:ae) (w:af) (hs:s.size<=9223372036854775807):Calls prog 78 #[.string s] w λe w'=>e= .returned (.bool (xD s.toList))/\Below w.heap.size w w':=by
 have key:s.toList.head?≠some 38->Calls prog 78 #[.string s] w λe w'=>e= .returned (.bool (xD s.toList))/\Below w.heap.size w w':=by
  intro hh;have hp:=aeB hh;have HT:Hid (xD s.toList=false):=by show _=_;rw[xD,hp,hp];rfl
  have HC:=hd' (Dx (s:=s) (p:=⟨#[38,35]⟩) (by rw[WA];exact hp [35]) w);have ZO:=hd' (Dx (s:=s) (p:=⟨#[38]⟩) (by rw[b38];exact hp []) w);clear hp hh;go_enter func78,ntmps78
  go_wp2_with (go_at_call 126;(first|(with_reducible refine HC.o'.mono ?_)|(with_reducible refine ZO.o'.mono ?_));rintro e w1 ⟨rfl,rfl⟩)
  go_ret;exact⟨bJ HT.o'.symm,aQ _ _⟩
 rcases DC s.toList with⟨r,h⟩|⟨r,h,h35⟩|⟨c,r,h,h'⟩|h
 ·have hrs:r.length+2=s.size:=by rw[<-aR,h];simp
  obtain⟨rb,hrb⟩: ∃rb,rb=bA r:=⟨_,rfl⟩;have hrl:rb.toList=r:=by rw[hrb,bT]
  have hsz:rb.size=r.length:=by rw[hrb,bV]
  have HT:Hid (xD s.toList=decide (xX r=rb.size)):=by show _=_;rw[h,YD,hsz];rfl
  have hc:=GV (s:=s) (p:=⟨#[38,35]⟩) (r:=r) (by rw[h,WA];rfl) w;rw[<-hrb]at hc;have HC:=hd' hc;have HN:=hd' (MG rb w (by omega));rw[hrl]at HN;generalize xX r=n at *;generalize (rP r).2=v at *;generalize decide (0<(rP r).1)=b at *;clear h hrs hrb hrl hsz hc key;go_enter func78,ntmps78
  go_wp2_with (first
   |(go_at_call 126;refine HC.o'.mono ?_;rintro e w1 ⟨rfl,rfl⟩)
   |(go_at_call 127;refine HN.o'.mono ?_;rintro e w1 ⟨rfl,rfl⟩))
  go_ret;exact⟨bJ (by rw[HT.o',rG];simp;omega),aQ _ _⟩
 ·have hrs:r.length+1=s.size:=by rw[<-aR,h];simp
  have HT:Hid (xD s.toList=A9 r):=by show _=_;rw[h,acu h35]
  have HC:=hd' (Dx (s:=s) (p:=⟨#[38,35]⟩) (by rw[h,WA];exact aak h35) w);have ZO:=hd' (GV (s:=s) (p:=⟨#[38]⟩) (r:=r) (by rw[h,b38];rfl) w);have hb:=Zt (bA r) w;rw[bT]at hb;have HB:=hd' hb;generalize bA r=rb at *;clear h hrs hb key h35;go_enter func78,ntmps78
  go_wp2_with (first
   |(go_at_call 126;(first|(with_reducible refine HC.o'.mono ?_)|(with_reducible refine ZO.o'.mono ?_));rintro e w1 ⟨rfl,rfl⟩)
   |(go_at_call 128;refine HB.o'.mono ?_;rintro e w1 ⟨rfl,hb⟩;have HB1:=hd' hb;clear hb))
  go_ret;exact⟨bJ HT.o'.symm,HB1.o'⟩
 ·exact key (by rw[h];simpa using h')
 ·exact key (by rw[h];simp)
end Go.Proofs.YtnlbcifhedjbfaaGreatDoor.Rd
end
