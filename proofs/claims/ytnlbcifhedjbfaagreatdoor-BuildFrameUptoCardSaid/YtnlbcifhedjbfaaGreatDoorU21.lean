/- oZ joined for a claim: aqC, avT: plain laws and contracts. No conditions beyond those that each lemma types. -/
import Derived.Test.YtnlbcifhedjbfaaGreatDoorU18
import Derived.Test.YtnlbcifhedjbfaaGreatDoorU20
import Derived.Test.YtnlbcifhedjbfaaGreatDoorU19
set_option linter.unusedVariables false
set_option linter.unusedSimpArgs false
set_option maxRecDepth 100000
set_option maxHeartbeats 8000000
open Go.Proofs.Tryz
section
namespace Go.Proofs.YtnlbcifhedjbfaaGreatDoor.Rd
open Go.RowKit Mem
theorem Pg {a b c d:Bool} (h:a=b) (h':c=d):Ending.returned (.tuple #[.bool a,.bool c])= .returned (.tuple #[.bool b,.bool d]):=by rw[h,h']
theorem Jf (s word:ae) (w:af) (hs:s.size<=4294967280) :
 Calls prog 183 #[.string s,.string word] w λe w'=>e= .returned (.tuple #[.bool (mM s.toList word.toList).1,.bool (mM s.toList word.toList).2])/\Below w.heap.size w w':=by
 obtain⟨k,hk⟩: ∃k,k=min s.size word.size:=⟨_,rfl⟩;have hmin:min (s.size:Int) (word.size:Int)=(k:Int):=by omega
 have hks:k<=s.size:=by omega
 have Fw:k<=word.size:=by omega
 have hF:mM s.toList word.toList=if kK (s.toList.take k)≠word.toList.take k then(false,false)else(k==word.size,decide (k<word.size)):=by
  unfold mM;rw[aR,aR,<-hk]
 have e1:(s.extract 0 k).toList=s.toList.take k:=by rw[ext_list,xh,Ef]
 have e2:(word.extract 0 k).toList=word.toList.take k:=by rw[ext_list,xh,Ef]
 have hsm:=λu=>rZ (s.extract 0 k) u (by unfold maxLen;rw[Ac];omega)
 rw[<-e1,<-e2]at hF;have eA:(bA (kK (s.extract 0 k).toList)).toList=kK (s.extract 0 k).toList:=bT _;rw[<-eA]at hF;obtain⟨A,hA⟩: ∃A,A=bA (kK (s.extract 0 k).toList):=⟨_,rfl⟩;rw[<-hA]at hF hsm;have HS:=hd' hsm;obtain⟨o,ho⟩: ∃o,o=mM s.toList word.toList:=⟨_,rfl⟩;rw[<-ho]at hF |-;clear hsm hA eA e1 e2 hk ho;by_cases hc:A.toList=(word.extract 0 k).toList
 ·rw[aj (λh=>h hc)]at hF;have HF:=hd' hF;have hn:(A.toList==(word.extract 0 k).toList)=true:=by rw[hc];simp
  clear hF hc;go_enter func183,ntmps183
  go_wp2_with fail
  refine bX (by kernel_rfl) (by kernel_rfl) ?_
  repeat
   with_reducible refine jW (λK hK=> ?_)
   first
    |(with_reducible apply gK
      ·rfl
      ·intro wq hC;unfold Oper.quietAt;go_simp
       first|(go_at_call 137;refine(HS.o' _).mono ?_;rintro e wx ⟨rfl,hb⟩;exact⟨rfl,aK hC hb⟩)|with_reducible rfl)
   simp only[Act.put,dV,dF,dK];refine hK _ ?_;clear hK K
  with_reducible refine jX ?_
  intro wq HQ;go_wp2_with fail
  go_ret2;exact⟨Pg (by rw[HF.o'];(show((k:Int)==(word.size:Int))=(k==word.size);rw[rG,cO,cO];omega)) (by rw[HF.o'];first|done|(apply pJ.2;omega)),HQ.o'⟩
 ·rw[au hc]at hF;have HF:=hd' hF;have hn:(A.toList==(word.extract 0 k).toList)=false:=by simpa using hc
  clear hF hc;go_enter func183,ntmps183
  go_wp2_with fail
  refine bX (by kernel_rfl) (by kernel_rfl) ?_
  repeat
   with_reducible refine jW (λK hK=> ?_)
   first
    |(with_reducible apply gK
      ·rfl
      ·intro wq hC;unfold Oper.quietAt;go_simp
       first|(go_at_call 137;refine(HS.o' _).mono ?_;rintro e wx ⟨rfl,hb⟩;exact⟨rfl,aK hC hb⟩)|with_reducible rfl)
   simp only[Act.put,dV,dF,dK];refine hK _ ?_;clear hK K
  with_reducible refine jX ?_
  intro wq HQ;go_wp2_with fail
  go_ret2;exact⟨Pg (by rw[HF.o']) (by rw[HF.o']),HQ.o'⟩
theorem Ai (m:gP) (b:Nat) (k:Int) (w:af) (hr:Row w b (eZ m)):Calls prog 133 #[.pointer (some ⟨b,0,none⟩),.int .i64 k] w λe w'=>e= .returned (.int .i64 (jR m.dO k))/\w=w':=by
 obtain⟨-, -,hc2, -⟩:=dA hr;clear hr;cases hcl:m.dO
 all_goals
  rw[hcl]at hc2;clear hcl;go_enter func133,ntmps133
  go_wp2_with fail
  go_ret;exact⟨rfl,rfl⟩
theorem agc (m:gP) (b:Nat) (s:ae) (w:af) (hr:Row w b (eZ m)) (hs:s.size<=4294967280) (hn:m.ah.length<=4294967280) :
 Calls prog 132 #[.pointer (some ⟨b,0,none⟩),.string s] w λe w'=>e= .returned (.int .i64 (zN m s.toList))/\Below w.heap.size w w':=by
 obtain⟨-, -, -, -,hc4, -⟩:=dA hr;have HR:=hd' hr;clear hr;obtain⟨word,hw⟩: ∃word:ae,word=(⟨#[60,47]⟩:ae)++bA m.ah:=⟨_,rfl⟩
 have hwl:word.toList= [60,47]++m.ah:=by
  rw[hw,dZ,ByteArray.data_append,IB];rfl
 have hwz:word.size=m.ah.length+2:=by rw[<-aR,hwl];simp
 have WW:=hd' (λu=>Jf s word u hs)
 have hE:zN m s.toList=if(mM s.toList word.toList).2=true\/((mM s.toList word.toList).1=true/\s.size=word.size)then jR m.dO 0
  else if(mM s.toList word.toList).1=true/\(zL (s.toList.getD word.size 0)||s.toList.getD word.size 0==62)=true then 3 else 0:=by
  unfold zN;rw[hwl,aR,hwz]
 obtain⟨o,ho⟩: ∃o,o=zN m s.toList:=⟨_,rfl⟩;rw[<-ho]at hE |-
 have hfw:(mM s.toList word.toList).1=true->word.size<=s.size:=λh=>by
  have:=(yo h).1;rw[aR,aR]at this;exact this
 have hlow:word.size<=4294967282:=by omega
 have apU: ¬9223372036854775807<2+(bA m.ah).size:=by rw[bV];omega
 generalize mM s.toList word.toList=f at *;obtain⟨f1,f2⟩:=f;simp only at hE hfw WW;clear ho hwz hwl;have HW:Hid ((⟨#[60,47]⟩:ae)++bA m.ah=word):=hw.symm;clear hw;cases f2
 ·cases f1
  ·have HE:=hd' (show o=0 from hE.trans (by simp));clear hE hfw;go_enter Ee,Ec
   go_wp2_with (go_at_call 183;rw[HW.o'];refine(WW.o' _).mono ?_;rintro e w1 ⟨rfl,hb⟩;have HB:=hd' hb;clear hb)
   go_ret;exact⟨by rw[HE.o'];rfl,HB.o'⟩
  ·have hlen:=hfw rfl;clear hfw;by_cases hsz:s.size=word.size
   ·have HE:=hd' (hE.trans (au (.inr ⟨rfl,hsz⟩)));clear hE;have apu:((s.size:Int)==(word.size:Int))=true:=by rw[hsz];simp
    go_enter Ee,Ec
    go_wp2_with (first
     |(go_at_call 183;rw[HW.o'];refine(WW.o' _).mono ?_;rintro e w1 ⟨rfl,hb⟩;have HB:=hd' hb;clear hb)
     |(go_at_call 133;refine(Ai m b 0 _ (HR.o'.below HB.o' HR.o'.lt)).mono ?_;rintro e w2 ⟨rfl,rfl⟩))
    go_ret;exact⟨by rw[HE.o'];rfl,HB.o'⟩
   ·have hlt:word.size<s.size:=by omega
    rw[aj (by simp[hsz])]at hE;have apu:((s.size:Int)==(word.size:Int))=false:=by rw[aV];omega
    have hget:s.toList.getD word.size 0=s[word.size]:=by
     rw[Xf,dZ,yQ s _ hlt];rfl
    rw[hget]at hE;have hsp:=λu=>IM s[word.size] u
    unfold zL at hE;rw[ueq s[word.size] 47,ueq s[word.size] 62]at hE;have hu:=s[word.size].toNat_lt;cases hs1:je s[word.size]
    ·rw[hs1]at hE hsp;have KL:=hd' hsp;by_cases h47:(s[word.size].toNat:Int)=47
     ·have e47:((s[word.size].toNat:Int)==47)=true:=cO.2 h47;have HE:=hd' (hE.trans (au ⟨rfl,by show(_||((s[word.size].toNat:Int)==47)||_)=true;rw[e47];rfl⟩));clear hE hs1 hsp hget h47;go_enter Ee,Ec
      go_wp2_with (first
       |(go_at_call 183;rw[HW.o'];refine(WW.o' _).mono ?_;rintro e w1 ⟨rfl,hb⟩;have HB:=hd' hb;clear hb)
       |(go_at_call 138;refine(KL.o' _).mono ?_;rintro e w2 ⟨rfl,rfl⟩))
      go_ret;exact⟨by rw[HE.o'];rfl,HB.o'⟩
     ·have e47:((s[word.size].toNat:Int)==47)=false:=aV.2 h47;cases h62:((s[word.size].toNat:Int)==62)
      ·have HE:=hd' (hE.trans (aj (λh=>by have:=h.2;change (_||((s[word.size].toNat:Int)==47)||((s[word.size].toNat:Int)==62))=true at this;rw[e47,h62]at this;cases this)));clear hE hs1 hsp hget h47;go_enter Ee,Ec
       go_wp2_with (first
        |(go_at_call 183;rw[HW.o'];refine(WW.o' _).mono ?_;rintro e w1 ⟨rfl,hb⟩;have HB:=hd' hb;clear hb)
        |(go_at_call 138;refine(KL.o' _).mono ?_;rintro e w2 ⟨rfl,rfl⟩))
       go_ret;exact⟨by rw[HE.o'];rfl,HB.o'⟩
      ·have HE:=hd' (hE.trans (au ⟨rfl,by show(_||_||((s[word.size].toNat:Int)==62))=true;rw[h62,sU]⟩));clear hE hs1 hsp hget h47;go_enter Ee,Ec
       go_wp2_with (first
        |(go_at_call 183;rw[HW.o'];refine(WW.o' _).mono ?_;rintro e w1 ⟨rfl,hb⟩;have HB:=hd' hb;clear hb)
        |(go_at_call 138;refine(KL.o' _).mono ?_;rintro e w2 ⟨rfl,rfl⟩))
       go_ret;exact⟨by rw[HE.o'];rfl,HB.o'⟩
    ·rw[hs1]at hE hsp;have KL:=hd' hsp;have HE:=hd' (hE.trans (au ⟨rfl,by simp⟩));clear hE hs1 hsp hget;go_enter Ee,Ec
     go_wp2_with (first
      |(go_at_call 183;rw[HW.o'];refine(WW.o' _).mono ?_;rintro e w1 ⟨rfl,hb⟩;have HB:=hd' hb;clear hb)
      |(go_at_call 138;refine(KL.o' _).mono ?_;rintro e w2 ⟨rfl,rfl⟩))
     go_ret;exact⟨by rw[HE.o'];rfl,HB.o'⟩
 ·have HE:=hd' (hE.trans (au (.inl rfl)));clear hE hfw;go_enter Ee,Ec
  go_wp2_with (first
   |(go_at_call 183;rw[HW.o'];refine(WW.o' _).mono ?_;rintro e w1 ⟨rfl,hb⟩;have HB:=hd' hb;clear hb)
   |(go_at_call 133;refine(Ai m b 0 _ (HR.o'.below HB.o' HR.o'.lt)).mono ?_;rintro e w2 ⟨rfl,rfl⟩))
  go_ret;exact⟨by rw[HE.o'];rfl,HB.o'⟩
theorem Sz (m:gP) (b:Nat) (s:ae) (w:af) (hr:Row w b (eZ m)) (hs:s.size<=4294967280) :
 Calls prog 135 #[.pointer (some ⟨b,0,none⟩),.string s] w λe w'=>e= .returned (.int .i64 (Bn m s.toList))/\Below w.heap.size w w':=by
 have HR:=hd' hr;clear hr;have F1:=λu=>Jf s ⟨#[60,33,45,45]⟩ u hs
 have F2:=λu=>Jf s ⟨#[60,33,100,111,99,116,121,112,101]⟩ u hs
 have P1:=λu=>Cv s ⟨#[60,33,91,67,68,65,84,65,91]⟩ u
 have P2:=λu=>Cv ⟨#[60,33,91,67,68,65,84,65,91]⟩ s u
 rw[show(⟨#[60,33,45,45]⟩:ae).toList=agm from by rw[dZ];rfl]at F1;rw[show(⟨#[60,33,100,111,99,116,121,112,101]⟩:ae).toList=aiI from by rw[dZ];rfl]at F2;rw[show(⟨#[60,33,91,67,68,65,84,65,91]⟩:ae).toList=Jp from by rw[dZ];rfl]at P1 P2;obtain⟨o,ho⟩: ∃o,o=Bn m s.toList:=⟨_,rfl⟩;rw[<-ho];unfold Bn at ho;generalize mM s.toList agm=f1 at *;generalize mM s.toList aiI=f2 at *;generalize Jp.isPrefixOf s.toList=c at *;generalize s.toList.isPrefixOf Jp=d at *;obtain⟨a1,a2⟩:=f1;obtain⟨b1,b2⟩:=f2;have hx: ∃cd cl,cd=m.CG/\cl=jR m.dO 8:=⟨_,_,rfl,rfl⟩;obtain⟨cd,cl,hcd,hcl⟩:=hx;have hu: ∀u,Row u b (eZ m)->Calls prog 133 #[.pointer (some ⟨b,0,none⟩),.int .i64 8] u _:=λu hu=>Ai m b 8 u hu
 rw[<-hcl]at hu ho;rw[<-hcd]at ho;have HO:=hd' ho;have HU:=hd' hu;have G1:=hd' F1;have G2:=hd' F2;have G3:=hd' P1;have G4:=hd' P2;have HC:Hid (∀u,Row u b (eZ m)->u.cell? ⟨b,5,none⟩=some (.bool cd)):=λu h=>by rw[hcd];exact h.cell rfl
 clear ho hu F1 F2 P1 P2 hcl hcd;go_enter func135,ntmps135
 go_wp2_with (first
  |(go_at_call 183;(first
     |(with_reducible refine(G1.o' _).mono ?_;rintro e w1 ⟨rfl,hb⟩;have HB1:=hd' hb;clear hb)
     |(with_reducible refine(G2.o' _).mono ?_;rintro e w2 ⟨rfl,hb⟩;have HB2:=hd' (aK HB1.o' hb);have HR2:=hd' (HR.o'.below HB2.o' HR.o'.lt);have hc5:=HC.o' _ HR2.o';clear hb)))
  |(go_at_call 74;((first|(with_reducible refine(G3.o' _).mono ?_)|(with_reducible refine(G4.o' _).mono ?_));rintro e w3 ⟨rfl,rfl⟩))
  |(go_at_call 133;refine(HU.o' _ HR2.o').mono ?_;rintro e w4 ⟨rfl,rfl⟩))
 all_goals go_ret
 all_goals exact⟨by rw[HO.o'];simp only[*];simp,HB2.o'⟩
theorem ahr (c d:ax) (n:Int) (h:(d.toNat:Int)=n):(c=d)↔(((c.toNat:Int)==n)=true):=by
 rw[cO,<-h,<-KN];omega
theorem afi (m:gP) (c0 c1:ax) (r:bH) (hm:m.aD=0):nK m (c0::c1::r)=if jH c1=true then 2 else if((c1.toNat:Int)==63)=true then 8 else if((c1.toNat:Int)==33)=true then Bn m (c0::c1::r)else if((c1.toNat:Int) !=47)=true then 0
 else match r with
  | []=>jR m.dO 0
  |d::_=>if jH d=true then 3 else if((d.toNat:Int)==62)=true then 4 else 8:=by
 unfold nK;rw[aj (λh=>h hm)];simp only[ahr c1 63 63 rfl,ahr c1 33 33 rfl,ne_eq,ahr c1 47 47 rfl,bne,Af,Bool.not_eq_true];cases r with
 |nil=>rfl
 |cons d r=>simp only[ahr d 62 62 rfl]
theorem afl (m:gP) (b:Nat) (w:af) (hr:Row w b (eZ m)) (hs:m.bn.length<=4294967280) (hn:m.ah.length<=4294967280) :
 Calls prog 80 #[.pointer (some ⟨b,0,none⟩)] w λe w'=>e= .returned (.int .i64 (nK m m.bn))/\Below w.heap.size w w':=by
 obtain⟨hc0, -, -,hc3, -⟩:=dA hr;have HR:=hd' hr;have ZN:=hd' (agc m b (bA m.bn) w hr (by rw[bV];exact hs) hn);have HDe:=hd' (Sz m b (bA m.bn) w hr (by rw[bV];exact hs));have HUn:=hd' (Ai m b 0 w hr);rw[bT]at ZN HDe;obtain⟨S,hS⟩: ∃S,S=bA m.bn:=⟨_,rfl⟩;have hz:S.size=m.bn.length:=by rw[hS];exact bV _
 have hSl:S.data.toList=m.bn:=by rw[hS];rfl
 rw[<-hS]at hc0 ZN HDe;obtain⟨o,ho⟩: ∃o,o=nK m m.bn:=⟨_,rfl⟩;rw[<-ho];clear hr hS;by_cases hm:m.aD=0
 ·rw[hm]at hc3
  match hbuf:m.bn with
  | [] =>
    rw[hbuf]at hz ho;have HO:=hd' (show o=jR m.dO 0 from by rw[ho];unfold nK;rw[aj (λh=>h hm)]);have hlt:(S.size:Int)<2:=by rw[hz];decide
    clear ho hm hbuf hz ZN HDe hs hSl;go_enter KV,KR
    go_wp2_with (go_at_call 133;refine HUn.o'.mono ?_;rintro e w4 ⟨rfl,rfl⟩)
    go_ret;exact⟨by rw[HO.o'];rfl,aQ _ _⟩
  | [c0] =>
    rw[hbuf]at hz ho;have HO:=hd' (show o=jR m.dO 0 from by rw[ho];unfold nK;rw[aj (λh=>h hm)]);have hlt:(S.size:Int)<2:=by rw[hz];simp
    clear ho hm hbuf hz ZN HDe hs hSl;go_enter KV,KR
    go_wp2_with (go_at_call 133;refine HUn.o'.mono ?_;rintro e w4 ⟨rfl,rfl⟩)
    go_ret;exact⟨by rw[HO.o'];rfl,aQ _ _⟩
  |c0::c1::r =>
   rw[hbuf]at hz ho;rw[afi m c0 c1 r hm,<-hbuf]at ho;have h1:1<S.size:=by rw[hz];simp
   have hb1:S[1]'h1=c1:=by
    have:=yQ S 1 h1;rw[hSl,hbuf]at this;exact(Il this).symm
   have HL1:=hd' (λu=>M5 c1 u);have hu1:=c1.toNat_lt;cases r with
   |nil =>
    simp only[dB,kQ]at hz;simp only at ho;have hlt: ¬(S.size:Int)<2:=by rw[hz];decide
    have hlt3:(S.size:Int)<3:=by rw[hz];decide
    generalize Bn m m.bn=dc at *;generalize jR m.dO 0=un at *;generalize jH c1=l1 at *;have HO:=hd' ho;clear ho hbuf hSl ZN hm hs hz;go_enter KV,KR
    go_wp2_with (first
     |(go_at_call 134;refine(HL1.o' _).mono ?_;rintro e w4 ⟨rfl,rfl⟩)
     |(go_at_call 135;refine HDe.o'.mono ?_;rintro e w1 ⟨rfl,hb⟩;have HB:=hd' hb;clear hb)
     |(go_at_call 133;refine HUn.o'.mono ?_;rintro e w4 ⟨rfl,rfl⟩))
    all_goals go_ret
    all_goals exact⟨by rw[HO.o'];simp only[*];simp,by first|exact HB.o'|exact aQ _ _⟩
   |cons d r =>
    simp only[dB]at hz;simp only at ho;have h2:2<S.size:=by omega
    have hb2:S[2]'h2=d:=by
     have:=yQ S 2 h2;rw[hSl,hbuf]at this;exact(Il this).symm
    have HL2:=hd' (λu=>M5 d u);have hu2:=d.toNat_lt;have hlt: ¬(S.size:Int)<2:=by omega
    have hlt3: ¬(S.size:Int)<3:=by omega
    generalize Bn m m.bn=dc at *;generalize jH c1=l1 at *;generalize jH d=l2 at *;have HO:=hd' ho;clear ho hbuf hSl ZN hm hs hz HUn;go_enter KV,KR
    go_wp2_with (first
     |(go_at_call 134;((first|(with_reducible refine(HL1.o' _).mono ?_)|(with_reducible refine(HL2.o' _).mono ?_));rintro e w4 ⟨rfl,rfl⟩))
     |(go_at_call 135;refine HDe.o'.mono ?_;rintro e w1 ⟨rfl,hb⟩;have HB:=hd' hb;clear hb))
    all_goals go_ret
    all_goals exact⟨by rw[HO.o'];simp only[*];simp,by first|exact HB.o'|exact aQ _ _⟩
 ·have hm':(m.aD==0)=false:=aV.2 hm;have HO:=hd' (show o=zN m m.bn from by rw[ho];unfold nK;rw[au hm]);clear ho hm HDe HUn hz hs hSl;go_enter KV,KR
  go_wp2_with (go_at_call 132;refine ZN.o'.mono ?_;rintro e w1 ⟨rfl,hb⟩;have HB:=hd' hb;clear hb)
  go_ret;exact⟨by rw[HO.o'];rfl,HB.o'⟩
theorem dU {F:Nat->Prop} {w a u:af} (h:az F w a) (hq:Below a.heap.size a u):az F w u:=h.trans (az.bC hq)
theorem ic {a u:af} {R:Nat} {o:Obj} (h:a.heap[R]?=some o) (hq:Below a.heap.size a u) (hR:R<a.heap.size):u.heap[R]?=some o:=(hq.block R hR).trans h
theorem fq {a u:af} {R b:Nat} {o:Obj} (h:a.heap[R]?=some o) (hk:az (Only b) a u) (hR:R<a.heap.size) (hne:R≠b):u.heap[R]?=some o:=(hk.block R hR hne).trans h
theorem Wm (m:gP):iP m=(if 0<=Lib.index m.bn AY/\(Lib.index m.bn uV<0\/Lib.index m.bn AY<Lib.index m.bn uV)then mR m ((Lib.index m.bn AY).toNat+3)
 else if 0<=Lib.index m.bn uV then mR m ((Lib.index m.bn uV).toNat+4)
 else if m.dO then mR m m.bn.length
 else(Ve,false,true,{m with bn:=m.bn.drop (m.bn.length-3)})):=rfl
theorem Wl (m:gP) (b:Nat) (x:Int) (w:af) (hr:Row w b (eZ m)) (hm:wy w x) (hl:m.bn.length<=4294967280) :
 Calls prog 44 #[.pointer (some ⟨b,0,none⟩)] w λe w'=>e= .returned (Cc (Kn m))/\Row w' b (eZ (Kn m).2.2.2)/\az (Only b) w w':=by
 have hbw:=hr.lt;obtain⟨o,ho⟩: ∃o,o=Kn m:=⟨_,rfl⟩;rw[<-ho];unfold Kn at ho;by_cases hfr:m.fresh=true
 case' neg =>
  rw[aj hfr]at ho;have am0:m.fresh=false:=by simpa using hfr
  have hc8:=(dA hr).2.2.2.2.2.2.2.2.1;rw[am0]at hc8;clear hfr am0;obtain⟨wa,kF⟩: ∃wa,wa=w.alloc (.cells cu 39):=⟨_,rfl⟩;have HR:=hd' (show Row wa b (eZ m)from kF▸hr.kept (gu w (.cells cu 39) hbw));have HZ:=hd' (show wa.heap[w.heap.size]?=some (.cells cu 39 (0,0))from kF▸eU _ _);have HK:=hd' (show az (Only b) w wa from kF▸(az.refl (Only b) w).alloc _);have hza:w.heap.size<wa.heap.size:=by rw[kF];simp
  have zb:Hid (wa=w.alloc (.cells #[.int .i64 0,.string ⟨#[]⟩,.slice none 0 0,.bool false,.string ⟨#[]⟩] 39)):=kF;clear kF;have HMa:=hd' (oC hm hr HK.o');have Ki:=HR;have ZJ:=HZ;have TJ:=HK;clear HR HZ HK hr hm;go_enter KW,KS
  go_wp2_with fail
  rw[<-zb.o'];clear zb hc8;obtain⟨m1,hm1⟩: ∃m1,m1=m:=⟨_,rfl⟩;rw[<-hm1]at ho Ki hl;clear hm1;have hl1:=hl;clear hl
 case' pos =>
  rw[au hfr]at ho;obtain⟨hc0, -,hc2, -, -, -, -, -,hc8, -⟩:=dA hr;have hf8:=(gD hr).2.2.2.2.2.2.2.2.1;rw[hfr]at hc8;clear hfr;have H1:=hd' (λu=>Cv (bA m.bn) ⟨#[62]⟩ u);have H2:=hd' (λu=>Cv (bA m.bn) ⟨#[45,62]⟩ u);rw[bT,show(⟨#[62]⟩:ae).toList= [62]from by rw[dZ]]at H1;rw[bT,show(⟨#[45,62]⟩:ae).toList= [45,62]from by rw[dZ]]at H2;have hne:w.heap.size≠b:=by omega
  have Tx:=hd' hr;by_cases p1:([62]:bH).isPrefixOf m.bn=true
  ·rw[au p1]at ho;rw[p1]at H1;have hlen:=(Iw.1 p1).length_le;obtain⟨wa,kF⟩: ∃wa,wa=w.alloc (.cells cu 39):=⟨_,rfl⟩;have HR:=hd' (show Row wa b (eZ m)from kF▸hr.kept (gu w (.cells cu 39) hbw));have HZ:=hd' (show wa.heap[w.heap.size]?=some (.cells cu 39 (0,0))from kF▸eU _ _);have HK:=hd' (show az (Only b) w wa from kF▸(az.refl (Only b) w).alloc _);have hza:w.heap.size<wa.heap.size:=by rw[kF];simp
   have zb:Hid (wa=w.alloc (.cells #[.int .i64 0,.string ⟨#[]⟩,.slice none 0 0,.bool false,.string ⟨#[]⟩] 39)):=kF;clear kF;have KM:=HR;have Tt:=HZ;have Qw:=HK;have VL:=hza;have HO:=hd' ho;clear hr hm ho p1 HR HZ HK hc2 hf8;go_enter KW,KS
   go_wp2_with (go_at_call 74;refine(H1.o' _).mono ?_;rintro e w1 ⟨rfl,rfl⟩)
   rw[<-zb.o'];refine(tX m b 1 _ KM.o' hlen (by omega)).mono ?_;rintro e W1 ⟨rfl,r1,k1⟩
   --a call of done has answered:W1,r1,k1
   have HZ1:=hd' (fq Tt.o' k1 VL hne);have wE:=hd' (Qw.o'.trans k1);have HR1:=hd' r1;obtain⟨⟨q0,q1,q2,q3,q4⟩,f0,f1,f2,f3,f4⟩:=eY HZ1.o';clear k1 r1;dsimp only[Cc,nz];go_wp2_with fail
   refine bU (bE rfl _ _ w.heap.size _ _ _ _ rfl (eD HZ1.o' _ _ _ _ _) fG rfl bP) rfl ?_;rw[HO.o'];exact⟨rfl,dz HR1.o' (λe=>hne e.symm) _ _ _ _ _,bK wE.o' (ay _) _ _ _ _ _⟩
  rw[aj p1]at ho;have p1':([62]:bH).isPrefixOf m.bn=false:=Ag.2 p1;rw[p1']at H1;clear p1 p1';by_cases p2:([45,62]:bH).isPrefixOf m.bn=true
  ·rw[au p2]at ho;rw[p2]at H2;have hlen:=(Iw.1 p2).length_le;obtain⟨wa,kF⟩: ∃wa,wa=w.alloc (.cells cu 39):=⟨_,rfl⟩;have HR:=hd' (show Row wa b (eZ m)from kF▸hr.kept (gu w (.cells cu 39) hbw));have HZ:=hd' (show wa.heap[w.heap.size]?=some (.cells cu 39 (0,0))from kF▸eU _ _);have HK:=hd' (show az (Only b) w wa from kF▸(az.refl (Only b) w).alloc _);have hza:w.heap.size<wa.heap.size:=by rw[kF];simp
   have zb:Hid (wa=w.alloc (.cells #[.int .i64 0,.string ⟨#[]⟩,.slice none 0 0,.bool false,.string ⟨#[]⟩] 39)):=kF;clear kF;have KM:=HR;have Tt:=HZ;have Qw:=HK;have VL:=hza;have HO:=hd' ho;clear hr hm ho p2 HR HZ HK hc2 hf8;go_enter KW,KS
   go_wp2_with (go_at_call 74;((first|(with_reducible refine(H1.o' _).mono ?_)|(with_reducible refine(H2.o' _).mono ?_));rintro e w1 ⟨rfl,rfl⟩))
   rw[<-zb.o'];refine(tX m b 2 _ KM.o' hlen (by omega)).mono ?_;rintro e W1 ⟨rfl,r1,k1⟩
   --a call of done has answered:W1,r1,k1
   have HZ1:=hd' (fq Tt.o' k1 VL hne);have wE:=hd' (Qw.o'.trans k1);have HR1:=hd' r1;obtain⟨⟨q0,q1,q2,q3,q4⟩,f0,f1,f2,f3,f4⟩:=eY HZ1.o';clear k1 r1;dsimp only[Cc,nz];go_wp2_with fail
   refine bU (bE rfl _ _ w.heap.size _ _ _ _ rfl (eD HZ1.o' _ _ _ _ _) fG rfl bP) rfl ?_;rw[HO.o'];exact⟨rfl,dz HR1.o' (λe=>hne e.symm) _ _ _ _ _,bK wE.o' (ay _) _ _ _ _ _⟩
  rw[aj p2]at ho;have p2':([45,62]:bH).isPrefixOf m.bn=false:=Ag.2 p2;rw[p2']at H2;clear p2 p2';by_cases p3:m.dO=false/\(m.bn= []\/m.bn= [45])
  ·rw[au p3]at ho;have HO:=hd' ho;rw[p3.1]at hc2
   have hp4:((bA m.bn).toList.isEmpty=true)\/((bA m.bn).toList.isEmpty=false/\(((bA m.bn).toList==([45]:bH))=true)):=by
    rw[bT];rcases p3.2 with h|h <;>rw[h]
    ·exact .inl rfl
    ·exact .inr ⟨rfl,rfl⟩
   clear ho hr hm p3;rcases hp4 with hp4|⟨hp4,hp5⟩
   all_goals
    go_enter KW,KS
    go_wp2_with (go_at_call 74;((first|(with_reducible refine(H1.o' _).mono ?_)|(with_reducible refine(H2.o' _).mono ?_));rintro e w1 ⟨rfl,rfl⟩))
    refine bU (bE rfl _ _ w.heap.size _ _ _ _ rfl (alloc_at rfl) fG rfl bP) rfl ?_;rw[HO.o'];exact⟨iR rfl,Tx.o'.kept (gu _ _ hbw),(az.refl (Only b) w).alloc _⟩
  rw[aj p3]at ho
  have hp4:m.dO=true\/(m.dO=false/\(bA m.bn).toList.isEmpty=false/\(((bA m.bn).toList==([45]:bH))=false)):=by
   cases hcl:m.dO
   ·right;refine⟨rfl,?_,?_⟩
    ·rw[bT];cases h:m.bn with
     |nil=>exact absurd ⟨hcl,.inl h⟩ p3
     |cons _ _=>rfl
    ·rw[bT,aV];exact λh=>p3 ⟨hcl,.inr h⟩
   ·exact .inl rfl
  clear p3
  have Ki:Hid (Row ((w.setCell ⟨b,8,none⟩ (.bool false)).alloc (.cells #[.int .i64 0,.string ⟨#[]⟩,.slice none 0 0,.bool false,.string ⟨#[]⟩] 39)) b (eZ {m with fresh:=false})) :=
   (Tx.o'.set 8 (.bool false)).kept (gu _ _ (by simp;exact hbw))
  have ZJ:Hid (((w.setCell ⟨b,8,none⟩ (.bool false)).alloc (.cells #[.int .i64 0,.string ⟨#[]⟩,.slice none 0 0,.bool false,.string ⟨#[]⟩] 39)).heap[w.heap.size]?=some (.cells cu 39 (0,0))):=alloc_at (by simp);have TJ:Hid (az (Only b) w ((w.setCell ⟨b,8,none⟩ (.bool false)).alloc (.cells #[.int .i64 0,.string ⟨#[]⟩,.slice none 0 0,.bool false,.string ⟨#[]⟩] 39))):=(bM (az.refl (Only b) w) _).alloc _;have HMa:=hd' (oC hm hr TJ.o');have hza:w.heap.size<((w.setCell ⟨b,8,none⟩ (.bool false)).alloc (.cells #[.int .i64 0,.string ⟨#[]⟩,.slice none 0 0,.bool false,.string ⟨#[]⟩] 39)).heap.size:=by simp
  clear hr hm;rcases hp4 with hcl|⟨hcl,hp5,hp6⟩
  all_goals
   rw[hcl]at hc2;clear hcl;go_enter KW,KS
   go_wp2_with (go_at_call 74;((first|(with_reducible refine(H1.o' _).mono ?_)|(with_reducible refine(H2.o' _).mono ?_));rintro e w1 ⟨rfl,rfl⟩))
   clear hc0 hc2 hc8 hf8 H1 H2
   try clear hp5 hp6
   generalize ((w.setCell ⟨b,8,none⟩ (.bool false)).alloc (.cells #[.int .i64 0,.string ⟨#[]⟩,.slice none 0 0,.bool false,.string ⟨#[]⟩] 39))=wa at *;have hl1:({m with fresh:=false}:gP).bn.length<=4294967280:=hl;generalize ({m with fresh:=false}:gP)=m1 at *;clear hl
 all_goals
  --world wa:Ki ZJ TJ HMa hza;machine m1,ho:o=iP m1
  have hne:w.heap.size≠b:=by omega
  have hz:(bA m1.bn).size=m1.bn.length:=bV _;have hA:=λu hu=>JH (bA m1.bn) ⟨#[45,45,62]⟩ x u (by rw[hz];omega) hu
  rw[zu,show(⟨#[45,45,62]⟩:ae).data.toList=AY from rfl]at hA;have hB:=λu hu=>JH (bA m1.bn) ⟨#[45,45,33,62]⟩ x u (by rw[hz];omega) hu
  rw[zu,show(⟨#[45,45,33,62]⟩:ae).data.toList=uV from rfl]at hB
  have hia:(∃i:Nat,Lib.index m1.bn AY=i/\i+3<=m1.bn.length)\/Lib.index m1.bn AY= -1:=by
   by_cases h0:0<=Lib.index m1.bn AY
   ·obtain⟨i,h1,h2, -, -⟩:=E9 h0 (by decide);exact .inl ⟨i,h1,h2⟩
   ·exact .inr (Nc h0)
  have hib:(∃i:Nat,Lib.index m1.bn uV=i/\i+4<=m1.bn.length)\/Lib.index m1.bn uV= -1:=by
   by_cases h0:0<=Lib.index m1.bn uV
   ·obtain⟨i,h1,h2, -, -⟩:=E9 h0 (by decide);exact .inl ⟨i,h1,h2⟩
   ·exact .inr (Nc h0)
  have hcl:=Wm m1;obtain⟨ia,amX⟩: ∃i,i=Lib.index m1.bn AY:=⟨_,rfl⟩;obtain⟨ib,amW⟩: ∃i,i=Lib.index m1.bn uV:=⟨_,rfl⟩;rw[<-amX]at hA hcl hia;rw[<-amW]at hB hcl hib;have HA:=hd' hA;have HB:=hd' hB;clear hA hB amX amW;obtain⟨hc0, -⟩:=dA Ki.o';have hM0:wa.cell? ⟨0,0,none⟩=some (.int .i64 x):=HMa.o';refine bX (by kernel_rfl) (by kernel_rfl) ?_
  repeat
   with_reducible refine jW (λK hK=> ?_)
   first
    |(with_reducible apply gK
      ·rfl
      ·intro wq hC;have rH:=aM hC.o' hc0;have aho:=aM hC.o' hM0;unfold Oper.quietAt;go_simp
       first|(go_at_call 75;(first|(with_reducible refine(HA.o' _ aho).mono ?_)|(with_reducible refine(HB.o' _ aho).mono ?_));rintro e wx ⟨rfl,rfl⟩;exact⟨rfl,hC⟩)|with_reducible rfl)
   simp only[Act.put,dV,dF,dK];refine hK _ ?_;clear hK K
  with_reducible refine jX ?_
  intro wq HQ;have rH:=aM HQ.o' hc0;have aho:=aM HQ.o' hM0;have KM:=hd' (Ki.o'.below HQ.o' Ki.o'.lt);have Tt:=hd' (ic ZJ.o' HQ.o' hza);have Qw:=hd' (dU TJ.o' HQ.o');have VL:w.heap.size<wq.heap.size:=fA hza HQ.o'.size;clear hc0 hM0 rH aho;obtain⟨hc0, -,hc2, -⟩:=dA KM.o';have hf0:=(gD KM.o').1;clear HA HB HQ Ki ZJ TJ HMa;by_cases c1:0<=ia/\(ib<0\/ia<ib)
  ·rw[au c1]at hcl;have HO:=hd' (ho.trans hcl);obtain⟨i,rfl,hil⟩:=hia.resolve_right (by omega);clear hcl ho hia hc0 hc2 hf0;rcases c1.2 with c2|c2
   all_goals
    obtain⟨c1, -⟩:=c1;go_wp2_with fail
    refine(tX m1 b (i+3) _ KM.o' hil (by omega)).mono ?_;rintro e W1 ⟨rfl,r1,k1⟩
    --a call of done has answered:W1,r1,k1
    have HZ1:=hd' (fq Tt.o' k1 VL hne);have wE:=hd' (Qw.o'.trans k1);have HR1:=hd' r1;obtain⟨⟨q0,q1,q2,q3,q4⟩,f0,f1,f2,f3,f4⟩:=eY HZ1.o';clear k1 r1;dsimp only[Cc,nz];go_wp2_with fail
    refine bU (bE rfl _ _ w.heap.size _ _ _ _ rfl (eD HZ1.o' _ _ _ _ _) fG rfl bP) rfl ?_;rw[HO.o'];exact⟨rfl,dz HR1.o' (λe=>hne e.symm) _ _ _ _ _,bK wE.o' (ay _) _ _ _ _ _⟩
  ·rw[aj c1]at hcl;by_cases c2:0<=ib
   ·rw[au c2]at hcl;have HO:=hd' (ho.trans hcl);obtain⟨i,rfl,hil⟩:=hib.resolve_right (by omega);clear hcl ho hib hc0 hc2 hf0;by_cases c3:0<=ia
    ·have c4: ¬ia<(i:Int):=λh=>c1 ⟨c3,.inr h⟩
     have c5: ¬(i:Int)<0:=by omega
     clear c1 hia;go_wp2_with fail
     refine(tX m1 b (i+4) _ KM.o' hil (by omega)).mono ?_;rintro e W1 ⟨rfl,r1,k1⟩
     --a call of done has answered:W1,r1,k1
     have HZ1:=hd' (fq Tt.o' k1 VL hne);have wE:=hd' (Qw.o'.trans k1);have HR1:=hd' r1;obtain⟨⟨q0,q1,q2,q3,q4⟩,f0,f1,f2,f3,f4⟩:=eY HZ1.o';clear k1 r1;dsimp only[Cc,nz];go_wp2_with fail
     refine bU (bE rfl _ _ w.heap.size _ _ _ _ rfl (eD HZ1.o' _ _ _ _ _) fG rfl bP) rfl ?_;rw[HO.o'];exact⟨rfl,dz HR1.o' (λe=>hne e.symm) _ _ _ _ _,bK wE.o' (ay _) _ _ _ _ _⟩
    ·clear c1 hia;go_wp2_with fail
     refine(tX m1 b (i+4) _ KM.o' hil (by omega)).mono ?_;rintro e W1 ⟨rfl,r1,k1⟩
     --a call of done has answered:W1,r1,k1
     have HZ1:=hd' (fq Tt.o' k1 VL hne);have wE:=hd' (Qw.o'.trans k1);have HR1:=hd' r1;obtain⟨⟨q0,q1,q2,q3,q4⟩,f0,f1,f2,f3,f4⟩:=eY HZ1.o';clear k1 r1;dsimp only[Cc,nz];go_wp2_with fail
     refine bU (bE rfl _ _ w.heap.size _ _ _ _ rfl (eD HZ1.o' _ _ _ _ _) fG rfl bP) rfl ?_;rw[HO.o'];exact⟨rfl,dz HR1.o' (λe=>hne e.symm) _ _ _ _ _,bK wE.o' (ay _) _ _ _ _ _⟩
   ·rw[aj c2]at hcl;have c6:ib<0:=by omega
    have c7: ¬0<=ia:=λh=>c1 ⟨h,.inl c6⟩
    clear c1 hia hib;by_cases c3:m1.dO=true
    ·rw[au c3]at hcl;have HO:=hd' (ho.trans hcl);rw[c3]at hc2;clear hcl ho c3 hf0;go_wp2_with fail
     refine(tX m1 b m1.bn.length _ KM.o' (ay _) (by omega)).mono ?_;rintro e W1 ⟨rfl,r1,k1⟩
     --a call of done has answered:W1,r1,k1
     have HZ1:=hd' (fq Tt.o' k1 VL hne);have wE:=hd' (Qw.o'.trans k1);have HR1:=hd' r1;obtain⟨⟨q0,q1,q2,q3,q4⟩,f0,f1,f2,f3,f4⟩:=eY HZ1.o';clear k1 r1;dsimp only[Cc,nz];go_wp2_with fail
     refine bU (bE rfl _ _ w.heap.size _ _ _ _ rfl (eD HZ1.o' _ _ _ _ _) fG rfl bP) rfl ?_;rw[HO.o'];exact⟨rfl,dz HR1.o' (λe=>hne e.symm) _ _ _ _ _,bK wE.o' (ay _) _ _ _ _ _⟩
    ·rw[aj c3]at hcl;have c3':m1.dO=false:=by simpa using c3
     have HO:=hd' (ho.trans hcl);rw[c3']at hc2;clear hcl ho c3 c3';have e2:=qP m1.bn (m1.bn.length-3);have akV:(max 0 ((m1.bn.length:Int)-3)).toNat=m1.bn.length-3:=by omega
     go_wp2_with fail
     obtain⟨⟨q0,q1,q2,q3,q4⟩,f0,f1,f2,f3,f4⟩:=eY Tt.o';have hg:=hd' (qA (eD (fI (j:=0) (v:= .string (bA (m1.bn.drop (m1.bn.length-3)))) Tt.o' hne) (.int .i64 0) (.string ⟨#[]⟩) (.slice none 0 0) (.bool false) (.string ⟨#[]⟩)));go_region
     go_wp2_with fail
     try rw[akV,e2]
     refine bU (bE rfl _ _ w.heap.size _ _ _ _ rfl hg.o' fG rfl bP) rfl ?_;rw[HO.o'];refine⟨?_,?_,?_⟩
     ·exact iR rfl
     ·exact qR (dz (KM.o'.set 0 _) (λe=>hne e.symm) _ _ _ _ _)
     ·exact(bK (bM Qw.o' _) (ay _) _ _ _ _ _).drew
theorem Yl (m:gP) (b:Nat) (x:Int) (w:af) (hr:Row w b (eZ m)) (hm:wy w x) (hl:m.bn.length<=4294967280) (hp:m.gY≠0) :
 Calls prog 33 #[.pointer (some ⟨b,0,none⟩)] w λe w'=>e= .returned (Cc (qb m))/\Row w' b (eZ (qb m).2.2.2)/\az (Only b) w w':=by
 have hbw:=hr.lt;have hne:w.heap.size≠b:=by omega
 obtain⟨o,ho⟩: ∃o,o=qb m:=⟨_,rfl⟩;rw[<-ho];unfold qb at ho;obtain⟨hc0, -,hc2, -, -, -,hc6, -⟩:=dA hr;have hf0:=(gD hr).1;have hz:(bA m.bn).size=m.bn.length:=bV _;have hix: ∀u,Calls prog 45 #[.string (bA m.bn),.int .u8 62] u _:=λu=>rq (bA m.bn) 62 u
 have e62:(62:Int).toNat.toUInt8=62:=rfl;rw[e62,zu]at hix;by_cases p1:m.gY=1
 ·rw[au p1]at ho;rw[p1]at hc6;clear hix;obtain⟨wa,kF⟩: ∃wa,wa=w.alloc (.cells cu 39):=⟨_,rfl⟩;have HR:=hd' (show Row wa b (eZ m)from kF▸hr.kept (gu w (.cells cu 39) hbw));have HZ:=hd' (show wa.heap[w.heap.size]?=some (.cells cu 39 (0,0))from kF▸eU _ _);have HK:=hd' (show az (Only b) w wa from kF▸(az.refl (Only b) w).alloc _);have hza:w.heap.size<wa.heap.size:=by rw[kF];simp
  have zb:Hid (wa=w.alloc (.cells #[.int .i64 0,.string ⟨#[]⟩,.slice none 0 0,.bool false,.string ⟨#[]⟩] 39)):=kF;clear kF;have KM:=HR;have Tt:=HZ;have Qw:=HK;have VL:=hza;have HMq:=hd' (oC hm hr HK.o');have HO:=hd' ho;clear hr hm ho HR HZ HK;go_enter Ih,H9
  go_wp2_with fail
  rw[<-zb.o'];refine(Wl m b x _ KM.o' HMq.o' hl).mono ?_;rintro e W1 ⟨rfl,r1,k1⟩
  --a call of done has answered:W1,r1,k1
  have HZ1:=hd' (fq Tt.o' k1 VL hne);have wE:=hd' (Qw.o'.trans k1);have HR1:=hd' r1;obtain⟨⟨q0,q1,q2,q3,q4⟩,f0,f1,f2,f3,f4⟩:=eY HZ1.o';clear k1 r1;dsimp only[Cc,nz];go_wp2_with fail
  refine bU (bE rfl _ _ w.heap.size _ _ _ _ rfl (eD HZ1.o' _ _ _ _ _) fG rfl bP) rfl ?_;rw[HO.o'];exact⟨rfl,dz HR1.o' (λe=>hne e.symm) _ _ _ _ _,bK wE.o' (ay _) _ _ _ _ _⟩
 ·rw[aj p1]at ho;have n1:(m.gY==1)=false:=aV.2 p1;by_cases p2:m.gY=2
  ·rw[au p2]at ho;rw[p2]at hc6
   have hi:(∃i:Nat,Lib.indexByte m.bn 62=i/\i+1<=m.bn.length)\/Lib.indexByte m.bn 62= -1:=by
    have hg:=Lib.indexByte_ge m.bn 62;by_cases h0:0<=Lib.indexByte m.bn 62
    ·obtain⟨i,hi⟩:=bQ h0;have:=(En.1 (Lib.indexByte_some hi).1).1;exact .inl ⟨i,hi,by omega⟩
    ·exact .inr (by omega)
   rcases hi with⟨i,hi,hil⟩|hi
   ·rw[hi]at ho hix;rw[au (by omega)]at ho;have JJ:=hd' hix;clear hi hix;obtain⟨wa,kF⟩: ∃wa,wa=w.alloc (.cells cu 39):=⟨_,rfl⟩;have HR:=hd' (show Row wa b (eZ m)from kF▸hr.kept (gu w (.cells cu 39) hbw));have HZ:=hd' (show wa.heap[w.heap.size]?=some (.cells cu 39 (0,0))from kF▸eU _ _);have HK:=hd' (show az (Only b) w wa from kF▸(az.refl (Only b) w).alloc _);have hza:w.heap.size<wa.heap.size:=by rw[kF];simp
    have zb:Hid (wa=w.alloc (.cells #[.int .i64 0,.string ⟨#[]⟩,.slice none 0 0,.bool false,.string ⟨#[]⟩] 39)):=kF;clear kF;have KM:=HR;have Tt:=HZ;have Qw:=HK;have VL:=hza;have HMq:=hd' (oC hm hr HK.o');have HO:=hd' ho;clear hr hm ho HR HZ HK;go_enter Ih,H9
    go_wp2_with (go_at_call 45;refine(JJ.o' _).mono ?_;rintro e w1 ⟨rfl,rfl⟩)
    rw[<-zb.o'];refine(tX m b (i+1) _ KM.o' hil (by omega)).mono ?_;rintro e W1 ⟨rfl,r1,k1⟩
    --a call of done has answered:W1,r1,k1
    have HZ1:=hd' (fq Tt.o' k1 VL hne);have wE:=hd' (Qw.o'.trans k1);have HR1:=hd' r1;obtain⟨⟨q0,q1,q2,q3,q4⟩,f0,f1,f2,f3,f4⟩:=eY HZ1.o';clear k1 r1;dsimp only[Cc,nz];go_wp2_with fail
    refine bU (bE rfl _ _ w.heap.size _ _ _ _ rfl (eD HZ1.o' _ _ _ _ _) fG rfl bP) rfl ?_;rw[HO.o'];exact⟨rfl,dz HR1.o' (λe=>hne e.symm) _ _ _ _ _,bK wE.o' (ay _) _ _ _ _ _⟩
   ·rw[hi]at ho hix;rw[aj (by omega)]at ho;have JJ:=hd' hix;clear hi hix;by_cases p3:m.dO=true
    ·rw[au p3]at ho;rw[p3]at hc2;obtain⟨wa,kF⟩: ∃wa,wa=w.alloc (.cells cu 39):=⟨_,rfl⟩;have HR:=hd' (show Row wa b (eZ m)from kF▸hr.kept (gu w (.cells cu 39) hbw));have HZ:=hd' (show wa.heap[w.heap.size]?=some (.cells cu 39 (0,0))from kF▸eU _ _);have HK:=hd' (show az (Only b) w wa from kF▸(az.refl (Only b) w).alloc _);have hza:w.heap.size<wa.heap.size:=by rw[kF];simp
     have zb:Hid (wa=w.alloc (.cells #[.int .i64 0,.string ⟨#[]⟩,.slice none 0 0,.bool false,.string ⟨#[]⟩] 39)):=kF;clear kF;have KM:=HR;have Tt:=HZ;have Qw:=HK;have VL:=hza;have HMq:=hd' (oC hm hr HK.o');have HO:=hd' ho;clear hr hm ho HR HZ HK;go_enter Ih,H9
     go_wp2_with (go_at_call 45;refine(JJ.o' _).mono ?_;rintro e w1 ⟨rfl,rfl⟩)
     rw[<-zb.o'];refine(tX m b m.bn.length _ KM.o' (ay _) (by omega)).mono ?_;rintro e W1 ⟨rfl,r1,k1⟩
     --a call of done has answered:W1,r1,k1
     have HZ1:=hd' (fq Tt.o' k1 VL hne);have wE:=hd' (Qw.o'.trans k1);have HR1:=hd' r1;obtain⟨⟨q0,q1,q2,q3,q4⟩,f0,f1,f2,f3,f4⟩:=eY HZ1.o';clear k1 r1;dsimp only[Cc,nz];go_wp2_with fail
     refine bU (bE rfl _ _ w.heap.size _ _ _ _ rfl (eD HZ1.o' _ _ _ _ _) fG rfl bP) rfl ?_;rw[HO.o'];exact⟨rfl,dz HR1.o' (λe=>hne e.symm) _ _ _ _ _,bK wE.o' (ay _) _ _ _ _ _⟩
    ·rw[aj p3]at ho;have p3':m.dO=false:=by simpa using p3
     rw[p3']at hc2;have Tx:=hd' hr;obtain⟨wa,kF⟩: ∃wa,wa=w.alloc (.cells cu 39):=⟨_,rfl⟩;have HR:=hd' (show Row wa b (eZ m)from kF▸hr.kept (gu w (.cells cu 39) hbw));have HZ:=hd' (show wa.heap[w.heap.size]?=some (.cells cu 39 (0,0))from kF▸eU _ _);have HK:=hd' (show az (Only b) w wa from kF▸(az.refl (Only b) w).alloc _);have hza:w.heap.size<wa.heap.size:=by rw[kF];simp
     have zb:Hid (wa=w.alloc (.cells #[.int .i64 0,.string ⟨#[]⟩,.slice none 0 0,.bool false,.string ⟨#[]⟩] 39)):=kF;clear kF;have KM:=HR;have Tt:=HZ;have Qw:=HK;have VL:=hza;have HMq:=hd' (oC hm hr HK.o');have HO:=hd' ho;clear hr hm ho HR HZ HK;go_enter Ih,H9
     go_wp2_with (go_at_call 45;refine(JJ.o' _).mono ?_;rintro e w1 ⟨rfl,rfl⟩)
     refine bU (bE rfl _ _ w.heap.size _ _ _ _ rfl (alloc_at (by simp)) fG rfl bP) rfl ?_;rw[HO.o'];exact⟨iR rfl,(Tx.o'.set 0 (.string (bA []))).kept (gu _ _ (by simp;exact hbw)),(bM (az.refl (Only b) w) _).alloc _⟩
  ·rw[aj p2]at ho;have n2:(m.gY==2)=false:=aV.2 p2;clear hix;obtain⟨wa,kF⟩: ∃wa,wa=w.alloc (.cells cu 39):=⟨_,rfl⟩;have HR:=hd' (show Row wa b (eZ m)from kF▸hr.kept (gu w (.cells cu 39) hbw));have HZ:=hd' (show wa.heap[w.heap.size]?=some (.cells cu 39 (0,0))from kF▸eU _ _);have HK:=hd' (show az (Only b) w wa from kF▸(az.refl (Only b) w).alloc _);have hza:w.heap.size<wa.heap.size:=by rw[kF];simp
   have zb:Hid (wa=w.alloc (.cells #[.int .i64 0,.string ⟨#[]⟩,.slice none 0 0,.bool false,.string ⟨#[]⟩] 39)):=kF;clear kF;have KM:=HR;have Tt:=HZ;have Qw:=HK;have VL:=hza;have HMq:=hd' (oC hm hr HK.o');have HO:=hd' ho;clear hr hm ho HR HZ HK;go_enter Ih,H9
   go_wp2_with fail
   rw[<-zb.o'];refine(NG m b x _ KM.o' HMq.o' hl hp).mono ?_;rintro e W1 ⟨rfl,r1,k1⟩
   --a call of done has answered:W1,r1,k1
   have HZ1:=hd' (fq Tt.o' k1 VL hne);have wE:=hd' (Qw.o'.trans k1);have HR1:=hd' r1;obtain⟨⟨q0,q1,q2,q3,q4⟩,f0,f1,f2,f3,f4⟩:=eY HZ1.o';clear k1 r1;dsimp only[Cc,nz];go_wp2_with fail
   refine bU (bE rfl _ _ w.heap.size _ _ _ _ rfl (eD HZ1.o' _ _ _ _ _) fG rfl bP) rfl ?_;rw[HO.o'];exact⟨rfl,dz HR1.o' (λe=>hne e.symm) _ _ _ _ _,bK wE.o' (ay _) _ _ _ _ _⟩
end Go.Proofs.YtnlbcifhedjbfaaGreatDoor.Rd
end
section
namespace Go.Proofs.YtnlbcifhedjbfaaGreatDoor.Rd
open Go.RowKit Mem
theorem Jz (sg:bH): ∀s:bH,(Lib.indexAny s sg= -1/\ ∀c∈s,sg.contains c=false)\/ ∃(i:Nat) (c:ax) (r:bH),Lib.indexAny s sg=i/\i<s.length/\s.drop i=c::r/\sg.contains c=true/\ ∀d∈s.take i,sg.contains d=false
 | []=> .inl ⟨rfl,λ_ h=>by cases h⟩
 |b::l=>by
  rw[Lib.indexAny];cases hb:sg.contains b
  ·rw[aj (by simp)];rcases Jz sg l with⟨h1,h2⟩|⟨i,c,r,h1,h2,h3,h4,h5⟩
   ·left;rw[h1];refine⟨rfl,λc hc=> ?_⟩;rcases dS.1 hc with rfl|hc
    ·exact hb
    ·exact h2 c hc
   ·right;refine⟨i+1,c,r,?_,by simp only[dB];omega,h3,h4,λd hd=> ?_⟩
    ·rw[h1,aj (λe=>by have:=cO.1 e;omega)];push_cast;rfl
    ·rw[Lc]at hd;rcases dS.1 hd with rfl|hd
     ·exact hb
     ·exact h5 d hd
  ·right;rw[au rfl];exact⟨0,b,l,rfl,by simp,rfl,hb,λd hd=>by cases hd⟩
def sgF (m:gP):bH:=if m.aD=2 then [60]else [60,38]
theorem ajy {m:gP} {c:ax} (h:(sgF m).contains c=false):c≠60/\ ¬(c=38/\m.aD≠2):=by
 unfold sgF at h;split at h
 ·rename_i hm;exact⟨λe=>(by rw[e]at h;cases h),λe=>e.2 hm⟩
 ·exact⟨λe=>(by rw[e]at h;cases h),λe=>(by rw[e.1]at h;cases h)⟩
theorem ake {m:gP} {c:ax} (h:(sgF m).contains c=true):c=60\/(c=38/\m.aD≠2):=by
 unfold sgF at h;split at h
 ·left;simpa using h
 ·rename_i hm;simp only[List.contains_cons,List.contains_nil,Ad,jD,cO]at h;exact h.imp id λe=>⟨e,hm⟩
theorem XE {m:gP} {c:ax} {r:bH} (h:(sgF m).contains c=false):dL m (c::r)=(c::(dL m r).1,(dL m r).2):=by
 rw[dL,aj (ajy h).1,aj (ajy h).2]
theorem II (m:gP) (s:bH): ∀p:bH,(∀c∈p,(sgF m).contains c=false)->dL m (p++s)=(p++(dL m s).1,(dL m s).2)
 | [],_=>rfl
 |c::p,h=>by
  rw[mq,XE (h c dR),II m s p λd hd=>h d (gm _ hd)];rfl
theorem XG {m:gP} {s:bH} (h: ∀c∈s,(sgF m).contains c=false):dL m s=(s,[],1):=by
 have:=II m [] s h;rw[kI,dL]at this;simpa using this
theorem ad4 {m:gP} {r:bH}:dL m (60::r)=if nK m (60::r)=0 then(60::(dL m r).1,(dL m r).2)else([],60::r,nK m (60::r)):=by
 rw[dL,au rfl]
theorem XD {m:gP} {r:bH} (h2:m.aD≠2) (hc:m.dO=false) (hm:xD (38::r)=true):dL m (38::r)=([],38::r,1):=by
 rw[dL,aj (by decide),au ⟨rfl,h2⟩,au ⟨hc,hm⟩]
theorem OZ {m:gP} {r:bH} (h2:m.aD≠2) (h: ¬(m.dO=false/\xD (38::r)=true)):dL m (38::r)=((if(bG (38::r) false).2=0 then [38]else(bG (38::r) false).1)++(dL m (r.drop ((bG (38::r) false).2-1))).1,(dL m (r.drop ((bG (38::r) false).2-1))).2):=by
 rw[dL,aj (by decide),au ⟨rfl,h2⟩,aj h]
def Zk (w:af) (b:Nat):Nat:=match w.cell? ⟨b,0,none⟩with
 |some (.string s)=>s.size
 |_=>0
theorem A7 {w:af} {b:Nat} {m:gP} (h:Row w b (eZ m)):Zk w b=m.bn.length:=by
 unfold Zk;rw[(dA h).1];exact bV _
theorem IL (l:bH) (a:Nat):(bA l).extract a (bA l).size=bA (l.drop a):=by
 rw[bV];exact qP l a
theorem Ya {a b:ae} {i j:Int} (h:a=b) (h':i=j):Ending.returned (.tuple #[.string a,.int .i64 i])= .returned (.tuple #[.string b,.int .i64 j]):=by rw[h,h']
theorem ad3 (m:gP) (b:Nat) (w:af) (hr:Row w b (eZ m)) (hl:m.bn.length<=4294967280) (hn:m.ah.length<=4294967280) :
 Calls prog 48 #[.pointer (some ⟨b,0,none⟩)] w λe w'=>e= .returned (.tuple #[.string (bA (dL m m.bn).1),.int .i64 (dL m m.bn).2.2])/\Row w' b (eZ {m with bn:=(dL m m.bn).2.1})/\az (Only b) w w':=by
 have hbw:=hr.lt;obtain⟨p,hp⟩: ∃p,p=dL m m.bn:=⟨_,rfl⟩;rw[<-hp];have HP:=hd' hp;clear hp;have Tx:=hd' hr;obtain⟨-, -, -,hc3, -⟩:=dA hr;clear hr
 have HX:Hid (∀sg:ae,sg.toList=sgF m->xW sg->1<=sg.size->sg.size<=1000-> ∀(s:ae) (u:af),s.size<4294967281->Calls prog 77 #[.string s,.string sg] u λe w'=>e= .returned (.int .i64 (Lib.indexAny s.toList (sgF m)))/\Below u.heap.size u w'):=λsg hx ha h1 h2 s u hs=>by
  rw[<-hx];exact Bh s sg u h1 ha hs (by omega)
 go_enter func48,ntmps48
 by_cases hm2:m.aD=2
 all_goals
  first
  |have amN:(m.aD==2)=true:=cO.2 hm2
   have JJ:=hd' (HX.o' ⟨#[60]⟩ (by rw[sgF,au hm2,dZ]) (λj c hj=>by
    match j,hj with
    |0,hj=>cases hj;decide
    |j+1,hj=>cases hj) (by decide) (by decide))
   rw[hm2]at hc3
  |have amN:(m.aD==2)=false:=aV.2 hm2
   have JJ:=hd' (HX.o' ⟨#[60,38]⟩ (by rw[sgF,aj hm2,dZ]) (λj c hj=>by
    match j,hj with
    |0,hj=>cases hj;decide
    |1,hj=>cases hj;decide
    |j+2,hj=>cases hj) (by decide) (by decide))
  have HM2:=hd' hm2;clear hm2;go_wp2_with fail
  clear hc3 amN;go_loopw [6] (λ_ wr=> ∃(di acc:bH),Row wr b (eZ {m with bn:=di})/\Lib.IsBuilderF 75 5 w.heap.size w.heap.size (bZ acc) wr/\az (Only b) w wr/\acc.length+2*di.length<=2*m.bn.length/\(acc++(dL m di).1,(dL m di).2)=dL m m.bn) (λ_ wr=>Zk wr b)
  case atStart=>exact⟨m.bn,[],Tx.o'.kept (gu _ _ hbw),QY (QW 75 5 w),(az.refl (Only b) w).alloc _,by simp,rfl⟩
  case round =>
   obtain⟨di,acc,hrr,hii,hkk,hbd,hv⟩:=hrel;have hzr:=hkk.size;have Tv:=hd' hrr;have HIr:=hd' hii;have DU:=hd' hkk;have HV:=hd' hv;have hbl:=A7 hrr;have HBL:=hd' hbl;have hc0:wr.cell? ⟨b,0,none⟩=some (.string (bA di)):=(dA hrr).1;have apS:di.length<=4294967280:=by omega
   have hsz:(bA di).size=di.length:=bV _;have adE:=hd' (λu=>JJ.o' (bA di) u (by rw[bV];omega));rw[bT]at adE;clear hrr hii hkk hv hbl;rcases Jz (sgF m) di with⟨h1,h2⟩|⟨i,c,r,h1,hi,hdr,hc,hpre⟩
   ·have HN:=hd' (XG h2);rw[h1]at adE;clear h1 h2;go_wp2_with fail
    refine(adE.o' _).mono ?_;rintro e U ⟨rfl,hb⟩;have BC:=HIr;have BB:=DU;have zg:=hzr;have rW:=Tv;clear hc0;have hc0:U.cell? ⟨b,0,none⟩=some (.string (bA di)):=(dA (rW.o'.below hb rW.o'.lt)).1
    --a callee that makes new blocks alone has answered:hb
    replace BC:=hd' (jc BC.o' hb);replace BB:=hd' (dU BB.o' hb);replace zg:=bY zg hb.size;replace rW:=hd' (rW.o'.below hb rW.o'.lt);clear hb;dsimp only;go_wp2_with fail
    refine(gG w.heap.size w.heap.size _ (bA di) _ BC.o' (by rw[dP,bV];omega) zg).mono ?_;rintro e W2 ⟨rfl,g2,b2,_⟩
    have HI2:Hid (Lib.IsBuilderF 75 5 w.heap.size w.heap.size (bZ (acc++di)) W2):=by
     show Lib.IsBuilderF _ _ _ _ _ _;rw[iU];exact .inr g2
    clear hc0
    --the builder has been written:g2,b2;HI2 the fact
    have HR2:=hd' (rW.o'.below b2 hbw);have uP:=hd' (iy BB.o' b2);have hz2:=bY zg b2.size;clear g2 b2 rW BB zg BC;have hf0:=(gD HR2.o').1;have hc0:=(dA HR2.o').1;simp only at hc0;dsimp only;go_wp2_with fail
    have BC:=hd' (jP HI2.o' hbw (.string (bA [])) (p:=⟨b,0,none⟩));have zg:w.heap.size<=(W2.setCell ⟨b,0,none⟩ (.string (bA []))).heap.size:=by rw[pK];exact hz2
    have rW:Hid (Row (W2.setCell ⟨b,0,none⟩ (.string (bA []))) b (eZ {m with bn:= []})):=HR2.o'.set 0 _;have BB:=hd' (bM uP.o' (.string (bA [])) (j:=0));have Kq:=hd' (show(acc++di,([],1))=dL m m.bn from by rw[<-HV.o',HN.o']);refine(sH w.heap.size w.heap.size _ _ BC.o' zg).mono ?_;rintro e W3 ⟨rfl,_,b3,_⟩;dsimp only;go_wp2_with fail
    go_ret2;exact⟨Ya (by rw[HP.o',<-Kq.o'];rfl) (by rw[HP.o',<-Kq.o']),by rw[HP.o',<-Kq.o'];exact rW.o'.below b3 hbw,iy BB.o' b3⟩
   ·have hrl:r.length+1=di.length-i:=by
     have:=aW List.length hdr;rw[dN,dB]at this;omega
    have agW:=hd' (show dL m di=(di.take i++(dL m (c::r)).1,(dL m (c::r)).2)from by
     conv=>lhs;rw[<-nQ i di,hdr]
     exact II m (c::r) _ hpre)
    have e1:=FQ di i;have e2:=qP di i;rw[hdr]at e2;rw[h1]at adE;have hcs:=ake hc;clear h1 hdr hpre hc;have hs2:(bA (c::r)).size=r.length+1:=by rw[bV];rfl
    have hb0: ∀h,(bA (c::r))[0]'h=c:=λ_=>rfl
    have hp1:0<(bA (c::r)).size:=by omega
    have hp2:1<=(bA (c::r)).size:=by omega
    have hp3:(1:Int)<=((bA (c::r)).size:Int):=by omega
    clear hs2;rcases hcs with hq|⟨hq,h38⟩
    ·have hcb:((c.toNat:Int)==38)=false:=by rw[hq];decide
     have HQ:=hd' hq;clear hq;go_wp2_with fail
     refine(adE.o' _).mono ?_;rintro e U ⟨rfl,hb⟩;have BC:=HIr;have BB:=DU;have zg:=hzr;have rW:=Tv;clear hc0;have hc0:U.cell? ⟨b,0,none⟩=some (.string (bA di)):=(dA (rW.o'.below hb rW.o'.lt)).1
     --a callee that makes new blocks alone has answered:hb
     replace BC:=hd' (jc BC.o' hb);replace BB:=hd' (dU BB.o' hb);replace zg:=bY zg hb.size;replace rW:=hd' (rW.o'.below hb rW.o'.lt);clear hb;dsimp only;go_wp2_with fail
     refine(gG w.heap.size w.heap.size _ (bA (di.take i)) _ BC.o' (by rw[dP,bV,fV];omega) zg).mono ?_;rintro e W2 ⟨rfl,g2,b2,_⟩
     have HI2:Hid (Lib.IsBuilderF 75 5 w.heap.size w.heap.size (bZ (acc++di.take i)) W2):=by
      show Lib.IsBuilderF _ _ _ _ _ _;rw[iU];exact .inr g2
     clear hc0;have hrw:Row (W2.setCell ⟨b,0,none⟩ (.string (bA (c::r)))) b (eZ {m with bn:=c::r}):=(rW.o'.below b2 hbw).set 0 (.string (bA (c::r)))
     have hc2:W2.cell? ⟨b,2,none⟩=some (.bool m.dO):=(dA (rW.o'.below b2 hbw)).2.2.1
     try rw[HCL.o']at hc2
     have hz2:w.heap.size<=(W2.setCell ⟨b,0,none⟩ (.string (bA (c::r)))).heap.size:=by rw[pK];exact bY zg b2.size
     have uP:=hd' (bM (iy BB.o' b2) (.string (bA (c::r))) (j:=0));have HI3:=hd' (jP HI2.o' hbw (.string (bA (c::r))) (p:=⟨b,0,none⟩));have HR2:=hd' hrw;have hf0:=(gD (rW.o'.below b2 hbw)).1;have afU:=(dA (rW.o'.below b2 hbw)).1;simp only at afU;clear hrw g2 b2 rW BB zg BC HI2;dsimp only;go_wp2_with fail
     clear afU hf0 hc2;have BC:=HI3;have rW:=HR2;have BB:=uP;have zg:=hz2;generalize W2.setCell ⟨b,0,none⟩ (.string (bA (c::r)))=U2 at *;obtain rfl:=HQ.o';refine(afl {m with bn:=60::r} b U2 rW.o' (by simp only[dB];omega) hn).mono ?_;rintro e U3 ⟨rfl,hb⟩;rw[show nK {m with bn:=60::r} ({m with bn:=60::r}:gP).bn=nK m (60::r)from rfl];have agY:=hd' (ad4 (m:=m) (r:=r));obtain⟨is,his⟩: ∃is,is=nK m (60::r):=⟨_,rfl⟩;rw[<-his]at agY |-;clear his;by_cases h0:is=0
     ·have h0b:(is==0)=true:=cO.2 h0;rw[au h0]at agY;clear hcb;have hc0:=(dA (rW.o'.below hb rW.o'.lt)).1;simp only at hc0
      --a callee that makes new blocks alone has answered:hb
      replace BC:=hd' (jc BC.o' hb);replace BB:=hd' (dU BB.o' hb);replace zg:=bY zg hb.size;replace rW:=hd' (rW.o'.below hb rW.o'.lt);clear hb;dsimp only;go_wp2_with fail
      refine(uX w.heap.size w.heap.size _ _ _ BC.o' (by rw[dP,fC,fV];omega) zg).mono ?_;rintro e W5 ⟨rfl,g2,b2,_⟩
      have HI2:Hid (Lib.IsBuilderF 75 5 w.heap.size w.heap.size (bZ (acc++di.take i++ [60])) W5):=by
       show Lib.IsBuilderF _ _ _ _ _ _;rw[iU];exact .inr g2
      have Kq:=hd' (show(acc++di.take i++ [60]++(dL m r).1,(dL m r).2)=dL m m.bn from by rw[<-HV.o',agW.o',agY.o'];simp);have HBD:=hd' (show(acc++di.take i++ [60]).length+2*r.length<=2*m.bn.length from by simp only[fC,fV,dB,kQ];omega);have e3:=IL (60::r) 1;rw[show(60::r:bH).drop 1=r from rfl]at e3;obtain⟨nx,hnx⟩: ∃nx,nx=r:=⟨_,rfl⟩;rw[show bA r=bA nx from by rw[hnx]]at e3;rw[<-hnx]at Kq HBD;have HLT:=hd' (show nx.length<di.length from by rw[hnx];omega);clear hc0 hnx
      --the builder has been written:g2,b2;HI2 the fact
      have HR2:=hd' (rW.o'.below b2 hbw);have uP:=hd' (iy BB.o' b2);have hz2:=bY zg b2.size;clear g2 b2 rW BB zg BC;have hf0:=(gD HR2.o').1;have hc0:=(dA HR2.o').1;simp only at hc0;dsimp only;go_wp2_with fail
      go_roundw
      case rel=>exact⟨_,_,HR2.o'.set 0 (.string (bA nx)),jP HI2.o' hbw _,bM uP.o' _,HBD.o',Kq.o'⟩
      case measure =>
       rw[HBL.o',A7 (m:= {m with bn:=nx}) (HR2.o'.set 0 (.string (bA nx)))];exact HLT.o'
     ·have h0b:(is==0)=false:=aV.2 h0;have h0c:(is !=0)=true:=by rw[bne,h0b];rfl
      rw[aj h0]at agY;have Kq:=hd' (show(acc++di.take i,(60::r,is))=dL m m.bn from by rw[<-HV.o',agW.o',agY.o'];simp)
      --a callee that makes new blocks alone has answered:hb
      replace BC:=hd' (jc BC.o' hb);replace BB:=hd' (dU BB.o' hb);replace zg:=bY zg hb.size;replace rW:=hd' (rW.o'.below hb rW.o'.lt);clear hb;dsimp only;go_wp2_with fail
      refine(sH w.heap.size w.heap.size _ _ BC.o' zg).mono ?_;rintro e W3 ⟨rfl,_,b3,_⟩;dsimp only;go_wp2_with fail
      go_ret2;exact⟨Ya (by rw[HP.o',<-Kq.o'];rfl) (by rw[HP.o',<-Kq.o']),by rw[HP.o',<-Kq.o'];exact rW.o'.below b3 hbw,iy BB.o' b3⟩
    ·first
     |exact absurd HM2.o' h38
     |have hcb:((c.toNat:Int)==38)=true:=by rw[hq];decide
      have HQ:=hd' hq;clear hq;obtain⟨cl,hcl⟩: ∃cl,cl=m.dO:=⟨_,rfl⟩;have HCL:=hd' hcl.symm;clear hcl;cases cl
      all_goals
       go_wp2_with fail
       refine(adE.o' _).mono ?_;rintro e U ⟨rfl,hb⟩;have BC:=HIr;have BB:=DU;have zg:=hzr;have rW:=Tv;clear hc0;have hc0:U.cell? ⟨b,0,none⟩=some (.string (bA di)):=(dA (rW.o'.below hb rW.o'.lt)).1
       --a callee that makes new blocks alone has answered:hb
       replace BC:=hd' (jc BC.o' hb);replace BB:=hd' (dU BB.o' hb);replace zg:=bY zg hb.size;replace rW:=hd' (rW.o'.below hb rW.o'.lt);clear hb;dsimp only;go_wp2_with fail
       refine(gG w.heap.size w.heap.size _ (bA (di.take i)) _ BC.o' (by rw[dP,bV,fV];omega) zg).mono ?_;rintro e W2 ⟨rfl,g2,b2,_⟩
       have HI2:Hid (Lib.IsBuilderF 75 5 w.heap.size w.heap.size (bZ (acc++di.take i)) W2):=by
        show Lib.IsBuilderF _ _ _ _ _ _;rw[iU];exact .inr g2
       clear hc0;have hrw:Row (W2.setCell ⟨b,0,none⟩ (.string (bA (c::r)))) b (eZ {m with bn:=c::r}):=(rW.o'.below b2 hbw).set 0 (.string (bA (c::r)))
       have hc2:W2.cell? ⟨b,2,none⟩=some (.bool m.dO):=(dA (rW.o'.below b2 hbw)).2.2.1
       try rw[HCL.o']at hc2
       have hz2:w.heap.size<=(W2.setCell ⟨b,0,none⟩ (.string (bA (c::r)))).heap.size:=by rw[pK];exact bY zg b2.size
       have uP:=hd' (bM (iy BB.o' b2) (.string (bA (c::r))) (j:=0));have HI3:=hd' (jP HI2.o' hbw (.string (bA (c::r))) (p:=⟨b,0,none⟩));have HR2:=hd' hrw;have hf0:=(gD (rW.o'.below b2 hbw)).1;have afU:=(dA (rW.o'.below b2 hbw)).1;simp only at afU;clear hrw g2 b2 rW BB zg BC HI2;dsimp only;go_wp2_with fail
       clear afU hf0 hc2;have BC:=HI3;have rW:=HR2;have BB:=uP;have zg:=hz2;generalize W2.setCell ⟨b,0,none⟩ (.string (bA (c::r)))=U2 at *;obtain rfl:=HQ.o';clear hcb
       first
       |have hct:m.dO=true:=HCL.o'
        have Tw:=OZ (m:=m) (r:=r) h38 (by rw[hct];simp);clear hct
       |refine(agK (bA (38::r)) _ (by rw[bV,dB];omega)).mono ?_
        rintro e U3 ⟨rfl,hb⟩;rw[bT];cases hmo:xD (38::r)
        case true =>
         have HW:=XD (m:=m) (r:=r) h38 HCL.o' hmo;have Kq:=hd' (show(acc++di.take i,(38::r,(1:Int)))=dL m m.bn from by rw[<-HV.o',agW.o',HW];simp);clear hmo HW
         --a callee that makes new blocks alone has answered:hb
         replace BC:=hd' (jc BC.o' hb);replace BB:=hd' (dU BB.o' hb);replace zg:=bY zg hb.size;replace rW:=hd' (rW.o'.below hb rW.o'.lt);clear hb;dsimp only;go_wp2_with fail
         refine(sH w.heap.size w.heap.size _ _ BC.o' zg).mono ?_;rintro e W3 ⟨rfl,_,b3,_⟩;dsimp only;go_wp2_with fail
         go_ret2;exact⟨Ya (by rw[HP.o',<-Kq.o'];rfl) (by rw[HP.o',<-Kq.o']),by rw[HP.o',<-Kq.o'];exact rW.o'.below b3 hbw,iy BB.o' b3⟩
        have Tw:=OZ (m:=m) (r:=r) h38 (by rw[hmo];simp);have hc0:=(dA (rW.o'.below hb rW.o'.lt)).1;simp only at hc0;clear hmo
        --a callee that makes new blocks alone has answered:hb
        replace BC:=hd' (jc BC.o' hb);replace BB:=hd' (dU BB.o' hb);replace zg:=bY zg hb.size;replace rW:=hd' (rW.o'.below hb rW.o'.lt);clear hb;dsimp only;go_wp2_with fail
        clear hc0
       --Take answers at 38::r
       refine(NY (bA (38::r)) false _ (by rw[bV,dB];omega)).mono ?_;rintro e W4 ⟨rfl,hb⟩;have hc0:=(dA (rW.o'.below hb rW.o'.lt)).1;simp only at hc0;replace BC:=hd' (jc BC.o' hb);replace BB:=hd' (dU BB.o' hb);replace zg:=bY zg hb.size;replace rW:=hd' (rW.o'.below hb rW.o'.lt);clear hb;rw[bT];have hkle:=FO (38::r) false;have htl:=gL (38::r) false;simp only[dB]at hkle;obtain⟨t,ht⟩: ∃t,t=bG (38::r) false:=⟨_,rfl⟩;rw[<-ht]at hkle htl Tw |-;clear ht;obtain⟨tx,k⟩:=t;simp only at hkle htl Tw;dsimp only;by_cases hk0:k=0
       ·subst hk0;rw[au rfl,show(0:Nat)-1=0 from rfl,xh]at Tw;have e3:=IL (38::r) 1;rw[show(38::r:bH).drop 1=r from rfl]at e3;have Kq:=hd' (show(acc++di.take i++ [38]++(dL m r).1,(dL m r).2)=dL m m.bn from by rw[<-HV.o',agW.o',Tw];simp);have HBD:=hd' (show(acc++di.take i++ [38]).length+2*r.length<=2*m.bn.length from by simp only[fC,fV,dB,kQ];omega);obtain⟨nx,hnx⟩: ∃nx,nx=r:=⟨_,rfl⟩;rw[show bA r=bA nx from by rw[hnx]]at e3;rw[<-hnx]at Kq HBD;have HLT:=hd' (show nx.length<di.length from by rw[hnx];omega);clear Tw hkle htl;go_wp2_with fail
        refine(gG w.heap.size w.heap.size _ ⟨#[38]⟩ _ BC.o' (by rw[dP,fC,fV];show _+1<=_;omega) zg).mono ?_;rintro e W5 ⟨rfl,g2,b2,_⟩
        have HI2:Hid (Lib.IsBuilderF 75 5 w.heap.size w.heap.size (bZ (acc++di.take i++ [38])) W5):=by
         show Lib.IsBuilderF _ _ _ _ _ _;rw[iU];exact .inr g2
        clear hc0 hnx
        --the builder has been written:g2,b2;HI2 the fact
        have HR2:=hd' (rW.o'.below b2 hbw);have uP:=hd' (iy BB.o' b2);have hz2:=bY zg b2.size;clear g2 b2 rW BB zg BC;have hf0:=(gD HR2.o').1;have hc0:=(dA HR2.o').1;simp only at hc0;dsimp only;go_wp2_with fail
        go_roundw
        case rel=>exact⟨_,_,HR2.o'.set 0 (.string (bA nx)),jP HI2.o' hbw _,bM uP.o' _,HBD.o',Kq.o'⟩
        case measure =>
         rw[HBL.o',A7 (m:= {m with bn:=nx}) (HR2.o'.set 0 (.string (bA nx)))];exact HLT.o'
       ·have hkb:(((k:Nat):Int)==0)=false:=by rw[aV];omega
        rw[aj hk0]at Tw;have auK:=htl hk0;have e3:=IL (38::r) k;rw[show(38::r:bH).drop k=r.drop (k-1)from by cases k with|zero=>exact absurd rfl hk0|succ k=>rfl]at e3;have hdl:(r.drop (k-1)).length=r.length-(k-1):=dN;have Kq:=hd' (show(acc++di.take i++tx++(dL m (r.drop (k-1))).1,(dL m (r.drop (k-1))).2)=dL m m.bn from by rw[<-HV.o',agW.o',Tw];simp);have HBD:=hd' (show(acc++di.take i++tx).length+2*(r.drop (k-1)).length<=2*m.bn.length from by simp only[fC,fV];omega);obtain⟨nx,hnx⟩: ∃nx,nx=r.drop (k-1):=⟨_,rfl⟩;rw[<-hnx]at Kq HBD e3 hdl;have HLT:=hd' (show nx.length<di.length from by omega);have hks:k<=(bA (38::r)).size:=by rw[bV,dB];exact hkle
        have auX:((k:Nat):Int)<=((bA (38::r)).size:Int):=by omega
        clear Tw hnx;go_wp2_with fail
        refine(gG w.heap.size w.heap.size _ (bA tx) _ BC.o' (by rw[dP,bV,fC,fV];omega) zg).mono ?_;rintro e W5 ⟨rfl,g2,b2,_⟩
        have HI2:Hid (Lib.IsBuilderF 75 5 w.heap.size w.heap.size (bZ (acc++di.take i++tx)) W5):=by
         show Lib.IsBuilderF _ _ _ _ _ _;rw[iU];exact .inr g2
        clear hc0
        --the builder has been written:g2,b2;HI2 the fact
        have HR2:=hd' (rW.o'.below b2 hbw);have uP:=hd' (iy BB.o' b2);have hz2:=bY zg b2.size;clear g2 b2 rW BB zg BC;have hf0:=(gD HR2.o').1;have hc0:=(dA HR2.o').1;simp only at hc0;dsimp only;go_wp2_with fail
        go_roundw
        case rel=>exact⟨_,_,HR2.o'.set 0 (.string (bA nx)),jP HI2.o' hbw _,bM uP.o' _,HBD.o',Kq.o'⟩
        case measure =>
         rw[HBL.o',A7 (m:= {m with bn:=nx}) (HR2.o'.set 0 (.string (bA nx)))];exact HLT.o'
end Go.Proofs.YtnlbcifhedjbfaaGreatDoor.Rd
end
