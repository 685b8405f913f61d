/- oZ joined for a claim: aqB: plain laws and contracts. No conditions beyond those that each lemma types. -/
import Derived.Test.YtnlbcifhedjbfaaGreatDoorU21
set_option linter.unusedVariables false
set_option linter.unusedSimpArgs false
set_option maxRecDepth 100000
set_option maxHeartbeats 8000000
open Go.Proofs.Tryz
section
namespace Go.Proofs.YtnlbcifhedjbfaaGreatDoor.Rd
open Go.RowKit Mem
def pF (s:ae) (i:Nat):List ak:= [.string s,.int .i64 i]
theorem DZ (p:ax->Bool): ∀l:bH,(∀c∈l,p c=true)->l.dropWhile p= []
 | [],_=>rfl
 |c::l,h=>by rw[Ep,au (h c dR)];exact DZ p l λd hd=>h d (gm _ hd)
theorem ry (s:ae) (i j:Nat) {z:Int} (hz:z=(j:Nat)):(pF s i).set 1 (.int .i64 z)=pF s j:=by rw[hz];rfl
theorem pV (sg l:bH):(fH sg l=none/\Lib.indexAny l sg= -1)\/ ∃n:Nat,n<l.length/\fH sg l=some (l.take n,l.drop n)/\Lib.indexAny l sg=n:=by
 rcases Jz sg l with⟨h1,h2⟩|⟨i,c,r,h1,hi,hd,hc,hp⟩
 ·left;refine⟨?_,h1⟩;unfold fH;rw[au (DZ _ l λc hc=>by rw[h2 c hc];rfl)]
 ·right;refine⟨i,hi,?_,h1⟩
  have htw:l.takeWhile (λc=> !sg.contains c)=l.take i:=by
   conv=>lhs;rw[<-nQ i l,hd]
   rw[List.takeWhile_append_of_pos (λd hd=>by rw[hp d hd];rfl),QO,aj (by rw[hc];simp),kI]
  have hdw:l.dropWhile (λc=> !sg.contains c)=l.drop i:=by
   conv=>lhs;rw[<-nQ i l,hd]
   rw[List.dropWhile_append_of_pos (λd hd=>by rw[hp d hd];rfl),Ep,aj (by rw[hc];simp),hd]
  unfold fH;rw[htw,hdw,aj (by rw[hd];simp)]
theorem KC (s:ae) (i n:Nat):s.extract i (i+n)=bA ((s.toList.drop i).take n):=by
 apply toList_inj;rw[bT,ext_list,QK]
theorem aaY (s:ae) (i:Nat):(s.extract i s.size).toList=s.toList.drop i:=Jj s i
theorem FF (s sg:ae) (g i:Nat) (w:af) (hr:Row w g (pF s i)) (hi:i<=s.size) (hs:s.size<=4294967280) (h1:1<=sg.size) (hc:xW sg) (hcs:sg.size<=1000) (hu:fH sg.toList (s.toList.drop i)=none) :
 Calls prog 136 #[.pointer (some ⟨g,0,none⟩),.string sg] w λe w'=>e= .returned (.tuple #[.string ⟨#[]⟩,.bool false])/\Below w.heap.size w w':=by
 have hc0:w.cell? ⟨g,0,none⟩=some (.string s):=hr.cell (j:=0) rfl;have hc1:w.cell? ⟨g,1,none⟩=some (.int .i64 i):=hr.cell (j:=1) rfl
 have hx:Lib.indexAny (s.toList.drop i) sg.toList= -1:=by
  rcases pV sg.toList (s.toList.drop i)with⟨_,h⟩|⟨n,_,h,_⟩
  ·exact h
  ·rw[hu]at h;cases h
 have hix:=λu=>Bh (s.extract i s.size) sg u h1 hc (by rw[Ac];omega) (by omega)
 rw[aaY,hx]at hix;have JJ:=hd' hix;have hi2:(i:Int)<=(s.size:Int):=by omega
 have hi3:(0:Int)<=(i:Int):=by omega
 clear hix hx hu hc hr;go_enter func136,ntmps136
 go_wp2_with fail
 refine bX (by kernel_rfl) (by kernel_rfl) ?_
 repeat
  with_reducible refine jW (λK hK=> ?_)
  first
   |(with_reducible apply gK
     ·rfl
     ·intro wq hC;have rH:=aM hC.o' hc0;have sV:=aM hC.o' hc1;unfold Oper.quietAt;go_simp
      first|(go_at_call 77;refine(JJ.o' _).mono ?_;rintro e wx ⟨rfl,hb⟩;exact⟨rfl,aK hC hb⟩)|with_reducible rfl)
  simp only[Act.put,dV,dF,dK];refine hK _ ?_;clear hK K
 with_reducible refine jX ?_
 intro wq HQ;have rH:=aM HQ.o' hc0;have sV:=aM HQ.o' hc1;go_wp2_with fail
 go_ret2;exact⟨rfl,HQ.o'⟩
theorem CR (s sg:ae) (g i n:Nat) (w:af) (hr:Row w g (pF s i)) (hin:i+n<s.size) (hs:s.size<=4294967280) (h1:1<=sg.size) (hc:xW sg) (hcs:sg.size<=1000) (hu:fH sg.toList (s.toList.drop i)=some ((s.toList.drop i).take n,s.toList.drop (i+n))) :
 Calls prog 136 #[.pointer (some ⟨g,0,none⟩),.string sg] w λe w'=>e= .returned (.tuple #[.string (bA ((s.toList.drop i).take n)),.bool true])/\Row w' g (pF s (i+n))/\az (Only g) w w':=by
 have hc0:w.cell? ⟨g,0,none⟩=some (.string s):=hr.cell (j:=0) rfl;have hc1:w.cell? ⟨g,1,none⟩=some (.int .i64 i):=hr.cell (j:=1) rfl;have hgw:=hr.lt;have hlen:(s.toList.drop i).length=s.size-i:=by rw[dN,aR]
 have hx:Lib.indexAny (s.toList.drop i) sg.toList=n:=by
  rcases pV sg.toList (s.toList.drop i)with⟨h,_⟩|⟨k,hk,h,hx⟩
  ·rw[hu]at h;cases h
  ·rw[hu]at h;have h2:=aW (λo=>(o.map λp=>p.2.length).getD 0) h;simp only[sP,Option.getD_some,dN,aR]at h2;rw[hx];omega
 have hix:=λu=>Bh (s.extract i s.size) sg u h1 hc (by rw[Ac];omega) (by omega)
 rw[aaY,hx]at hix;have JJ:=hd' hix;have hi2:(i:Int)<=(s.size:Int):=by omega
 have hi3:(0:Int)<=(i:Int):=by omega
 have hin2:(i:Int)+(n:Int)<=(s.size:Int):=by omega
 have au5:(i:Int)<=(i:Int)+(n:Int):=by omega
 have hwr:IntKind.i64.wrap ((i:Int)+(n:Int))=(i:Int)+(n:Int):=wrap_small _ (by omega) (by omega);have htn:((i:Int)+(n:Int)).toNat=i+n:=by omega
 have au4:(0:Int)<=(i:Int)+(n:Int):=by omega
 have hem:=KC s i n;have HR:=hd' hr;clear hix hx hu hc hr;go_enter func136,ntmps136
 go_wp2_with fail
 refine bX (by kernel_rfl) (by kernel_rfl) ?_
 repeat
  with_reducible refine jW (λK hK=> ?_)
  first
   |(with_reducible apply gK
     ·rfl
     ·intro wq hC;have rH:=aM hC.o' hc0;have sV:=aM hC.o' hc1;unfold Oper.quietAt;go_simp
      first|(go_at_call 77;refine(JJ.o' _).mono ?_;rintro e wx ⟨rfl,hb⟩;exact⟨rfl,aK hC hb⟩)|with_reducible rfl)
  simp only[Act.put,dV,dF,dK];refine hK _ ?_;clear hK K
 with_reducible refine jX ?_
 intro wq HQ;have rH:=aM HQ.o' hc0;have sV:=aM HQ.o' hc1;have HB1:=hd' HQ.o';have hd0:=rH;have hd1:=sV;clear hc0 hc1 rH sV HQ;go_wp2_with fail
 refine bX (by kernel_rfl) (by kernel_rfl) ?_
 repeat
  with_reducible refine jW (λK hK=> ?_)
  first
   |(with_reducible apply gK
     ·rfl
     ·intro wq hC;have Q5:=aM hC.o' hd0;have Lx:=aM hC.o' hd1;unfold Oper.quietAt;go_simp
      (with_reducible rfl))
  simp only[Act.put,dV,dF,dK];refine hK _ ?_;clear hK K
 with_reducible refine jX ?_
 intro wq HQ;have Q5:=aM HQ.o' hd0;have Lx:=aM HQ.o' hd1;have HB2:=hd' (aK HB1.o' HQ.o');have HR2:=hd' (HR.o'.below HB2.o' hgw);have hf1:wq.frozen? ⟨g,1,none⟩=false:=HR2.o'.frozen (j:=1) (by simp[pF]);clear hd0 hd1;go_wp2_with fail
 go_ret2;refine⟨rfl,?_,bM (az.bC HB2.o') _⟩;rw[<-ry s i (i+n) (z:=(i:Int)+(n:Int)) (by omega)];exact HR2.o'.set 1 _
theorem BN (p:ax->Bool): ∀l:bH,∃n,n<=l.length/\l.takeWhile p=l.take n/\l.dropWhile p=l.drop n/\(∀c∈l.take n,p c=true)/\ ∀c r,l.drop n=c::r->p c=false
 | []=>⟨0,ay _,rfl,rfl,λ_ h=>(by cases h),λ_ _ h=>(by cases h)⟩
 |b::l=>by
  cases hb:p b
  ·refine⟨0,bD _,by rw[QO,aj (by rw[hb];simp)];rfl,by rw[Ep,aj (by rw[hb];simp)];rfl,λc h=>(by cases h),λc r h=> ?_⟩;cases h;exact hb
  ·obtain⟨n,h1,h2,h3,h4,h5⟩:=BN p l;refine⟨n+1,by simp only[dB];omega,by rw[QO,au hb,h2];rfl,by rw[Ep,au hb,h3];rfl,λc hc=> ?_,h5⟩;rw[Lc]at hc;rcases dS.1 hc with rfl|hc
   ·exact hb
   ·exact h4 c hc
theorem jT (s:ae) (k:Nat) (h:k<s.size):s.toList.drop k=s[k]::s.toList.drop (k+1):=by
 have hk:k<s.toList.length:=by rw[aR];exact h
 rw[kR hk,byte_at s k h hk]
def GY (w:af) (g:Nat):Nat:=match w.cell? ⟨g,1,none⟩with
 |some (.int _ i)=>i.toNat
 |_=>0
theorem sD {w:af} {g i:Nat} {s:ae} (h:Row w g (pF s i)):GY w g=i:=by
 unfold GY;rw[show w.cell? ⟨g,1,none⟩=some (.int .i64 i)from h.cell (j:=1) rfl];rfl
theorem rJ (s:ae) (g i n:Nat) (w:af) (hr:Row w g (pF s i)) (hin:i+n<=s.size) (hs:s.size<=4294967280) (h1: ∀c∈(s.toList.drop i).take n,je c=true) (h2: ∀c r,s.toList.drop (i+n)=c::r->je c=false) :
 Calls prog 184 #[.pointer (some ⟨g,0,none⟩)] w λe w'=>e= .returned (.tuple #[])/\Row w' g (pF s (i+n))/\az (Only g) w w':=by
 have hgw:=hr.lt;have H1:=hd' h1;have H2:=hd' h2;have HR:=hd' hr;clear hr h1 h2;go_enter func184,ntmps184
 go_wp2_with fail
 go_loopw [2] (λ_ wr=> ∃k:Nat,k<=n/\Row wr g (pF s (i+k))/\az (Only g) w wr) (λ_ wr=>s.size-GY wr g)
 case atStart=>exact⟨0,bD _,HR.o',az.refl _ _⟩
 case round =>
  obtain⟨k,hk,hrr,hkk⟩:=hrel;obtain⟨j,hj⟩: ∃j,j=i+k:=⟨_,rfl⟩;rw[<-hj]at hrr;have hc0:wr.cell? ⟨g,0,none⟩=some (.string s):=hrr.cell (j:=0) rfl;have hc1:wr.cell? ⟨g,1,none⟩=some (.int .i64 j):=hrr.cell (j:=1) rfl;have HCA:=hd' (sD hrr);have Tv:=hd' hrr;have DU:=hd' hkk;have HJ:=hd' hj;clear hrr hkk;by_cases hjs:j<s.size
  ·have Sd:(j:Int)<(s.size:Int):=by omega
   have hd1:decide (j<s.size)=true:=pI hjs;have hd2:decide ((j:Int)<(s.size:Int))=true:=pI Sd;have hsp:=λu=>IM s[j] u
   have hat:=jT s j hjs;have hu:=s[j].toNat_lt;by_cases hkn:k<n
   ·have hb:je s[j]=true:=by
     refine H1.o' _ ?_
     have:((s.toList.drop i).take n)[k]?=some s[j]:=by
      rw[Lj hkn,List.getElem?_drop,<-hj,dZ,yQ s j hjs]
     exact El this
    rw[hb]at hsp;have KL:=hd' hsp;clear hsp hat hb hj;go_wp2_with fail
    refine bX (by kernel_rfl) (by kernel_rfl) ?_
    repeat
     with_reducible refine jW (λK hK=> ?_)
     first
      |(with_reducible apply gK
        ·rfl
        ·intro wq hC;have rH:=aM hC.o' hc0;have sV:=aM hC.o' hc1;unfold Oper.quietAt;go_simp
         first|(go_at_call 138;refine(KL.o' _).mono ?_;rintro e wx ⟨rfl,rfl⟩;exact⟨rfl,hC⟩)|with_reducible rfl)
     simp only[Act.put,dV,dF,dK];refine hK _ ?_;clear hK K
    with_reducible refine jX ?_
    intro wq HQ;have rH:=aM HQ.o' hc0;have sV:=aM HQ.o' hc1;have KM:=hd' (Tv.o'.below HQ.o' Tv.o'.lt);have Qw:=hd' (dU DU.o' HQ.o');have hf1:wq.frozen? ⟨g,1,none⟩=false:=KM.o'.frozen (j:=1) (by simp[pF]);clear hc0 hc1 rH;go_wp2_with fail
    go_roundw
    case rel =>
     have hj:=HJ.o';refine⟨k+1,by omega,?_,bM Qw.o' _⟩;rw[<-ry s j (i+(k+1)) (z:=(j:Int)+1) (by omega)];exact KM.o'.set 1 _
    case measure =>
     rw[HCA.o',sD (s:=s) (i:=j+1) (by rw[<-ry s j (j+1) (z:=(j:Int)+1) (by omega)];exact KM.o'.set 1 _)];omega
   ·obtain rfl:k=n:=by omega
    have hb:je s[j]=false:=H2.o' _ _ (by rw[<-hj];exact hat);rw[hb]at hsp;have KL:=hd' hsp;clear hsp hat hb hj;go_wp2_with fail
    refine bX (by kernel_rfl) (by kernel_rfl) ?_
    repeat
     with_reducible refine jW (λK hK=> ?_)
     first
      |(with_reducible apply gK
        ·rfl
        ·intro wq hC;have rH:=aM hC.o' hc0;have sV:=aM hC.o' hc1;unfold Oper.quietAt;go_simp
         first|(go_at_call 138;refine(KL.o' _).mono ?_;rintro e wx ⟨rfl,rfl⟩;exact⟨rfl,hC⟩)|with_reducible rfl)
     simp only[Act.put,dV,dF,dK];refine hK _ ?_;clear hK K
    with_reducible refine jX ?_
    intro wq HQ;have rH:=aM HQ.o' hc0;have sV:=aM HQ.o' hc1;go_wp2_with fail
    go_end0
    exact⟨rfl,by rw[<-HJ.o'];exact Tv.o'.below HQ.o' Tv.o'.lt,dU DU.o' HQ.o'⟩
  ·have Sd: ¬(j:Int)<(s.size:Int):=by omega
   have hd1:decide (j<s.size)=false:=qB hjs;have hd2:decide ((j:Int)<(s.size:Int))=false:=qB Sd;obtain rfl:k=n:=by omega
   clear hj;go_wp2_with fail
   refine bX (by kernel_rfl) (by kernel_rfl) ?_
   repeat
    with_reducible refine jW (λK hK=> ?_)
    first
     |(with_reducible apply Jq
       ·rfl)
     |(with_reducible apply gK
       ·rfl
       ·intro wq hC;have rH:=aM hC.o' hc0;have sV:=aM hC.o' hc1;unfold Oper.quietAt;go_simp
        (with_reducible rfl))
    simp only[Act.put,dV,dF,dK];refine hK _ ?_;clear hK K
   with_reducible refine jX ?_
   intro wq HQ;have rH:=aM HQ.o' hc0;have sV:=aM HQ.o' hc1;go_wp2_with fail
   go_end0
   exact⟨rfl,by rw[<-HJ.o'];exact Tv.o'.below HQ.o' Tv.o'.lt,dU DU.o' HQ.o'⟩
theorem xU {l:bH} (h: ∀c∈l,c.toNat<128):xW ⟨l.toArray⟩:=λ_ c hj=>h c (El hj)
theorem BU (s:ae) (i:Nat) (hi:i<=s.size): ∃n,i+n<=s.size/\(s.toList.drop i).dropWhile je=s.toList.drop (i+n)/\(∀c∈(s.toList.drop i).take n,je c=true)/\ ∀c r,s.toList.drop (i+n)=c::r->je c=false:=by
 obtain⟨n,h1,_,h3,h4,h5⟩:=BN je (s.toList.drop i);rw[dN,aR]at h1;rw[BL]at h3 h5;exact⟨n,by omega,h3,h4,h5⟩
theorem abN {s:ae} {r:bH} {i:Nat} (h:r <:+s.toList.drop i):r=s.toList.drop (s.size-r.length):=by
 have h2:=h.trans (QS i s.toList);have:=List.suffix_iff_eq_drop.1 h2
 rwa [aR]at this
theorem Wh (s:ae) (g i:Nat) (o:Option (bH×bH)) (w:af) (hr:Row w g (pF s i)) (hi:i<=s.size) (hs:s.size<=4294967280) (hv:mD (s.toList.drop i)=o) :
 Calls prog 185 #[.pointer (some ⟨g,0,none⟩)] w λe w'=>(o=none->e= .returned (.tuple #[.string ⟨#[]⟩,.bool false]))/\(∀v r,o=some (v,r)->e= .returned (.tuple #[.string (bA v),.bool true])/\Row w' g (pF s (s.size-r.length)))/\az (Only g) w w':=by
 obtain⟨n,hn,hd,h4,h5⟩:=BU s i hi;unfold mD at hv;rw[hd]at hv;obtain⟨j,hj⟩: ∃j,j=i+n:=⟨_,rfl⟩;have KL:=hd' (rJ s g i n w hr hn hs h4 h5);rw[<-hj]at KL hv hn;clear hr h4 h5 hd hj;by_cases hjs:j=s.size
 ·subst hjs;rw[iZ (by rw[aR];exact ay _)]at hv;obtain rfl:none=o:=hv;go_enter func185,ntmps185
  go_wp2_with fail
  refine KL.o'.mono ?_;rintro e W1 ⟨rfl,hrr,hk⟩;have hc0:W1.cell? ⟨g,0,none⟩=some (.string s):=hrr.cell (j:=0) rfl;have hc1:W1.cell? ⟨g,1,none⟩=some (.int .i64 s.size):=hrr.cell (j:=1) rfl;have HK:=hd' hk;clear hrr hk;dsimp only;go_wp2_with fail
  refine bX (by kernel_rfl) (by kernel_rfl) ?_
  repeat
   with_reducible refine jW (λK hK=> ?_)
   first
    |(with_reducible apply gK
      ·rfl
      ·intro wq hC;have rH:=aM hC.o' hc0;have sV:=aM hC.o' hc1;unfold Oper.quietAt;go_simp
       (with_reducible rfl))
   simp only[Act.put,dV,dF,dK];refine hK _ ?_;clear hK K
  with_reducible refine jX ?_
  intro wq HQ;have rH:=aM HQ.o' hc0;have sV:=aM HQ.o' hc1;go_wp2_with fail
  go_ret2;exact⟨λ_=>rfl,λ_ _ h=>(by cases h),dU HK.o' HQ.o'⟩
 have Sd:j<s.size:=by omega
 have akH:((j:Int)==(s.size:Int))=false:=by rw[aV];omega
 rw[jT s j Sd]at hv;simp only at hv;have e1:s.extract j (j+1)=bA [s[j]]:=by rw[KC,jT s j Sd];rfl
 have hle1:(j:Int)+1<=(s.size:Int):=by omega
 have hle2:(0:Int)<=(j:Int)+1:=by omega
 have hle3:(j:Int)<=(j:Int)+1:=by omega
 have hwr:IntKind.i64.wrap ((j:Int)+1)=(j:Int)+1:=wrap_small _ (by omega) (by omega);have htn:((j:Int)+1).toNat=j+1:=by omega
 have hj0:(0:Int)<=(j:Int):=by omega
 by_cases hq:s[j]=34\/s[j]=39
 case' pos =>
  rw[au hq]at hv
  have hqb:((bA [s[j]]).toList==([34]:bH))=true\/(((bA [s[j]]).toList==([34]:bH))=false/\((bA [s[j]]).toList==([39]:bH))=true):=by
   rw[bT];rcases hq with h|h <;>rw[h]
   ·exact .inl rfl
   ·exact .inr ⟨rfl,rfl⟩
  have hqa:xW (bA [s[j]]):=xU λc hc=>by
   obtain rfl:=dG.1 hc;rcases hq with h|h <;>rw[h] <;>decide
  rcases pV [s[j]] (s.toList.drop (j+1))with⟨hu,_⟩|⟨k,hk,hu,_⟩
  all_goals rw[hu]at hv
  case' inl =>
   have HU:=hd' (λu hu'=>FF s (bA [s[j]]) g (j+1) u hu' (by omega) hs (by rw[bV];exact ay 1) hqa (by rw[bV];simp) (by rw[bT];exact hu))
  case' inr =>
   rw[dN,aR]at hk;rw[BL]at hu;have HU:=hd' (λu hu'=>CR s (bA [s[j]]) g (j+1) k u hu' (by omega) hs (by rw[bV];exact ay 1) hqa (by rw[bV];simp) (by rw[bT];exact hu))
  all_goals
   have HV:=hd' hv.symm;clear hv hq hu hqa;rcases hqb with hqb|⟨hqb,hqc⟩
 case' neg =>
  rw[aj hq,<-jT s j Sd]at hv
  have hqb:((bA [s[j]]).toList==([34]:bH))=false:=by
   rw[bT,aV];exact λh=>hq (.inl (dH h).1)
  have hqc:((bA [s[j]]).toList==([39]:bH))=false:=by
   rw[bT,aV];exact λh=>hq (.inr (dH h).1)
  rcases pV aac (s.toList.drop j)with⟨hu,_⟩|⟨k,hk,hu,_⟩
  all_goals rw[hu]at hv
  case' inl =>
   have HU:=hd' (λu hu'=>FF s ⟨#[9,10,12,32,62]⟩ g j u hu' (by omega) hs (by decide) (xU (l:=aac) (by decide)) (by decide) (by rw[dZ];exact hu))
  case' inr =>
   rw[dN,aR]at hk;rw[BL]at hu;have HU:=hd' (λu hu'=>CR s ⟨#[9,10,12,32,62]⟩ g j k u hu' (by omega) hs (by decide) (xU (l:=aac) (by decide)) (by decide) (by rw[dZ];exact hu))
  all_goals
   have HV:=hd' hv.symm;clear hv hq hu
 all_goals
  go_enter func185,ntmps185
  go_wp2_with fail
  refine KL.o'.mono ?_;rintro e W1 ⟨rfl,hrr,hk⟩;have hc0:W1.cell? ⟨g,0,none⟩=some (.string s):=hrr.cell (j:=0) rfl;have hc1:W1.cell? ⟨g,1,none⟩=some (.int .i64 j):=hrr.cell (j:=1) rfl;have HR:=hd' hrr;have HK:=hd' hk;clear hrr hk;dsimp only;go_wp2_with fail
  refine bX (by kernel_rfl) (by kernel_rfl) ?_
  repeat
   with_reducible refine jW (λK hK=> ?_)
   first
    |(with_reducible apply gK
      ·rfl
      ·intro wq hC;have rH:=aM hC.o' hc0;have sV:=aM hC.o' hc1;unfold Oper.quietAt;go_simp
       (with_reducible rfl))
   simp only[Act.put,dV,dF,dK];refine hK _ ?_;clear hK K
  with_reducible refine jX ?_
  intro wq HQ;have rH:=aM HQ.o' hc0;have sV:=aM HQ.o' hc1;have HR1:=hd' (HR.o'.below HQ.o' HR.o'.lt);have wE:=hd' (dU HK.o' HQ.o');have hd0:=rH;have hd1:=sV;clear hc0 hc1 rH sV HQ HR HK;go_wp2_with fail
  refine bX (by kernel_rfl) (by kernel_rfl) ?_
  repeat
   with_reducible refine jW (λK hK=> ?_)
   first
    |(with_reducible apply gK
      ·rfl
      ·intro wq hC;have Q5:=aM hC.o' hd0;have Lx:=aM hC.o' hd1;unfold Oper.quietAt;go_simp
       (with_reducible rfl))
   simp only[Act.put,dV,dF,dK];refine hK _ ?_;clear hK K
  with_reducible refine jX ?_
  intro wq HQ;have Q5:=aM HQ.o' hd0;have Lx:=aM HQ.o' hd1;have HR2:=hd' (HR1.o'.below HQ.o' HR1.o'.lt);have uP:=hd' (dU wE.o' HQ.o');have hf1:wq.frozen? ⟨g,1,none⟩=false:=HR2.o'.frozen (j:=1) (by simp[pF]);have hc1:=Lx;clear hd0 hd1 Q5 Lx HQ HR1 wE;go_wp2_with fail
  clear hf1 hc1
  first
  |have HR3:Hid (Row (wq.setCell ⟨g,1,none⟩ (.int .i64 ((j:Int)+1))) g (pF s (j+1))):=by
    have h:=HR2.o'.set 1 (.int .i64 ((j:Int)+1));rw[ry s j (j+1) (by omega)]at h;exact h
   have Qx:=hd' (bM uP.o' (.int .i64 ((j:Int)+1)) (j:=1));refine(HU.o' _ HR3.o').mono ?_
   first
   |rintro e W2 ⟨rfl,hb⟩
    have HR4:=hd' (HR3.o'.below hb HR3.o'.lt);have Bw:=hd' (dU Qx.o' hb);have hc1:W2.cell? ⟨g,1,none⟩=some (.int .i64 ((j+1:Nat):Int)):=HR4.o'.cell (j:=1) rfl;have hf1:W2.frozen? ⟨g,1,none⟩=false:=HR4.o'.frozen (j:=1) (by simp[pF]);clear hb;dsimp only;go_wp2_with fail
    go_ret2;exact⟨λ_=>rfl,λ_ _ h=>(by rw[HV.o']at h;cases h),bM Bw.o' _⟩
   |rintro e W2 ⟨rfl,hrr,hkk⟩
    have HR4:=hd' hrr;have Bw:=hd' (Qx.o'.trans hkk);have hc1:W2.cell? ⟨g,1,none⟩=some (.int .i64 ((j+1+k:Nat):Int)):=HR4.o'.cell (j:=1) rfl;have hf1:W2.frozen? ⟨g,1,none⟩=false:=HR4.o'.frozen (j:=1) (by simp[pF]);clear hrr hkk;obtain⟨q,hq⟩: ∃q,q=j+1+k:=⟨_,rfl⟩;have HQ:=hd' hq;rw[<-hq]at HR4 hc1;have hq2:q<=s.size:=by omega
    clear hq;dsimp only;go_wp2_with fail
    go_ret2;refine⟨λh=>(by rw[HV.o']at h;cases h),λv r h=> ?_,bM Bw.o' _⟩;have hq:=HQ.o';rw[HV.o']at h;cases h;refine⟨rfl,?_⟩;rw[<-ry s q _ (z:=(q:Int)+1) (by simp only[dN,aR];omega)];exact HR4.o'.set 1 _
  |refine(HU.o' _ HR2.o').mono ?_
   first
   |rintro e W2 ⟨rfl,hb⟩
    have Bw:=hd' (dU uP.o' hb);clear hb;dsimp only;go_wp2_with fail
    go_ret2;exact⟨λ_=>rfl,λ_ _ h=>(by rw[HV.o']at h;cases h),Bw.o'⟩
   |rintro e W2 ⟨rfl,hrr,hkk⟩
    have HR4:=hd' hrr;have Bw:=hd' (uP.o'.trans hkk);clear hrr hkk;dsimp only;go_wp2_with fail
    go_ret2;refine⟨λh=>(by rw[HV.o']at h;cases h),λv r h=> ?_,Bw.o'⟩;rw[HV.o']at h;cases h;refine⟨rfl,?_⟩;rw[show s.size-((s.toList.drop j).drop k).length=j+k from by simp only[dN,aR];omega];exact HR4.o'
theorem zV:(prog.info? 128).map (·.size)=some 2:=by kernel_rfl
theorem iI {P:Program} {fn:Func} {p t:Tmp} {ty:TypeId} (h:fn.results= #[.cell p ty,.tmp t]) (tmps:Array ak) (w:af) (g:Nat) (e:TypeId) (cs:Array ak) (fr:Nat×Nat) (d:TypeDesc)
 (hp:tmps.getD p undef= .pointer (some ⟨g,0,none⟩)) (hg:w.heap[g]?=some (.cells cs e fr))
 (hu:P.underlying ty=some d) (hd:(match d with| .struct _| .array _ _=>true|_=>false)=true) (hi:(P.info? ty).map (·.size)=some cs.size) :
 (results fn tmps).run P w= .ok (.tuple #[.agg cs,tmps.getD t undef]) w:=by
 have hp':tmps[p]?.getD undef= .pointer (some ⟨g,0,none⟩):=by simpa using hp
 simp[results,h,hp',asAddr,QA w g e ty cs fr d hg hu hd hi,Result.andThen]
theorem ni {W:af} {g:Nat} {e:TypeId} {a b:ae} (h:W.heap[g]?=some (.cells #[.string a,.string b] e (0,0))) :
 (W.cell? ⟨g,0,none⟩=some (.string a)/\W.cell? ⟨g,1,none⟩=some (.string b))/\(W.frozen? ⟨g,0,none⟩=false/\W.frozen? ⟨g,1,none⟩=false):=by
 refine⟨⟨?_,?_⟩,?_,?_⟩ <;>simp[World.cell?,World.frozen?,h]
abbrev Ry (W:af) (g:Nat) (v0 v1:ak):af:=(W.setCell ⟨g,0,none⟩ v0).setCell ⟨g,1,none⟩ v1
theorem Db {W:af} {g:Nat} {e:TypeId} {a b:ae} (h:W.heap[g]?=some (.cells #[.string a,.string b] e (0,0))) (v0 v1:ak):(Ry W g v0 v1).heap[g]?=some (.cells #[v0,v1] e (0,0)):=by
 simp[Ry,World.setCell,Q4,h]
theorem xA {F:Nat->Prop} {a W:af} (h:az F a W) {g:Nat} (hg:a.heap.size<=g) (v0 v1:ak):az F a (Ry W g v0 v1):=(h.set (.inr hg) _).set (.inr hg) _
theorem UT {W:af} {g k:Nat} {xs:List ak} (h:Row W k xs) (hg:k≠g) (v0 v1:ak):Row (Ry W g v0 v1) k xs :=
 h.kept (by unfold Ry;rw[eG _ _ _ _ hg,eG _ _ _ _ hg])
theorem agz (s:ae) (g i:Nat) (w:af) (hr:Row w g (pF s i)) (hi:i<s.size) (hs:s.size<=4294967280) (hu:fH LZ (s.toList.drop (i+1))=none) :
 Calls prog 139 #[.pointer (some ⟨g,0,none⟩)] w λe w'=>(∃a1 a2,e= .returned (.tuple #[.agg #[.string a1,.string a2],.bool false]))/\az (Only g) w w':=by
 have hgw:=hr.lt;have HU:=hd' (λu hu'=>FF s ⟨#[9,10,12,32,47,62,61]⟩ g (i+1) u hu' (by omega) hs (by decide) (xU (l:=LZ) (by decide)) (by decide) (by rw[dZ];exact hu));clear hu;obtain⟨wa,kF⟩: ∃wa,wa=w.alloc (.cells #[.string ⟨#[]⟩,.string ⟨#[]⟩] 128):=⟨_,rfl⟩;have Ki:=hd' (show Row wa g (pF s i)from kF▸hr.kept (gu w (.cells #[.string ⟨#[]⟩,.string ⟨#[]⟩] 128) hgw));have ZJ:=hd' (show wa.heap[w.heap.size]?=some (.cells #[.string ⟨#[]⟩,.string ⟨#[]⟩] 128 (0,0))from kF▸eU _ _);have TJ:=hd' (show az (Only g) w wa from kF▸(az.refl (Only g) w).alloc _);have hza:w.heap.size<wa.heap.size:=by rw[kF];simp
 have zb:=hd' kF;clear kF;have hne:w.heap.size≠g:=by omega
 have e1:s.extract i (i+1)=bA [s[i]]:=by rw[KC,jT s i hi];rfl
 have hle1:(i:Int)+1<=(s.size:Int):=by omega
 have hle2:(0:Int)<=(i:Int)+1:=by omega
 have hle3:(i:Int)<=(i:Int)+1:=by omega
 have hwr:IntKind.i64.wrap ((i:Int)+1)=(i:Int)+1:=wrap_small _ (by omega) (by omega);have htn:((i:Int)+1).toNat=i+1:=by omega
 have hj0:(0:Int)<=(i:Int):=by omega
 have hc0:wa.cell? ⟨g,0,none⟩=some (.string s):=Ki.o'.cell (j:=0) rfl;have hc1:wa.cell? ⟨g,1,none⟩=some (.int .i64 i):=Ki.o'.cell (j:=1) rfl;clear hr;go_enter func139,ntmps139
 go_wp2_with fail
 rw[<-zb.o'];refine bX (by kernel_rfl) (by kernel_rfl) ?_
 repeat
  with_reducible refine jW (λK hK=> ?_)
  first
   |(with_reducible apply gK
     ·rfl
     ·intro wq hC;have rH:=aM hC.o' hc0;have sV:=aM hC.o' hc1;unfold Oper.quietAt;go_simp
      (with_reducible rfl))
  simp only[Act.put,dV,dF,dK];refine hK _ ?_;clear hK K
 with_reducible refine jX ?_
 intro wq HQ;have rH:=aM HQ.o' hc0;have sV:=aM HQ.o' hc1;have HR2:=hd' (Ki.o'.below HQ.o' Ki.o'.lt);have uP:=hd' (dU TJ.o' HQ.o');have HZ2:=hd' (ic ZJ.o' HQ.o' hza);have hz2:=fA hza HQ.o'.size;have hf1:wq.frozen? ⟨g,1,none⟩=false:=HR2.o'.frozen (j:=1) (by simp[pF]);have hc2:=sV;clear hc0 hc1 rH sV HQ Ki TJ ZJ hza;go_wp2_with fail
 clear hf1 hc2
 have HR3:Hid (Row (wq.setCell ⟨g,1,none⟩ (.int .i64 ((i:Int)+1))) g (pF s (i+1))):=by
  have h:=HR2.o'.set 1 (.int .i64 ((i:Int)+1));rw[ry s i (i+1) (by omega)]at h;exact h
 have Qx:=hd' (bM uP.o' (.int .i64 ((i:Int)+1)) (j:=1));have HZ3:=hd' (fI (j:=1) (v:= .int .i64 ((i:Int)+1)) HZ2.o' hne);have hz3:w.heap.size<(wq.setCell ⟨g,1,none⟩ (.int .i64 ((i:Int)+1))).heap.size:=by rw[pK];exact hz2
 refine(HU.o' _ HR3.o').mono ?_;rintro e W2 ⟨rfl,hb⟩;have HZ4:=hd' (ic HZ3.o' hb hz3);have Bw:=hd' (dU Qx.o' hb);obtain⟨⟨q0,q1⟩,f0,f1⟩:=ni HZ4.o';clear hb;dsimp only;go_wp2_with fail
 refine bU (iI rfl _ _ w.heap.size _ _ _ _ rfl (Db HZ4.o' _ _) KP rfl zV) rfl ?_;exact⟨⟨_,_,rfl⟩,xA Bw.o' (ay _) _ _⟩
theorem TP {r v t:bH} (h:mD r=some (v,t)):v.length<=r.length:=by
 have h0:=kP je r;unfold mD at h;split at h
 ·cases h
 ·rename_i q r1 he;rw[he]at h0;split at h
  ·cases hu:fH [q] r1 with
   |none=>rw[hu]at h;cases h
   |some p =>
    rw[hu]at h;simp only[sP,dQ,nP]at h;have:=(kT hu).1;rw[<-h.1];simp only[dB]at h0;omega
  ·have:=(kT h).1;omega
theorem Dz (s:ae) (g i k n j:Nat) (w:af) (hr:Row w g (pF s i)) (hi:i<s.size) (hs:s.size<=4294967280) (hk:i+1+k<s.size) (hu:fH LZ (s.toList.drop (i+1))=some ((s.toList.drop (i+1)).take k,s.toList.drop (i+1+k)))
 (hj:j=i+1+k+n) (hn:j<=s.size) (h4: ∀c∈(s.toList.drop (i+1+k)).take n,je c=true) (h5: ∀h:j<s.size,je s[j]=false) :
 Calls prog 139 #[.pointer (some ⟨g,0,none⟩)] w λe w'=>az (Only g) w w'/\(j=s.size-> ∃a1 a2,e= .returned (.tuple #[.agg #[.string a1,.string a2],.bool false]))/\ ∀h:j<s.size,
  (s[j]≠61->e= .returned (.tuple #[.agg #[.string (bA (kK (s[i]::(s.toList.drop (i+1)).take k))),.string ⟨#[]⟩],.bool true])/\Row w' g (pF s j)) /\
  (s[j]=61->(mD (s.toList.drop (j+1))=none-> ∃a1 a2,e= .returned (.tuple #[.agg #[.string a1,.string a2],.bool false])) /\
    ∀v r,mD (s.toList.drop (j+1))=some (v,r)->e= .returned (.tuple #[.agg #[.string (bA (kK (s[i]::(s.toList.drop (i+1)).take k))),.string (bA (uO v true))],.bool true])/\Row w' g (pF s (s.size-r.length))):=by
 have KL:=hd' (λu hu'=>rJ s g (i+1+k) n u hu' (by omega) hs h4 (λc r h=>by
  rw[<-hj]at h;rcases lG j s.size with hl|hl
  ·rw[jT s j hl]at h;cases h;exact h5 hl
  ·rw[iZ (by rw[aR];exact hl)]at h;cases h))
 have hgw:=hr.lt;have HU:=hd' (λu hu'=>CR s ⟨#[9,10,12,32,47,62,61]⟩ g (i+1) k u hu' hk hs (by decide) (xU (l:=LZ) (by decide)) (by decide) (by rw[dZ];exact hu));obtain⟨t,ht⟩: ∃t,t=(s.toList.drop (i+1)).take k:=⟨_,rfl⟩;have htl:t.length<=s.size:=by rw[ht,fV,dN,aR];omega
 rw[<-ht]at HU;have apU:bA [s[i]]++bA t=bA (s[i]::t):=rfl;have hlen: ¬9223372036854775807<(bA [s[i]]).size+(bA t).size:=by rw[bV,bV];simp only[dB,kQ];omega
 have HSM:=hd' (λu=>rZ (bA (s[i]::t)) u (by rw[bV,dB];unfold maxLen;omega));rw[bT]at HSM;rw[<-ht];have HT:=hd' ht;clear hu h4 ht h5;obtain⟨wa,kF⟩: ∃wa,wa=w.alloc (.cells #[.string ⟨#[]⟩,.string ⟨#[]⟩] 128):=⟨_,rfl⟩;have Ki:=hd' (show Row wa g (pF s i)from kF▸hr.kept (gu w (.cells #[.string ⟨#[]⟩,.string ⟨#[]⟩] 128) hgw));have ZJ:=hd' (show wa.heap[w.heap.size]?=some (.cells #[.string ⟨#[]⟩,.string ⟨#[]⟩] 128 (0,0))from kF▸eU _ _);have TJ:=hd' (show az (Only g) w wa from kF▸(az.refl (Only g) w).alloc _);have hza:w.heap.size<wa.heap.size:=by rw[kF];simp
 have zb:=hd' kF;clear kF;have hne:w.heap.size≠g:=by omega
 have e1:s.extract i (i+1)=bA [s[i]]:=by rw[KC,jT s i hi];rfl
 have hle1:(i:Int)+1<=(s.size:Int):=by omega
 have hle2:(0:Int)<=(i:Int)+1:=by omega
 have hle3:(i:Int)<=(i:Int)+1:=by omega
 have hwr:IntKind.i64.wrap ((i:Int)+1)=(i:Int)+1:=wrap_small _ (by omega) (by omega);have htn:((i:Int)+1).toNat=i+1:=by omega
 have hj0:(0:Int)<=(i:Int):=by omega
 have hc0:wa.cell? ⟨g,0,none⟩=some (.string s):=Ki.o'.cell (j:=0) rfl;have hc1:wa.cell? ⟨g,1,none⟩=some (.int .i64 i):=Ki.o'.cell (j:=1) rfl;clear hr;go_enter func139,ntmps139
 go_wp2_with fail
 rw[<-zb.o'];refine bX (by kernel_rfl) (by kernel_rfl) ?_
 repeat
  with_reducible refine jW (λK hK=> ?_)
  first
   |(with_reducible apply gK
     ·rfl
     ·intro wq hC;have rH:=aM hC.o' hc0;have sV:=aM hC.o' hc1;unfold Oper.quietAt;go_simp
      (with_reducible rfl))
  simp only[Act.put,dV,dF,dK];refine hK _ ?_;clear hK K
 with_reducible refine jX ?_
 intro wq HQ;have rH:=aM HQ.o' hc0;have sV:=aM HQ.o' hc1;have HR2:=hd' (Ki.o'.below HQ.o' Ki.o'.lt);have uP:=hd' (dU TJ.o' HQ.o');have HZ2:=hd' (ic ZJ.o' HQ.o' hza);have hz2:=fA hza HQ.o'.size;have hf1:wq.frozen? ⟨g,1,none⟩=false:=HR2.o'.frozen (j:=1) (by simp[pF]);have hc2:=sV;clear hc0 hc1 rH sV HQ Ki TJ ZJ hza;go_wp2_with fail
 clear hf1 hc2
 have HR3:Hid (Row (wq.setCell ⟨g,1,none⟩ (.int .i64 ((i:Int)+1))) g (pF s (i+1))):=by
  have h:=HR2.o'.set 1 (.int .i64 ((i:Int)+1));rw[ry s i (i+1) (by omega)]at h;exact h
 have Qx:=hd' (bM uP.o' (.int .i64 ((i:Int)+1)) (j:=1));have HZ3:=hd' (fI (j:=1) (v:= .int .i64 ((i:Int)+1)) HZ2.o' hne);have hz3:w.heap.size<(wq.setCell ⟨g,1,none⟩ (.int .i64 ((i:Int)+1))).heap.size:=by rw[pK];exact hz2
 refine(HU.o' _ HR3.o').mono ?_;rintro e W2 ⟨rfl,hrr,hkk⟩;have HR4:=hd' hrr;have Bw:=hd' (Qx.o'.trans hkk);have HZ4:=hd' (fq HZ3.o' hkk hz3 hne);have hz4:=fA hz3 hkk.size;clear hrr hkk;dsimp only;go_wp2_with fail
 refine(HSM.o' _).mono ?_;rintro e W3 ⟨rfl,hb⟩;have HR5:=hd' (HR4.o'.below hb HR4.o'.lt);have HK5:=hd' (dU Bw.o' hb);have HZ5:=hd' (ic HZ4.o' hb hz4);have hz5:=fA hz4 hb.size;clear hb;dsimp only;go_wp2_with fail
 by_cases hjs:j=s.size
 all_goals
  have HR6:=hd' (HR5.o'.kept (gu W3 (.cells #[.string (bA (kK (s[i]::t))),.string ⟨#[]⟩] 128) HR5.o'.lt));have HK6:=hd' (HK5.o'.alloc (.cells #[.string (bA (kK (s[i]::t))),.string ⟨#[]⟩] 128));have HZ6:=hd' ((gu W3 (.cells #[.string (bA (kK (s[i]::t))),.string ⟨#[]⟩] 128) hz5).trans HZ5.o');have HA6:=hd' (eU W3 (.cells #[.string (bA (kK (s[i]::t))),.string ⟨#[]⟩] 128));have hzz:W3.heap.size<(W3.alloc (.cells #[.string (bA (kK (s[i]::t))),.string ⟨#[]⟩] 128)).heap.size:=by simp
  have hg5:=HR5.o'.lt;generalize W3.alloc (.cells #[.string (bA (kK (s[i]::t))),.string ⟨#[]⟩] 128)=W4 at *;generalize W3.heap.size=nA at *;have hz6:w.heap.size<W4.heap.size:=by omega
  have afL:nA≠g:=by omega
  have amM:w.heap.size≠nA:=by omega
  have hwA:w.heap.size<=nA:=by omega
  refine(KL.o' _ HR6.o').mono ?_;rintro e W5 ⟨rfl,hrr,hkk⟩;have HZ7:=hd' (fq HZ6.o' hkk hz6 hne);have HA7:=hd' (fq HA6.o' hkk hzz afL);have HK7:=hd' (HK6.o'.trans hkk);have hz7:=fA hz6 hkk.size;have akA:=fA hzz hkk.size;have HR7:=hd' hrr;have hc0:W5.cell? ⟨g,0,none⟩=some (.string s):=HR7.o'.cell (j:=0) rfl;have hc1:W5.cell? ⟨g,1,none⟩=some (.int .i64 ((i+1+k+n:Nat):Int)):=HR7.o'.cell (j:=1) rfl;clear hrr hkk HR6 HK6 HZ6 HA6 hzz hg5 HR5 HK5 HZ5 hz5 hz6;rw[<-hj]at HR7 hc1;clear hj
  first
   |(have hjb:((j:Int)==(s.size:Int))=true:=by rw[cO];omega)
   |(have hjb:((j:Int)==(s.size:Int))=false:=by rw[aV];omega)
  dsimp only;go_wp2_with fail
  refine bX (by kernel_rfl) (by kernel_rfl) ?_
  repeat
   with_reducible refine jW (λK hK=> ?_)
   first
    |(with_reducible apply gK
      ·rfl
      ·intro wq hC;have rH:=aM hC.o' hc0;have sV:=aM hC.o' hc1;unfold Oper.quietAt;go_simp
       (with_reducible rfl))
   simp only[Act.put,dV,dF,dK];refine hK _ ?_;clear hK K
  with_reducible refine jX ?_
  intro wq HQ;have rH:=aM HQ.o' hc0;have sV:=aM HQ.o' hc1;have HZ8:=hd' (ic HZ7.o' HQ.o' hz7);have HA8:=hd' (ic HA7.o' HQ.o' akA);have HK8:=hd' (dU HK7.o' HQ.o');have HR8:=hd' (HR7.o'.below HQ.o' HR7.o'.lt);have hz8:=fA hz7 HQ.o'.size;have ain:=fA akA HQ.o'.size;have hd0:=rH;have hd1:=sV;clear hc0 hc1 rH sV HQ HZ7 HA7 HK7 HR7 hz7 akA;obtain⟨⟨p0,p1⟩,o0,o1⟩:=ni HZ8.o';go_wp2_with fail
  clear p0 p1 o0 o1
 · --the answer goes into the result's block:HZ8 in world wq
   refine bU (iI rfl _ _ w.heap.size _ _ _ _ rfl (Db HZ8.o' _ _) KP rfl zV) rfl ?_;exact⟨xA HK8.o' (ay _) _ _,λ_=>⟨_,_,rfl⟩,λh=>absurd h (by omega)⟩
 ·have hlt:j<s.size:=by omega
  by_cases VV:s[j]=61
  ·have aqa:((s[j].toNat:Int) !=61)=false:=by rw[VV];decide
   have H61:=hd' VV;clear VV;refine bX (by kernel_rfl) (by kernel_rfl) ?_
   repeat
    with_reducible refine jW (λK hK=> ?_)
    first
     |(with_reducible apply gK
       ·rfl
       ·intro wq hC;have Q5:=aM hC.o' hd0;have Lx:=aM hC.o' hd1;unfold Oper.quietAt;go_simp
        (with_reducible rfl))
    simp only[Act.put,dV,dF,dK];refine hK _ ?_;clear hK K
   with_reducible refine jX ?_
   intro wq HQ;have Q5:=aM HQ.o' hd0;have Lx:=aM HQ.o' hd1;have HZ9:=hd' (ic HZ8.o' HQ.o' hz8);have HA9:=hd' (ic HA8.o' HQ.o' ain);have HK9:=hd' (dU HK8.o' HQ.o');have HR9:=hd' (HR8.o'.below HQ.o' HR8.o'.lt);have hz9:=fA hz8 HQ.o'.size;have apn:=fA ain HQ.o'.size;have hc1:=Lx;have hf1:wq.frozen? ⟨g,1,none⟩=false:=HR9.o'.frozen (j:=1) (by simp[pF]);clear hd0 hd1 Q5 Lx HQ HZ8 HA8 HK8 HR8 hz8 ain;go_wp2_with fail
   clear hc1 hf1
   have HRx:Hid (Row (wq.setCell ⟨g,1,none⟩ (.int .i64 ((j:Int)+1))) g (pF s (j+1))):=by
    have h:=HR9.o'.set 1 (.int .i64 ((j:Int)+1));rw[ry s j (j+1) (by omega)]at h;exact h
   have HKx:=hd' (bM HK9.o' (.int .i64 ((j:Int)+1)) (j:=1));have HZx:=hd' (fI (j:=1) (v:= .int .i64 ((j:Int)+1)) HZ9.o' hne);have HAx:=hd' (fI (j:=1) (v:= .int .i64 ((j:Int)+1)) HA9.o' afL);have hzx:w.heap.size<(wq.setCell ⟨g,1,none⟩ (.int .i64 ((j:Int)+1))).heap.size:=by rw[pK];exact hz9
   have aim:nA<(wq.setCell ⟨g,1,none⟩ (.int .i64 ((j:Int)+1))).heap.size:=by rw[pK];exact apn
   have HVn:=hd' (λhv=>(Wh s g (j+1) none _ HRx.o' (by omega) hs hv).mono λ_ _ h=>(⟨h.1 rfl,h.2.2⟩:_/\_));have HVy:=hd' (λv r hv=>(Wh s g (j+1) (some (v,r)) _ HRx.o' (by omega) hs hv).mono λ_ _ h=>(⟨(h.2.1 v r rfl).1,(h.2.1 v r rfl).2,h.2.2⟩:_/\_/\_));cases hv:mD (s.toList.drop (j+1))with
   |none =>
    have HV:=hd' (HVn.o' hv);have Kq:=hd' hv;clear HVn HVy hv;refine HV.o'.mono ?_;rintro e W6 ⟨rfl,hkk⟩;have HZy:=hd' (fq HZx.o' hkk hzx hne);have HAy:=hd' (fq HAx.o' hkk aim afL);have HKy:=hd' (HKx.o'.trans hkk);have hzy:=fA hzx hkk.size;have akz:=fA aim hkk.size;clear hkk;dsimp only;go_wp2_with fail
    --refs.All has answered:W7,hb;HKy HZy HAy facts of the world before it
    refine(abl _ true _ ?_).mono ?_
    ·(decide)
    rintro e W7 ⟨rfl,hb⟩;have HZz:=hd' (ic HZy.o' hb hzy);have HAz:=hd' (ic HAy.o' hb akz);have HKz:=hd' (dU HKy.o' hb);obtain⟨⟨q0,q1⟩,f0,f1⟩:=ni HZz.o';obtain⟨⟨a0,a1⟩,b0,b1⟩:=ni HAz.o';clear hb;dsimp only;go_wp2_with fail
    refine bU (iI rfl _ _ w.heap.size _ _ _ _ rfl (Db (fI HZz.o' amM) _ _) KP rfl zV) rfl ?_;exact⟨xA (HKz.o'.set (.inr hwA) _) (ay _) _ _,λh=>absurd h hjs,λh=>⟨λh6=>absurd H61.o' h6,λ_=>⟨λ_=>⟨_,_,rfl⟩,λv r hv=>(by cases Kq.o'.symm.trans hv)⟩⟩⟩
   |some p =>
    obtain⟨v,r⟩:=p;have hvl:=TP hv;rw[dN,aR]at hvl;have HV:=hd' (HVy.o' v r hv);have Kq:=hd' hv;clear HVn HVy hv;refine HV.o'.mono ?_;rintro e W6 ⟨rfl,hrr,hkk⟩;have HZy:=hd' (fq HZx.o' hkk hzx hne);have HAy:=hd' (fq HAx.o' hkk aim afL);have HKy:=hd' (HKx.o'.trans hkk);have hzy:=fA hzx hkk.size;have akz:=fA aim hkk.size;have HRy:=hd' hrr;clear hkk hrr;dsimp only;go_wp2_with fail
    --refs.All has answered:W7,hb;HKy HZy HAy facts of the world before it
    refine(abl _ true _ ?_).mono ?_
    ·(rw[bV];omega)
    rintro e W7 ⟨rfl,hb⟩;have HZz:=hd' (ic HZy.o' hb hzy);have HAz:=hd' (ic HAy.o' hb akz);have HKz:=hd' (dU HKy.o' hb);obtain⟨⟨q0,q1⟩,f0,f1⟩:=ni HZz.o';obtain⟨⟨a0,a1⟩,b0,b1⟩:=ni HAz.o';have HRz:=hd' (HRy.o'.below hb HRy.o'.lt);clear hb;rw[bT];dsimp only;go_wp2_with fail
    refine bU (iI rfl _ _ w.heap.size _ _ _ _ rfl (Db (fI HZz.o' amM) _ _) KP rfl zV) rfl ?_;refine⟨xA (HKz.o'.set (.inr hwA) _) (ay _) _ _,λh=>absurd h hjs,λh=>⟨λh6=>absurd H61.o' h6,λ_=>⟨λhv=>(by cases Kq.o'.symm.trans hv),λv' r' hv=> ?_⟩⟩⟩;cases Kq.o'.symm.trans hv;exact⟨rfl,UT (HRz.o'.kept (eG _ _ _ _ (λe=>afL e.symm))) (λe=>hne e.symm) _ _⟩
  ·have aqa:((s[j].toNat:Int) !=61)=true:=by
    rw[bne,show((61:Int))=(((61:ax).toNat:Nat):Int)from rfl,<-ueq];simpa using VV
   have H61:=hd' VV;clear VV;refine bX (by kernel_rfl) (by kernel_rfl) ?_
   repeat
    with_reducible refine jW (λK hK=> ?_)
    first
     |(with_reducible apply gK
       ·rfl
       ·intro wq hC;have Q5:=aM hC.o' hd0;have Lx:=aM hC.o' hd1;unfold Oper.quietAt;go_simp
        (with_reducible rfl))
    simp only[Act.put,dV,dF,dK];refine hK _ ?_;clear hK K
   with_reducible refine jX ?_
   intro wq HQ;have Q5:=aM HQ.o' hd0;have Lx:=aM HQ.o' hd1;have HZ9:=hd' (ic HZ8.o' HQ.o' hz8);have HA9:=hd' (ic HA8.o' HQ.o' ain);have HK9:=hd' (dU HK8.o' HQ.o');have HR9:=hd' (HR8.o'.below HQ.o' HR8.o'.lt);obtain⟨⟨q0,q1⟩,f0,f1⟩:=ni HZ9.o';obtain⟨⟨a0,a1⟩, -⟩:=ni HA9.o';clear hd0 hd1 HQ HZ8 HA8 HK8 HR8;go_wp2_with fail
   refine bU (iI rfl _ _ w.heap.size _ _ _ _ rfl (Db HZ9.o' _ _) KP rfl zV) rfl ?_;exact⟨xA HK9.o' (ay _) _ _,λh=>absurd h hjs,λh=>⟨λ_=>⟨rfl,UT HR9.o' (λe=>hne e.symm) _ _⟩,λh6=>absurd h6 H61.o'⟩⟩
theorem adm (s:ae) (g i:Nat) (w:af) (hr:Row w g (pF s i)) (hi:i<s.size) (hs:s.size<=4294967280) (ha:wD (s.toList.drop i)=none) :
 Calls prog 139 #[.pointer (some ⟨g,0,none⟩)] w λe w'=>(∃a1 a2,e= .returned (.tuple #[.agg #[.string a1,.string a2],.bool false]))/\az (Only g) w w':=by
 rw[jT s i hi]at ha;simp only[wD]at ha;rcases pV LZ (s.toList.drop (i+1))with⟨hu,_⟩|⟨k,hk,hu,_⟩
 ·exact agz s g i w hr hi hs hu
 ·rw[hu]at ha;rw[dN,aR]at hk;rw[BL]at hu ha;obtain⟨n,hn,hd,h4,h5⟩:=BU s (i+1+k) (by omega);simp only[hd]at ha;rcases lG (i+1+k+n) s.size with hlt|hge
  ·rw[jT s _ hlt]at ha;simp only at ha;by_cases VV:s[i+1+k+n]=61
   ·rw[au VV]at ha
    have hv:mD (s.toList.drop (i+1+k+n+1))=none:=by
     cases h:mD (s.toList.drop (i+1+k+n+1))with
     |none=>rfl
     |some p=>rw[h]at ha;cases ha
    exact(Dz s g i k n _ w hr hi hs (by omega) hu rfl (by omega) h4 λh=>h5 _ _ (jT s _ h)).mono λe w' ⟨q1,_,q3⟩=>⟨((q3 hlt).2 VV).1 hv,q1⟩
   ·rw[aj VV]at ha;cases ha
  ·exact(Dz s g i k n _ w hr hi hs (by omega) hu rfl (by omega) h4 λh=>h5 _ _ (jT s _ h)).mono λe w' ⟨q1,q2,_⟩=>⟨q2 (by omega),q1⟩
theorem aiS (s:ae) (g i:Nat) (nm vl r:bH) (w:af) (hr:Row w g (pF s i)) (hi:i<s.size) (hs:s.size<=4294967280) (ha:wD (s.toList.drop i)=some ((nm,vl),r)) :
 Calls prog 139 #[.pointer (some ⟨g,0,none⟩)] w λe w'=>e= .returned (.tuple #[.agg #[.string (bA nm),.string (bA vl)],.bool true])/\Row w' g (pF s (s.size-r.length))/\az (Only g) w w':=by
 rw[jT s i hi]at ha;simp only[wD]at ha;rcases pV LZ (s.toList.drop (i+1))with⟨hu,_⟩|⟨k,hk,hu,_⟩
 ·rw[hu]at ha;cases ha
 ·rw[hu]at ha;rw[dN,aR]at hk;rw[BL]at hu ha;obtain⟨n,hn,hd,h4,h5⟩:=BU s (i+1+k) (by omega);simp only[hd]at ha;rcases lG (i+1+k+n) s.size with hlt|hge
  ·have hl:=jT s _ hlt;rw[hl]at ha;simp only at ha;by_cases VV:s[i+1+k+n]=61
   ·rw[au VV]at ha;cases hv:mD (s.toList.drop (i+1+k+n+1))with
    |none=>rw[hv]at ha;cases ha
    |some p =>
     obtain⟨v,r2⟩:=p;rw[hv]at ha;simp only[sP,dQ,nP]at ha;obtain⟨⟨rfl,rfl⟩,rfl⟩:=ha;exact(Dz s g i k n _ w hr hi hs (by omega) hu rfl (by omega) h4 λh=>h5 _ _ (jT s _ h)).mono λe w' ⟨q1,_,q3⟩=>⟨(((q3 hlt).2 VV).2 v r2 hv).1,(((q3 hlt).2 VV).2 v r2 hv).2,q1⟩
   ·rw[aj VV]at ha;simp only[dQ,nP]at ha;obtain⟨⟨rfl,rfl⟩,rfl⟩:=ha
    have hlen:s.size-(s[i+1+k+n]::s.toList.drop (i+1+k+n+1)).length=i+1+k+n:=by
     rw[dB,dN,aR];omega
    rw[hlen];exact(Dz s g i k n _ w hr hi hs (by omega) hu rfl (by omega) h4 λh=>h5 _ _ (jT s _ h)).mono λe w' ⟨q1,_,q3⟩=>⟨((q3 hlt).1 VV).1,((q3 hlt).1 VV).2,q1⟩
  ·rw[iZ (by rw[aR];exact hge)]at ha;cases ha
def wL (al:List (bH×bH)):List dD:=al.map λa=>(bA a.1,bA a.2)
theorem WE (al:List (bH×bH)):(wL al).length=al.length:=by simp[wL]
theorem agA (al:List (bH×bH)) (k:Nat) (h:k<al.length) (h':k<(wL al).length):(wL al)[k]=(bA al[k].1,bA al[k].2):=by simp[wL]
theorem Ni {al:List (bH×bH)} {n:bH} (h: ∀a∈al,(a.1==n)=false):Nj al n=false:=by
 unfold Nj;rw[List.any_eq_false];intro a ha e;rw[h a ha]at e;cases e
theorem aiv (al:List (bH×bH)) (a:Option Addr) (c:Nat) (ah:ae) (w:af) (hA:At w a (bz (wL al))) (hl:al.length<=1000000) :
 Calls prog 140 #[.slice a al.length c,.string ah] w λe w'=>e= .returned (.bool (Nj al ah.toList))/\Below w.heap.size w w':=by
 have HA:=hd' hA;clear hA;obtain⟨len,hlen⟩: ∃len,len=al.length:=⟨_,rfl⟩;rw[<-hlen]at hl |-;go_enter func140,ntmps140
 go_wp2_with fail
 go_loopw [9] (λv wr=> ∃k:Nat,k<=len/\v= .int .i64 k/\Below w.heap.size w wr/\ ∀x∈al.take k,(x.1==ah.toList)=false) (λv _=>len-(intOf v).toNat)
 case atStart=>exact⟨0,bD _,rfl,aQ _ _,λx hx=>by cases hx⟩
 case round =>
  obtain⟨k,hk,rfl,hb,hno⟩:=hrel;have HB:=hd' hb;have HN:=hd' hno;clear hb hno;by_cases hlt:k<len
  ·have hka:k<al.length:=by omega
   have hkp:k<(wL al).length:=by rw[WE];exact hka
   obtain⟨b,o,rfl,hbw,hc0,hc1⟩:=pair_cells (HA.o'.below HB.o') hkp;have HP:=hd' (agA al k hka hkp);generalize (wL al)[k]=p at *;obtain⟨p1,p2⟩:=p;simp only at hc0 hc1;have hp1:p1=bA al[k].1:=(Prod.mk.inj HP.o').1;cases hcmp:(p1.toList==ah.toList)
   ·have HX:Hid ((al[k].1==ah.toList)=false):=by show _=_;rw[hp1,bT]at hcmp;exact hcmp
    clear hp1 HP;go_wp2_with fail
    go_roundw
    case rel =>
     refine⟨k+1,by omega,by go_num,HB.o'.alloc HB.o'.size _,λx hx=> ?_⟩;rw[jL hka]at hx;rcases fB.1 hx with hx|hx
     ·exact HN.o' x hx
     ·rw[dG.1 hx];exact HX.o'
    case measure=>simp[intOf];omega
   ·have HX:Hid (Nj al ah.toList=true):=by
     show _=_;rw[hp1,bT]at hcmp;exact nU.2 ⟨al[k],kH hka,hcmp⟩
    clear hp1 HP;go_wp2_with fail
    go_ret;exact⟨bJ HX.o'.symm,HB.o'.alloc HB.o'.size _⟩
  ·obtain rfl:k=len:=by omega
   go_wp2_with fail
   go_ret;exact⟨bJ (by rw[Ni λx hx=>HN.o' x (by rw[hlen,iH (ay _)];exact hx)]),HB.o'⟩
def xV (kd:Int) (nm:bH) (sl:ak) (sf:Bool):List ak:= [.int .i64 kd,.string (bA nm),sl,.bool sf,.string ⟨#[]⟩]
structure PW (w:af) (s:ae) (R C X:Nat) (i:Nat) (kd:Int) (nm:bH) (sl:ak) (sf:Bool) (al:List (bH×bH)) (u:af):Prop where
 zero:u.heap[R]?=some (.cells cu 39 (0,0))
 di:Row u C (pF s i)
 mark:Row u X (xV kd nm sl sf)
 own:u.ownsRow (X+1) 128 2 sl al.length (bz (wL al))
 below:Below w.heap.size w u
 lt:w.heap.size<=R/\R<C/\C<X/\X<u.heap.size
theorem PW.calm {w u u':af} {s:ae} {R C X i:Nat} {kd:Int} {nm:bH} {sl:ak} {sf:Bool} {al:List (bH×bH)} (h:PW w s R C X i kd nm sl sf al u) (hb:Below u.heap.size u u'):PW w s R C X i kd nm sl sf al u':=by
 have hl:=h.lt;exact⟨ic h.zero hb (by omega),h.di.below hb h.di.lt,h.mark.below hb h.mark.lt,own_below h.own hb,aK h.below hb,by have:=hb.size;omega⟩
theorem PW.moved {w u u':af} {s:ae} {R C X i j:Nat} {kd:Int} {nm:bH} {sl:ak} {sf:Bool} {al:List (bH×bH)} (h:PW w s R C X i kd nm sl sf al u) (hk:az (Only C) u u') (hr:Row u' C (pF s j)):PW w s R C X j kd nm sl sf al u':=by
 have hl:=h.lt;refine⟨fq h.zero hk (by omega) (by omega),hr,h.mark.kept (hk.block X hl.2.2.2 (by show ¬X=C;omega)),gH h.own λg hg=>hk.block g (h.own.lt g hg).2 (by show ¬g=C;have:=(h.own.lt g hg).1;omega),?_,by have:=hk.size;omega⟩;exact⟨hk.os.trans h.below.os,hk.tape.trans h.below.tape,hk.output.trans h.below.output,bY h.below.size hk.size,λk hk'=>(hk.block k (by have:=h.below.size;omega) (by show ¬k=C;omega)).trans (h.below.block k hk')⟩
theorem PW.named {w u:af} {s:ae} {R C X i:Nat} {kd:Int} {nm nm':bH} {sl:ak} {sf:Bool} {al:List (bH×bH)} (h:PW w s R C X i kd nm sl sf al u):PW w s R C X i kd nm' sl sf al (u.setCell ⟨X,1,none⟩ (.string (bA nm'))):=by
 have hl:=h.lt;refine⟨fI h.zero (by omega),h.di.kept (eG _ _ _ _ (by show C≠X;omega)),h.mark.set 1 _,gH h.own λg hg=>eG _ _ _ _ (by show g≠X;have:=(h.own.lt g hg).1;omega),h.below.setCell (by show w.heap.size<=X;omega) _,by rw[pK];exact hl⟩
theorem PW.start (w:af) (s:ae) (i:Nat) (kd:Int):PW w s w.heap.size (w.heap.size+1) (w.heap.size+1+1) i kd [] (.slice none 0 0) false []
 (((w.alloc (.cells #[.int .i64 0,.string ⟨#[]⟩,.slice none 0 0,.bool false,.string ⟨#[]⟩] 39)).alloc (.cells #[.string s,.int .i64 i] 156)).alloc (.cells #[.int .i64 kd,.string ⟨#[]⟩,.slice none 0 0,.bool false,.string ⟨#[]⟩] 39)):=by
 refine⟨?_,?_,?_,jY _ _ _ _,(((aQ w.heap.size w).alloc (ay _) _).alloc (by simp) _).alloc (by simp;omega) _,by simp⟩
 ·rw[gu _ _ (by simp;omega),gu _ _ (by simp)];exact eU _ _
 ·refine Row.kept (Row.alloc (w.alloc (.cells #[.int .i64 0,.string ⟨#[]⟩,.slice none 0 0,.bool false,.string ⟨#[]⟩] 39)) #[.string s,.int .i64 i] 156 |>λh=>by simpa[pF] using h) ?_;exact gu _ _ (by simp)
 ·have h:=Row.alloc ((w.alloc (.cells #[.int .i64 0,.string ⟨#[]⟩,.slice none 0 0,.bool false,.string ⟨#[]⟩] 39)).alloc (.cells #[.string s,.int .i64 i] 156)) #[.int .i64 kd,.string ⟨#[]⟩,.slice none 0 0,.bool false,.string ⟨#[]⟩] 39;simp at h;exact h
def amx (s:ae) (C:Nat) (v:ak) (wr:af):Nat:=match v with
 | .bool true=>1+(s.size-GY wr C)
 |_=>0
def ado (s:ae) (e:Bool) (nm:bH) (T:Option (List (bH×bH)×Bool×bH)):pq×Int×Int:=match T with
 |none=>(zU 0, -1,0)
 |some (al,sl,r2)=>if e then(⟨3,nm,[],false,[]⟩,(s.size:Int)-r2.length,0)else if 8<al.length then(zU 0,(s.size:Int)-r2.length,42)else(⟨2,nm,al,sl,[]⟩,(s.size:Int)-r2.length,0)
theorem ab7 (s:ae) (e:Bool):dI s.toList e=match fH BV (s.toList.drop (if e then 2 else 1))with
 |none=>ado s e [] none
 |some (nm,r)=>ado s e (kK nm) (mO [] r):=by
 unfold dI ado;rw[aR];cases fH BV (s.toList.drop (if e then 2 else 1))with
 |none=>rfl
 |some q =>
  obtain⟨nm,r⟩:=q;cases h:mO [] r with
  |none=>simp only[h]
  |some q=>simp only[h]
def ED (l:bH):Bool:=l.getLast?==some 47
theorem X0 (l:bH) (k:Nat) (h:k<l.length):ED (l.take (k+1))=((l[k].toNat:Int)==47):=by
 unfold ED;rw[jL h,QQ];show(some l[k]==some 47)=_;rw[show((47:Int))=(((47:ax).toNat:Nat):Int)from rfl,<-ueq];rfl
theorem abJ {al:List (bH×bH)} {r:bH} (h:r.dropWhile zL= []):mO al r=none:=by
 rw[mO];split
 ·rfl
 ·rename_i c r1 he;rw[h]at he;cases he
theorem Ul {al:List (bH×bH)} {r r1:bH} (h:r.dropWhile zL=62::r1):mO al r=some (al,ED (r.takeWhile zL),r1):=by
 rw[mO];split
 ·rename_i he;rw[h]at he;cases he
 ·rename_i c r2 he;rw[h]at he;cases he;rw[au rfl];rfl
theorem abK {al:List (bH×bH)} {r r1:bH} {c:ax} (h:r.dropWhile zL=c::r1) (hc:c≠62) (ha:wD (c::r1)=none):mO al r=none:=by
 rw[mO];split
 ·rfl
 ·rename_i d r2 he;rw[h]at he;cases he;rw[aj hc,ha]
theorem XP {al:List (bH×bH)} {r r1 r2:bH} {c:ax} {a:bH×bH} (h:r.dropWhile zL=c::r1) (hc:c≠62) (ha:wD (c::r1)=some (a,r2)):mO al r=mO (if Nj al a.1 then al else al++ [a]) r2:=by
 have hl:=Jw ha;have hl2:=kP zL r;rw[h]at hl2;rw[mO];split
 ·rename_i he;rw[h]at he;cases he
 ·rename_i d r3 he;rw[h]at he;cases he;rw[aj hc,ha];simp only;rw[au (by omega)]
theorem ji {w:af} {base base':Nat} {t:TypeId} {size:Nat} {v:ak} {n:Nat} {xs:List ak} (h:w.ownsRow base t size v n xs) (hb:base'<=base):w.ownsRow base' t size v n xs :=
 ⟨h.1,h.2.imp id λ⟨g,cap,di,h1,h2,r⟩=>⟨g,cap,di,h1,bY hb h2,r⟩⟩
theorem nZ {W:af} {g k:Nat} (hg:k≠g) (v0 v1 v2 v3 v4:ak):(wI W g v0 v1 v2 v3 v4).heap[k]?=W.heap[k]?:=by
 unfold wI;rw[eG _ _ _ _ hg,eG _ _ _ _ hg,eG _ _ _ _ hg,eG _ _ _ _ hg,eG _ _ _ _ hg]
theorem EK {W w:af} {g:Nat} (h:Below w.heap.size w W) (hg:w.heap.size<=g) (v0 v1 v2 v3 v4:ak):Below w.heap.size w (wI W g v0 v1 v2 v3 v4) :=
 ((((h.setCell hg _).setCell hg _).setCell hg _).setCell hg _).setCell hg _
theorem RY {w u u':af} {C:Nat} (hb:Below w.heap.size w u) (hk:az (Only C) u u') (hC:w.heap.size<=C):Below w.heap.size w u' :=
 ⟨hk.os.trans hb.os,hk.tape.trans hb.tape,hk.output.trans hb.output,bY hb.size hk.size,λk hk'=>(hk.block k (by have:=hb.size;omega) (by show ¬k=C;omega)).trans (hb.block k hk')⟩
theorem PW.above {w u u':af} {s:ae} {R C X i A:Nat} {kd:Int} {nm:bH} {sl:ak} {sf:Bool} {al:List (bH×bH)} (h:PW w s R C X i kd nm sl sf al u) (hX:X<A) (_:A<=u.heap.size) (hown: ∀g,sl.ownBlock=some g->g<A) (hb:Below A u u'):PW w s R C X i kd nm sl sf al u':=by
 have hl:=h.lt;have hsz:=hb.size;exact⟨(hb.block R (by omega)).trans h.zero,h.di.kept (hb.block C (by omega)),h.mark.kept (hb.block X hX),gH h.own λg hg=>hb.block g (hown g hg),h.below.trans ⟨hb.os,hb.tape,hb.output,hb.size,λk hk=>hb.block k (by omega)⟩,by omega⟩
theorem WC {s r:bH} {a:bH×bH} (h:wD s=some (a,r)):r <:+s:=by
 cases s with
 |nil=>cases h
 |cons c s =>
  simp only[wD]at h;split at h
  ·cases h
  ·rename_i t r2 hu;have h1:=qL hu;have h2:r2.dropWhile je <:+r2:=QU _;have h3:r2 <:+c::s:=h1.1.trans (vL c s);split at h
   ·cases h
   ·rename_i d r4 he;rw[he]at h2;split at h
    ·cases hv:mD r4 with
     |none=>rw[hv]at h;cases h
     |some p =>
      rw[hv]at h;simp only[sP,dQ,nP]at h;rw[<-h.2];exact(DV hv).trans ((vL d r4).trans (h2.trans h3))
    ·simp only[dQ,nP]at h;rw[<-h.2];exact h2.trans h3
theorem PW.still {w u u':af} {s:ae} {R C X i:Nat} {kd:Int} {nm:bH} {sl:ak} {sf:Bool} {al:List (bH×bH)} (h:PW w s R C X i kd nm sl sf al u) (hg:u.grownBy u' sl.ownBlock) {k:Nat} (hk:k<=X):u'.heap[k]?=u.heap[k]? :=
 hg.block k (by have:=h.lt;omega) λe=>by have:=(h.own.lt k e.symm).1;omega
theorem PW.pushed {w u u':af} {s:ae} {R C X i:Nat} {kd:Int} {nm:bH} {sl v':ak} {sf:Bool} {al al':List (bH×bH)} (h:PW w s R C X i kd nm sl sf al u) (hg:u.grownBy u' sl.ownBlock) (hown:u'.ownsRow (X+1) 128 2 v' al'.length (bz (wL al'))):PW w s R C X i kd nm v' sf al' (u'.setCell ⟨X,2,none⟩ v'):=by
 have hl:=h.lt;refine⟨fI ((h.still hg (by omega)).trans h.zero) (by omega),(h.di.kept (h.still hg (by omega))).kept (eG _ _ _ _ (by show C≠X;omega)),(h.mark.kept (h.still hg (ay _))).set 2 v',gH hown λg hg'=>eG _ _ _ _ (by show g≠X;have:=(hown.lt g hg').1;omega),?_,by rw[pK];have:=hg.size;omega⟩;refine(h.below.trans ⟨hg.os,hg.tape,hg.output,hg.size,λk hk=>h.still hg (by omega)⟩:Below w.heap.size w u').setCell (by show w.heap.size<=X;omega) _
theorem wS:(prog.info? 128).map (λi=>(i.zero,i.size,i.bytes))=some (some (.agg #[.string ⟨#[]⟩,.string ⟨#[]⟩]),2,32):=by kernel_rfl
theorem aeW {w:af} {g:Nat} (hg:g=w.heap.size) (x y:ak) (e:TypeId): ∀j u,[x,y][j]?=some u->(w.alloc (.cells #[x,y] e)).cell? ((⟨g,0,none⟩:Addr).add j)=some u:=by
 subst hg;exact cell_two_new w x y e
theorem aht (p:dD): ∀u∈ [Value.string p.1,Value.string p.2],u.oneCell'=true:=by
 intro u h;simp only[dS,mY,nO]at h;rcases h with rfl|rfl <;>rfl
theorem adn (al:List (bH×bH)) (a:bH×bH):bz (wL (al++ [a]))=bz (wL al)++ [.string (bA a.1),.string (bA a.2)]:=by
 unfold wL;rw[Lf,Oo];rfl
theorem ab6 (s:ae) (e:Bool) (w:af) (hs:s.size<=1000000) (h2:(if e then 2 else 1)<=s.size) :
 Calls prog 81 #[.string s,.bool e] w λr w'=> ∃sl,r= .returned (.tuple #[nz sl (dI s.toList e).1,.int .i64 (dI s.toList e).2.1,.int .i64 (dI s.toList e).2.2])/\w'.ownsRow w.heap.size 128 2 sl (dI s.toList e).1.aA.length (bz (wL (dI s.toList e).1.aA))/\Below w.heap.size w w':=by
 obtain⟨p,hp⟩: ∃p,p=dI s.toList e:=⟨_,rfl⟩;rw[<-hp];rw[ab7]at hp;cases e
 all_goals
  first
  |have hg:(if false then 2 else 1)<=s.size:=h2
   simp only[gQ,dM]at hp h2;have HW:=hd' (PW.start w s 1 2);rw[show((1:Nat):Int)=1 from rfl]at HW;go_enter func81,ntmps81
   go_wp2_with fail
   generalize (((w.alloc (.cells #[.int .i64 0,.string ⟨#[]⟩,.slice none 0 0,.bool false,.string ⟨#[]⟩] 39)).alloc (.cells #[.string s,.int .i64 1] 156)).alloc (.cells #[.int .i64 2,.string ⟨#[]⟩,.slice none 0 0,.bool false,.string ⟨#[]⟩] 39))=W0 at *;generalize hC:w.heap.size+1=C at *;generalize hX:C+1=X at *;clear hC hX;obtain⟨i0,hi0⟩: ∃i0,i0=1:=⟨_,rfl⟩;obtain⟨kd,hkd⟩: ∃kd:Int,kd=2:=⟨_,rfl⟩
  |simp only[dY]at hp h2
   have HW:=hd' (PW.start w s 2 3);rw[show((2:Nat):Int)=2 from rfl]at HW;go_enter func81,ntmps81
   go_wp2_with fail
   generalize (((w.alloc (.cells #[.int .i64 0,.string ⟨#[]⟩,.slice none 0 0,.bool false,.string ⟨#[]⟩] 39)).alloc (.cells #[.string s,.int .i64 2] 156)).alloc (.cells #[.int .i64 3,.string ⟨#[]⟩,.slice none 0 0,.bool false,.string ⟨#[]⟩] 39))=W0 at *;generalize hC:w.heap.size+1=C at *;generalize hX:C+1=X at *;clear hC hX;obtain⟨i0,hi0⟩: ∃i0,i0=2:=⟨_,rfl⟩;obtain⟨kd,hkd⟩: ∃kd:Int,kd=3:=⟨_,rfl⟩
  rw[<-hi0]at hp h2 HW;rw[<-hkd]at HW;have HKD:=hd' hkd;clear hi0 hkd;rcases pV BV (s.toList.drop i0)with⟨hu,_⟩|⟨k,hk,hu,_⟩
  ·rw[hu]at hp;simp only at hp;obtain⟨T,hT⟩: ∃T:Option (List (bH×bH)×Bool×bH),T=none:=⟨_,rfl⟩;rw[<-hT]at hp;obtain⟨PD,hnm⟩: ∃PD:bH,PD= []:=⟨_,rfl⟩;rw[<-hnm]at hp;have HP:=hd' hp;refine(FF s ⟨#[9,10,12,32,47,62]⟩ C i0 W0 HW.o'.di h2 (by omega) (by decide) (xU (l:=BV) (by decide)) (by decide) (by rw[dZ (⟨#[9,10,12,32,47,62]⟩:ae)];exact hu)).mono ?_;rintro r W1 ⟨rfl,hb⟩;replace HW:=hd' (HW.o'.calm hb);clear hb hu hp;dsimp only;go_wp2_with fail
   refine(rZ ⟨#[]⟩ _ (by decide)).mono ?_;rintro r W2 ⟨rfl,hb⟩;replace HW:=hd' (HW.o'.calm hb);rw[show kK (⟨#[]⟩:ae).toList=PD from by rw[hnm,dZ];rfl];have hf1:W2.frozen? ⟨X,1,none⟩=false:=HW.o'.mark.frozen (j:=1) (by simp[xV]);have hx1:W2.cell? ⟨X,1,none⟩=some (.string (bA [])):=HW.o'.mark.cell (j:=1) rfl;clear hb hnm;dsimp only;go_wp2_with fail
   clear hf1 hx1;have HZ0:=hd' (HW.o'.named (nm':=PD)).zero;have HB0:=hd' (HW.o'.named (nm':=PD)).below;have HTN:=hd' hT;clear hT HW;go_loopw [10] (λv wr=>v= .bool false/\wr.heap[w.heap.size]?=some (.cells cu 39 (0,0))/\Below w.heap.size w wr) (λ_ _=>0)
   case atStart=>exact⟨rfl,HZ0.o',HB0.o'⟩
   case round =>
    obtain⟨rfl,hz,hb⟩:=hrel;have HZ:=hd' hz;have HB:=hd' hb;clear hz hb
    --no end:the result stays Fx it was
    obtain⟨⟨q0,q1,q2,q3,q4⟩,f0,f1,f2,f3,f4⟩:=eY HZ.o';go_wp2_with fail
    refine bU (bE rfl _ _ w.heap.size _ _ _ _ rfl (eD HZ.o' _ _ _ _ _) fG rfl bP) rfl ?_;rw[HP.o',HTN.o'];exact⟨.slice none 0 0,iR rfl,jY _ _ _ _,(((((HB.o'.setCell (ay _) _).setCell (ay _) _).setCell (ay _) _).setCell (ay _) _).setCell (ay _) _)⟩
  ·rw[hu]at hp;simp only at hp;rw[dN,aR]at hk;rw[BL]at hu hp;obtain⟨t,ht⟩: ∃t:bH,t=(s.toList.drop i0).take k:=⟨_,rfl⟩;obtain⟨T,hT⟩: ∃T:Option (List (bH×bH)×Bool×bH),T=mO [] (s.toList.drop (i0+k)):=⟨_,rfl⟩;rw[<-hT,<-ht]at hp;obtain⟨PD,hnm⟩: ∃PD:bH,PD=kK t:=⟨_,rfl⟩;rw[<-hnm]at hp;have HP:=hd' hp;have htl:t.length<=s.size:=by rw[ht,fV,dN,aR];omega
   refine(CR s ⟨#[9,10,12,32,47,62]⟩ C i0 k W0 HW.o'.di (by omega) (by omega) (by decide) (xU (l:=BV) (by decide)) (by decide) (by rw[dZ (⟨#[9,10,12,32,47,62]⟩:ae)];exact hu)).mono ?_;rw[<-ht];rintro r W1 ⟨rfl,hrr,hkk⟩;replace HW:=hd' (HW.o'.moved hkk hrr);clear hrr hkk hu hp ht;dsimp only;go_wp2_with fail
   refine(rZ (bA t) _ (by rw[bV];unfold maxLen;omega)).mono ?_;rintro r W2 ⟨rfl,hb⟩;replace HW:=hd' (HW.o'.calm hb);rw[show kK (bA t).toList=PD from by rw[hnm,bT]];have hf1:W2.frozen? ⟨X,1,none⟩=false:=HW.o'.mark.frozen (j:=1) (by simp[xV]);have hx1:W2.cell? ⟨X,1,none⟩=some (.string (bA [])):=HW.o'.mark.cell (j:=1) rfl;clear hb hnm;dsimp only;go_wp2_with fail
   clear hf1 hx1
   have HIN:Hid ((∃(i:Nat) (al:List (bH×bH)) (sl:ak),(Value.bool true)= .bool true/\i<=s.size/\al.length<=i/\PW w s w.heap.size C X i kd PD sl false al (W2.setCell ⟨X,1,none⟩ (.string (bA PD)))/\mO al (s.toList.drop i)=T)\/((Value.bool true)= .bool false/\T=none/\(W2.setCell ⟨X,1,none⟩ (.string (bA PD))).heap[w.heap.size]?=some (.cells cu 39 (0,0))/\Below w.heap.size w (W2.setCell ⟨X,1,none⟩ (.string (bA PD))))) :=
    .inl ⟨i0+k,[],_,rfl,by omega,bD _,HW.o'.named,hT.symm⟩
   clear hT HW
   --HW:PW ..at the loop;HIN:(ok and the text's rest) or the end
   go_loopw [10] (λv wr=>(∃(i:Nat) (al:List (bH×bH)) (sl:ak),v= .bool true/\i<=s.size/\al.length<=i/\PW w s w.heap.size C X i kd PD sl false al wr/\mO al (s.toList.drop i)=T)\/(v= .bool false/\T=none/\wr.heap[w.heap.size]?=some (.cells cu 39 (0,0))/\Below w.heap.size w wr)) (λv wr=>amx s C v wr)
   case atStart=>exact HIN.o'
   case round =>
    rcases hrel with⟨i,al,sl,rfl,his,hal,hw,hT⟩|⟨rfl,hT,hz,hb⟩
    ·have HW:=hd' hw;have HT:=hd' hT;have HCO:=hd' (sD hw.di);obtain⟨n,hn,htw,hdw,hg1,hg2⟩:=BN zL (s.toList.drop i);have HTW:=hd' htw;clear htw;rw[dN,aR]at hn;rw[BL]at hdw hg2;clear hw hT;obtain⟨wo,rfl⟩: ∃wo:af,wo=wr:=⟨_,rfl⟩;go_wp2_with fail
     go_loopw [11] (λv wi=> ∃k:Nat,k<=n/\v= .bool (ED ((s.toList.drop i).take k))/\PW w s w.heap.size C X (i+k) kd PD sl false al wi) (λ_ wi=>s.size-GY wi C)
     case atStart=>exact⟨0,bD _,rfl,HW.o'⟩
     case round =>
      obtain⟨k,hk,rfl,hw⟩:=hrel;obtain⟨j,hj⟩: ∃j,j=i+k:=⟨_,rfl⟩;rw[<-hj]at hw;have hc1:wr.cell? ⟨C,1,none⟩=some (.int .i64 j):=hw.di.cell (j:=1) rfl;have hf1:wr.frozen? ⟨C,1,none⟩=false:=hw.di.frozen (j:=1) (by simp[pF]);have HCA:=hd' (sD hw.di);have HJ:=hd' hj;clear HW;have HW:=hd' hw;clear hw;by_cases hjs:j<s.size
      ·have Sd:(j:Int)<(s.size:Int):=by omega
       have hat:=jT s j hjs;have hjb:((j:Int)==(s.size:Int))=false:=by rw[aV];omega
       have hu:=s[j].toNat_lt;have hsp:=λu=>IM s[j] u
       have Kl:zL s[j]=(je s[j]||((s[j].toNat:Int)==47)):=by
        unfold zL;rw[show((47:Int))=(((47:ax).toNat:Nat):Int)from rfl,<-ueq]
       by_cases hkn:k<n
       ·have hgt:zL s[j]=true:=by
         refine hg1 _ ?_
         have:((s.toList.drop i).take n)[k]?=some s[j]:=by
          rw[Lj hkn,List.getElem?_drop,<-hj,dZ,yQ s j hjs]
         exact El this
        rw[hgt]at Kl
        have HSL:Hid (ED ((s.toList.drop i).take (k+1))=((s[j].toNat:Int)==47)):=by
         show _=_;have hlen:k<(s.toList.drop i).length:=by rw[dN,aR];omega
         rw[X0 _ k hlen,List.getElem_drop];simp only[<-hj];rw[byte_at s j hjs]
        cases h47:((s[j].toNat:Int)==47)
        ·rw[h47,Ad]at Kl;rw[<-Kl]at hsp;have KL:=hd' hsp;rw[h47]at HSL;clear hsp hat Kl hgt hj hg1 hg2;go_wp2_with (go_at_call 138;refine(KL.o' _).mono ?_;rintro e wx ⟨rfl,rfl⟩)
         go_roundw
         case rel =>
          have hj:=HJ.o';refine⟨k+1,by omega,by rw[HSL.o'],?_⟩;have h:=HW.o'.di.set 1 (.int .i64 ((j:Int)+1));rw[ry s j (i+(k+1)) (by omega)]at h;exact HW.o'.moved (bM (az.refl _ _) _) h
         case measure =>
          have h:=HW.o'.di.set 1 (.int .i64 ((j:Int)+1));rw[ry s j (j+1) (by omega)]at h;rw[HCA.o',sD h];omega
        ·rw[h47]at HSL;generalize je s[j]=sp at *;have KL:=hd' hsp;clear hsp hat Kl hgt hj hg1 hg2;go_wp2_with (go_at_call 138;refine(KL.o' _).mono ?_;rintro e wx ⟨rfl,rfl⟩)
         all_goals
          go_roundw
          case rel =>
           have hj:=HJ.o';refine⟨k+1,by omega,by rw[HSL.o'],?_⟩;have h:=HW.o'.di.set 1 (.int .i64 ((j:Int)+1));rw[ry s j (i+(k+1)) (by omega)]at h;exact HW.o'.moved (bM (az.refl _ _) _) h
          case measure =>
           have h:=HW.o'.di.set 1 (.int .i64 ((j:Int)+1));rw[ry s j (j+1) (by omega)]at h;rw[HCA.o',sD h];omega
       ·obtain rfl:k=n:=by omega
        have hgf:zL s[j]=false:=hg2 _ _ (by rw[<-hj];exact hat);rw[hgf]at Kl;have hsb:je s[j]=false:=by cases h:je s[j] <;>rw[h]at Kl <;>(cases Kl)
        have h47:((s[j].toNat:Int)==47)=false:=by cases h:((s[j].toNat:Int)==47) <;>rw[h]at Kl <;>(rw[sU]at Kl;cases Kl)
        rw[hsb]at hsp;have KL:=hd' hsp;have HDW:=hd' (show(s.toList.drop i).dropWhile zL=s[j]::s.toList.drop (j+1)from by rw[hdw,<-hj];exact hat);clear hsp Kl hgf hsb hg1 hg2 hdw hat hj;by_cases h62:s[j]=62
        ·have ap':((s[j].toNat:Int)==62)=true:=by rw[h62];decide
         have HTC:Hid (T=some (al,ED ((s.toList.drop i).take k),s.toList.drop (j+1))):=by
          show _=_;rw[<-HT.o',Ul (by rw[HDW.o',h62]),HTW.o']
         first
         |have hg:kd=2:=HKD.o'
          have hx2:wr.cell? ⟨X,2,none⟩=some sl:=HW.o'.mark.cell (j:=2) rfl;have hx3:wr.cell? ⟨X,3,none⟩=some (.bool false):=HW.o'.mark.cell (j:=3) rfl;have au':wr.frozen? ⟨X,3,none⟩=false:=HW.o'.mark.frozen (j:=3) (by simp[xV]);obtain⟨a,c,rfl, -⟩:=fJ HW.o'.own;have hlt:=HW.o'.lt;have hXC:C≠X:=by omega
          have hXR:w.heap.size≠X:=by omega
          obtain⟨⟨q0,q1,q2,q3,q4⟩,f0,f1,f2,f3,f4⟩:=eY HW.o'.zero;have hpj:(s.size:Int)-((s.toList.drop (j+1)).length:Nat)=((j+1:Nat):Int):=by rw[dN,aR];omega
          clear h62;by_cases h8:8<al.length
          ·have h8b:(8:Int)<(al.length:Int):=by omega
           go_wp2_with (go_at_call 138;refine(KL.o' _).mono ?_;rintro e wx ⟨rfl,rfl⟩)
           go_region
           go_wp2_with fail
           have HPC:Hid (p=(zU 0,(((j+1:Nat):Int)),42)):=by
            show _=_;rw[HP.o',HTC.o'];unfold ado;simp only[gQ,dM];rw[au h8,hpj]
           refine bU (bE rfl _ _ w.heap.size _ _ _ _ rfl (qA (eD (fI HW.o'.zero hXR) _ _ _ _ _)) fG rfl bP) rfl ?_;rw[HPC.o'];exact⟨.slice none 0 0,iR rfl,jY _ _ _ _,(EK (HW.o'.below.setCell (by show w.heap.size<=X;omega) _) (ay _) _ _ _ _ _).drew⟩
          ·have h8b: ¬(8:Int)<(al.length:Int):=by omega
           go_wp2_with (go_at_call 138;refine(KL.o' _).mono ?_;rintro e wx ⟨rfl,rfl⟩)
           have hx0:wr.cell? ⟨X,0,none⟩=some (.int .i64 kd):=HW.o'.mark.cell (j:=0) rfl;have hx1:wr.cell? ⟨X,1,none⟩=some (.string (bA PD)):=HW.o'.mark.cell (j:=1) rfl;have hx4:wr.cell? ⟨X,4,none⟩=some (.string ⟨#[]⟩):=HW.o'.mark.cell (j:=4) rfl;go_region
           go_wp2_with fail
           have HPC:Hid (p=(⟨2,PD,al,ED ((s.toList.drop i).take k),[]⟩,(((j+1:Nat):Int)),0)):=by
            show _=_;rw[HP.o',HTC.o'];unfold ado;simp only[gQ,dM];rw[aj h8,hpj]
           refine bU (bE rfl _ _ w.heap.size _ _ _ _ rfl (qA (eD (fI HW.o'.zero hXR) _ _ _ _ _)) fG rfl bP) rfl ?_;rw[HPC.o'];obtain rfl:kd=2:=HKD.o';refine⟨.slice a al.length c,iR rfl,?_,(EK (HW.o'.below.setCell (by show w.heap.size<=X;omega) _) (ay _) _ _ _ _ _).drew⟩;refine ji (base:=X+1) (gH HW.o'.own λg hg=> ?_) (by omega);have hgl:=(HW.o'.own.lt g hg).1;rw[Fe,nZ (by omega),eG _ _ _ _ (by show g≠X;omega)]
         |have hx1:wr.cell? ⟨X,1,none⟩=some (.string (bA PD)):=HW.o'.mark.cell (j:=1) rfl
          have hlt:=HW.o'.lt;obtain⟨⟨q0,q1,q2,q3,q4⟩,f0,f1,f2,f3,f4⟩:=eY HW.o'.zero;have hpj:(s.size:Int)-((s.toList.drop (j+1)).length:Nat)=((j+1:Nat):Int):=by rw[dN,aR];omega
          clear h62;go_wp2_with (go_at_call 138;refine(KL.o' _).mono ?_;rintro e wx ⟨rfl,rfl⟩)
          go_region
          go_wp2_with fail
          have HPC:Hid (p=(⟨3,PD,[],false,[]⟩,(((j+1:Nat):Int)),0)):=by
           show _=_;rw[HP.o',HTC.o'];unfold ado;simp only[dY];rw[hpj]
          refine bU (bE rfl _ _ w.heap.size _ _ _ _ rfl (qA (eD HW.o'.zero _ _ _ _ _)) fG rfl bP) rfl ?_;rw[HPC.o'];exact⟨.slice none 0 0,iR rfl,jY _ _ _ _,(EK HW.o'.below (ay _) _ _ _ _ _).drew⟩
        ·have ap':((s[j].toNat:Int)==62)=false:=by
          rw[show((62:Int))=(((62:ax).toNat:Nat):Int)from rfl,<-ueq];simpa using h62
         have hij:i<=j:=by have:=HJ.o';omega
         obtain⟨A,hA⟩: ∃A,A=wr.heap.size:=⟨_,rfl⟩;have HA0:=hd' (eU wr (.cells #[.string ⟨#[]⟩,.string ⟨#[]⟩] 128));have zb:=hd' (HW.o'.calm ((aQ wr.heap.size wr).alloc (ay _) (.cells #[.string ⟨#[]⟩,.string ⟨#[]⟩] 128)));have hzA:wr.heap.size<(wr.alloc (.cells #[.string ⟨#[]⟩,.string ⟨#[]⟩] 128)).heap.size:=by simp
         have hlt:=HW.o'.lt;have hCR:w.heap.size≠C:=by omega
         have ajH: ∀g,sl.ownBlock=some g->g<A:=λg hg=>by rw[hA];exact(HW.o'.own.lt g hg).2
         have hXA:X<A:=by omega
         have HOA:=hd' ajH;go_wp2_with (go_at_call 138;refine(KL.o' _).mono ?_;rintro e wx ⟨rfl,rfl⟩)
         clear hc1 hf1 ajH;generalize wr.alloc (.cells #[.string ⟨#[]⟩,.string ⟨#[]⟩] 128)=wA at *;rw[<-hA]at HA0 hzA |-;clear hA;have hCA:A≠C:=by omega
         have hAR:w.heap.size≠A:=by omega
         cases ha:wD (s[j]::s.toList.drop (j+1))with
         |none =>
          have HTN:Hid (T=none):=by
           show _=_;rw[<-HT.o',abK HDW.o' h62 ha]
          refine(adm s C j wA zb.o'.di hjs (by omega) (by rw[jT s j hjs];exact ha)).mono ?_;rintro r W1 ⟨⟨a1,a2,rfl⟩,hkk⟩;have HA1:=hd' (fq HA0.o' hkk hzA hCA);have HZ1:=hd' (fq zb.o'.zero hkk (by have:=zb.o'.lt;omega) hCR);have HB1:=hd' (RY zb.o'.below hkk (by omega));obtain⟨⟨a0,a1'⟩,g0,g1⟩:=ni HA1.o';clear hkk ha;dsimp only;go_wp2_with fail
          go_roundw
          case rel=>exact .inr ⟨rfl,HTN.o',fI (fI HZ1.o' hAR) hAR,(HB1.o'.setCell (by show w.heap.size<=A;omega) _).setCell (by show w.heap.size<=A;omega) _⟩
          case measure=>simp[amx];omega
         |some q =>
          obtain⟨⟨nm',Xp⟩,r2⟩:=q;have Oc:=hd' (show T=mO (if Nj al nm' then al else al++ [(nm',Xp)]) r2 from by rw[<-HT.o',XP HDW.o' h62 ha]);have hr2:=Jw ha;rw[dB,dN,aR]at hr2;refine(aiS s C j nm' Xp r2 wA zb.o'.di hjs (by omega) (by rw[jT s j hjs];exact ha)).mono ?_;rintro r W1 ⟨rfl,hrr,hkk⟩;have HA1:=hd' (fq HA0.o' hkk hzA hCA);have HW1:=hd' (zb.o'.moved hkk hrr);have akB:=fA hzA hkk.size;obtain⟨⟨a0,a1'⟩,g0,g1⟩:=ni HA1.o'
          have HSF:=hd' (show r2=s.toList.drop (s.size-r2.length)from by
           have h:=(WC ha).trans (show(s[j]::s.toList.drop (j+1)) <:+s.toList.drop j from by rw[<-jT s j hjs];exact wZ _)
           exact abN h)
          obtain⟨j2,hj2⟩: ∃j2,j2=s.size-r2.length:=⟨_,rfl⟩;rw[<-hj2]at HW1 HSF;have hjj:j<j2:=by omega
          have akH:j2<=s.size:=by omega
          obtain⟨a,c,rfl, -⟩:=fJ HW1.o'.own;have hx2:W1.cell? ⟨X,2,none⟩=some (.slice a al.length c):=HW1.o'.mark.cell (j:=2) rfl;have apL:W1.frozen? ⟨X,2,none⟩=false:=HW1.o'.mark.frozen (j:=2) (by simp[xV]);have hAX:A≠X:=by omega
          have HW2:Hid (PW w s w.heap.size C X j2 kd PD (.slice a al.length c) false al (Ry W1 A (.string (bA nm')) (.string (bA Xp)))) :=
           HW1.o'.above hXA (lZ akB) HOA.o' (((aQ A W1).setCell (ay _) _).setCell (ay _) _ |>λh=>by
            have hs:=lZ akB
            exact⟨h.os,h.tape,h.output,h.size,h.block⟩)
          have HA2:Hid ((Ry W1 A (.string (bA nm')) (.string (bA Xp))).heap[A]?=some (.cells #[.string (bA nm'),.string (bA Xp)] 128 (0,0))):=Db HA1.o' _ _;have amD:A<(Ry W1 A (.string (bA nm')) (.string (bA Xp))).heap.size:=by simpa using akB
          have HAT:Hid (At (Ry W1 A (.string (bA nm')) (.string (bA Xp))) a (bz (wL al))):=by
           obtain⟨a',c',he, -, -, -,hat⟩:=fJ HW2.o'.own;cases he;exact hat
          clear hkk hrr ha hj2;dsimp only;go_wp2_with fail
          refine(aiv al a c (bA nm') _ HAT.o' (by omega)).mono ?_;rintro r W3 ⟨rfl,hb⟩;rw[bT];have HW3:=hd' (HW2.o'.calm hb);have HA3:=hd' (ic HA2.o' hb amD);have auH:=fA amD hb.size;clear hb;cases hh:Nj al nm'
          ·rw[hh,aj (by simp)]at Oc;clear hh;have hx2:W3.cell? ⟨X,2,none⟩=some (.slice a al.length c):=HW3.o'.mark.cell (j:=2) rfl;have apL:W3.frozen? ⟨X,2,none⟩=false:=HW3.o'.mark.frozen (j:=2) (by simp[xV]);obtain⟨⟨a0,a1'⟩,g0,g1⟩:=ni HA3.o';have HN:=hd' (aeW (w:=W3) rfl (.string (bA nm')) (.string (bA Xp)) 128);have HW4:=hd' (HW3.o'.calm ((aQ W3.heap.size W3).alloc (ay _) (.cells #[.string (bA nm'),.string (bA Xp)] 128)));have hz4:X+1<=(W3.alloc (.cells #[.string (bA nm'),.string (bA Xp)] 128)).heap.size:=by have:=HW4.o'.lt;omega
           obtain⟨i0',hi,hz0,hz1,hz2⟩:=lY wS;have hb1:al.length+1<=maxLen:=by unfold maxLen;omega
           have hb2:(al.length+1)*32<=140737488355328:=by omega
           have apX:al.length+1<=j2:=by omega
           dsimp only;go_wp2_with (at_builtin;refine wpList_append_own _ rfl _ _ 23 rfl (X+1) 128 i0' _ 2 32 BF hi hz0 hz1 hz2 rfl (by decide) _ al.length _ rfl HW4.o'.own _ 1 1 [.string (bA nm'),.string (bA Xp)] rfl rfl HN.o' (aht (bA nm',bA Xp)) hb1 hb2 hz4 ?_;intro v5 w5 hown5 hgr5 _;obtain⟨g5,cap5,hv5, -, -, -⟩:=qW hown5 (KY _);subst hv5;rw[<-adn al (nm',Xp)]at hown5;have hx5:w5.cell? ⟨X,2,none⟩=some (.slice a al.length c):=(HW4.o'.mark.kept (HW4.o'.still hgr5 (ay _))).cell (j:=2) rfl;have au9:w5.frozen? ⟨X,2,none⟩=false:=(HW4.o'.mark.kept (HW4.o'.still hgr5 (ay _))).frozen (j:=2) (by simp[xV]);have HW5:=hd' (HW4.o'.pushed (al':=al++ [(nm',Xp)]) hgr5 (by rw[fC];exact hown5));clear hown5 hgr5)
           go_roundw
           case rel=>exact .inl ⟨j2,al++ [(nm',Xp)],_,rfl,akH,by rw[fC];exact apX,HW5.o',by rw[<-HSF.o'];exact Oc.o'.symm⟩
           case measure =>
            show 1+(s.size-GY _ _)<1+(s.size-GY _ _);rw[HCO.o',sD HW5.o'.di];omega
          ·rw[hh,au rfl]at Oc;dsimp only;go_wp2_with fail
           go_roundw
           case rel=>exact .inl ⟨j2,al,_,rfl,akH,by omega,HW3.o',by rw[<-HSF.o'];exact Oc.o'.symm⟩
           case measure =>
            have hj:=HJ.o';show 1+(s.size-GY _ _)<1+(s.size-GY _ _);rw[HCO.o',sD HW3.o'.di];omega
      ·obtain rfl:k=n:=by omega
       have Sd: ¬(j:Int)<(s.size:Int):=by omega
       have hjb:((j:Int)==(s.size:Int))=true:=by rw[cO];omega
       have HTN:Hid (T=none):=by
        show _=_;rw[<-HT.o'];exact abJ (by rw[hdw,<-hj,iZ (by rw[aR];omega)])
       have HZ:=hd' HW.o'.zero;have HB:=hd' HW.o'.below;clear hdw hg1 hg2 hj
       --no end:the result stays Fx it was
       obtain⟨⟨q0,q1,q2,q3,q4⟩,f0,f1,f2,f3,f4⟩:=eY HZ.o';go_wp2_with fail
       refine bU (bE rfl _ _ w.heap.size _ _ _ _ rfl (eD HZ.o' _ _ _ _ _) fG rfl bP) rfl ?_;rw[HP.o',HTN.o'];exact⟨.slice none 0 0,iR rfl,jY _ _ _ _,(((((HB.o'.setCell (ay _) _).setCell (ay _) _).setCell (ay _) _).setCell (ay _) _).setCell (ay _) _)⟩
    ·have HZ:=hd' hz;have HB:=hd' hb;have HTN:=hd' hT;clear hz hb hT
     --no end:the result stays Fx it was
     obtain⟨⟨q0,q1,q2,q3,q4⟩,f0,f1,f2,f3,f4⟩:=eY HZ.o';go_wp2_with fail
     refine bU (bE rfl _ _ w.heap.size _ _ _ _ rfl (eD HZ.o' _ _ _ _ _) fG rfl bP) rfl ?_;rw[HP.o',HTN.o'];exact⟨.slice none 0 0,iR rfl,jY _ _ _ _,(((((HB.o'.setCell (ay _) _).setCell (ay _) _).setCell (ay _) _).setCell (ay _) _).setCell (ay _) _)⟩
theorem aeG (s:bH) (e:Bool):(dI s e).2.1<=s.length:=by
 unfold dI;split
 ·show(-1:Int)<=_;omega
 ·split
  ·show(-1:Int)<=_;omega
  ·split
   ·show(s.length:Int)-_<=_;omega
   ·split
    ·show(s.length:Int)-_<=_;omega
    ·show(s.length:Int)-_<=_;omega
def aa9 (base:Nat) (o:Out) (r:Ending) (w':af):Prop:= ∃sl,r= .returned (.tuple #[nz sl o.1,.bool o.2.1,.bool o.2.2.1])/\w'.ownsRow base 128 2 sl o.1.aA.length (bz (wL o.1.aA))
theorem tC {W:af} {g base:Nat} {t:TypeId} {size:Nat} {v:ak} {n:Nat} {xs:List ak} (h:W.ownsRow base t size v n xs) (hg:g<base) (v0 v1 v2 v3 v4:ak):(wI W g v0 v1 v2 v3 v4).ownsRow base t size v n xs :=
 gH h λk hk=>nZ (by have:=(h.lt k hk).1;omega) _ _ _ _ _
theorem ahA (m:gP) (e:Bool) (x:pq) (n er0:Int) (hp:dI (m.bn.take 2049) e=(x,n,er0)):pz m e =
 if(if n>2048\/(n<0/\2048<(m.bn.take 2049).length)then(41:Int)else er0)≠0 then(Ve,false,true,{m with dJ:=(if n>2048\/(n<0/\2048<(m.bn.take 2049).length)then(41:Int)else er0),bn:= []})
 else if n<0 then(Ve,false,true,if m.dO then {m with bn:= []}else m)
 else(x,true,false,if e then {m with bn:=m.bn.drop n.toNat,aD:=0}else {m with bn:=m.bn.drop n.toNat}):=by
 unfold pz;simp only[hp]
theorem ql {u:af} {o ob:Obj} {g:Nat} (h:u.heap[g]?=some ob):(u.alloc o).heap[g]?=some ob :=
 (gu u o (Array.getElem?_eq_some_iff.1 h).1).trans h
theorem sj {u:af} {o:Obj} {g:Nat} {xs:List ak} (h:Row u g xs):Row (u.alloc o) g xs:=h.kept (gu u o h.lt)
theorem Z7 (m:gP) (b:Nat) (e:Bool) (w:af) (hr:Row w b (eZ m)) (hl:m.bn.length<=4294967280) (h2:(if e then 2 else 1)<=m.bn.length) :
 Calls prog 49 #[.pointer (some ⟨b,0,none⟩),.bool e] w λr w'=>aa9 w.heap.size (pz m e) r w'/\Row w' b (eZ (pz m e).2.2.2)/\az (Only b) w w':=by
 have hbw:=hr.lt;have hne:w.heap.size≠b:=by omega
 obtain⟨o,ho⟩: ∃o,o=pz m e:=⟨_,rfl⟩;rw[<-ho];obtain⟨x,n,er0,Ox⟩: ∃x n er0,dI (m.bn.take 2049) e=(x,n,er0):=⟨_,_,_,rfl⟩;rw[ahA m e x n er0 Ox]at ho;have YY:=aeG (m.bn.take 2049) e;rw[Ox]at YY
 have hnl:n<=(m.bn.length:Int):=by
  have:(m.bn.take 2049).length<=m.bn.length:=by rw[fV];omega
  simp only at YY;omega
 have hz:(bA m.bn).size=m.bn.length:=bV _;obtain⟨k,hk⟩: ∃k,k=min m.bn.length 2049:=⟨_,rfl⟩;have hmin:min (m.bn.length:Int) 2049=(k:Int):=by omega
 have hkl:k<=m.bn.length:=by omega
 have htk:m.bn.take 2049=m.bn.take k:=by
  rw[hk];rcases Nat.le_total m.bn.length 2049 with h|h
  ·rw[rE h,iH h,iH (ay _)]
  ·rw[Nat.min_eq_right h]
 have hkz:(m.bn.take 2049).length=k:=by rw[htk,fV];omega
 have e1:(bA m.bn).extract 0 k=bA (m.bn.take 2049):=by rw[htk];exact FQ _ _
 have HPA:=hd' (λu=>ab6 (bA (m.bn.take 2049)) e u (by rw[bV,hkz];omega) (by rw[bV,hkz];cases e <;>simp at h2|- <;>omega))
 rw[bT,Ox]at HPA;rw[hkz]at ho;have hsz2:(bA (m.bn.take 2049)).size=k:=by rw[bV];exact hkz
 obtain⟨wa,kF⟩: ∃wa,wa=w.alloc (.cells cu 39):=⟨_,rfl⟩;have HR:=hd' (show Row wa b (eZ m)from kF▸hr.kept (gu w (.cells cu 39) hbw));have HZ:=hd' (show wa.heap[w.heap.size]?=some (.cells cu 39 (0,0))from kF▸eU _ _);have HK:=hd' (show az (Only b) w wa from kF▸(az.refl (Only b) w).alloc _);have hza:w.heap.size<wa.heap.size:=by rw[kF];simp
 have zb:Hid (wa=w.alloc (.cells #[.int .i64 0,.string ⟨#[]⟩,.slice none 0 0,.bool false,.string ⟨#[]⟩] 39)):=kF;generalize m.bn.take 2049=sb at *;clear kF hr Ox YY hk htk hkz h2;go_enter func49,ntmps49
 go_wp2_with fail
 rw[<-zb.o'];have hc0:=(dA HR.o').1;go_region
 have HR1:=hd' (qR HR.o');have HZ1:=hd' (qA HZ.o');have wE:=hd' HK.o'.drew;have hz1:w.heap.size<wa.drew.heap.size:=hza;generalize wa.drew=wb at *;clear hc0;go_wp2_with fail
 refine(HPA.o' _).mono ?_;rintro r W1 ⟨sl,rfl,hown,hb⟩;obtain⟨a,c,hsl, -⟩:=fJ hown;subst hsl;have HR2:=hd' (HR1.o'.below hb HR1.o'.lt);have HZ2:=hd' (ic HZ1.o' hb hz1);have uP:=hd' (dU wE.o' hb);have HOW:=hd' (ji hown (show w.heap.size+1<=wb.heap.size from hz1));have hz2:=fA hz1 hb.size;clear hown hb;dsimp only[nz];have hbW:=HR2.o'.lt;obtain⟨hc0, -,hc2,hc3, -, -, -, -, -,hc9⟩:=dA HR2.o';obtain⟨hf0, -, -,hf3, -, -, -, -, -,hf9⟩:=gD HR2.o';obtain⟨⟨q0,q1,q2,q3,q4⟩,f0,f1,f2,f3,f4⟩:=eY HZ2.o';by_cases hbig:n>2048\/(n<0/\2048<k)
 ·rw[au hbig,au (by decide)]at ho;have HO:=hd' ho;clear ho;rcases hbig with hb1|⟨hb1,hb2⟩
  ·go_wp2_with fail
   refine bU (bE rfl _ _ w.heap.size _ _ _ _ rfl (ql (eD (fI (fI HZ2.o' hne) hne) _ _ _ _ _)) fG rfl bP) rfl ?_;rw[HO.o'];refine⟨⟨.slice none 0 0,iR rfl,jY _ _ _ _⟩,?_,(bK (bM (bM uP.o' _) _) (ay _) _ _ _ _ _).alloc _⟩;exact sj (dz ((HR2.o'.set 9 _).set 0 (.string (bA []))) (λe=>hne e.symm) _ _ _ _ _)
  ·have hb3: ¬n>2048:=by omega
   have hb4:(2048:Int)<(k:Int):=by omega
   go_wp2_with fail
   refine bU (bE rfl _ _ w.heap.size _ _ _ _ rfl (ql (eD (fI (fI HZ2.o' hne) hne) _ _ _ _ _)) fG rfl bP) rfl ?_;rw[HO.o'];refine⟨⟨.slice none 0 0,iR rfl,jY _ _ _ _⟩,?_,(bK (bM (bM uP.o' _) _) (ay _) _ _ _ _ _).alloc _⟩;exact sj (dz ((HR2.o'.set 9 _).set 0 (.string (bA []))) (λe=>hne e.symm) _ _ _ _ _)
 ·rw[aj hbig]at ho;have hb3: ¬n>2048:=by omega
  have hb5:n<0-> ¬(2048:Int)<(k:Int):=by omega
  by_cases her:er0=0
  ·have apN:(er0==0)=true:=cO.2 her;rw[aj (λh=>h her)]at ho;by_cases hn:n<0
   ·rw[au hn]at ho;have hb6:=hb5 hn;clear hbig hb5;by_cases hcl:m.dO=true
    ·rw[au hcl]at ho;rw[hcl]at hc2;have HO:=hd' ho;clear ho hcl;go_wp2_with fail
     refine bU (bE rfl _ _ w.heap.size _ _ _ _ rfl (ql (eD (fI HZ2.o' hne) _ _ _ _ _)) fG rfl bP) rfl ?_;rw[HO.o'];refine⟨⟨.slice none 0 0,iR rfl,jY _ _ _ _⟩,?_,(bK (bM uP.o' _) (ay _) _ _ _ _ _).alloc _⟩;exact sj (dz (HR2.o'.set 0 (.string (bA []))) (λe=>hne e.symm) _ _ _ _ _)
    ·have hcl':m.dO=false:=by simpa using hcl
     rw[aj hcl]at ho;rw[hcl']at hc2;have HO:=hd' ho;clear ho hcl hcl';go_wp2_with fail
     refine bU (bE rfl _ _ w.heap.size _ _ _ _ rfl (ql (eD HZ2.o' _ _ _ _ _)) fG rfl bP) rfl ?_;rw[HO.o'];exact⟨⟨.slice none 0 0,iR rfl,jY _ _ _ _⟩,sj (dz HR2.o' (λe=>hne e.symm) _ _ _ _ _),(bK uP.o' (ay _) _ _ _ _ _).alloc _⟩
   ·rw[aj hn]at ho;obtain⟨N,hN⟩:=bQ (by omega:0<=n);subst hN;have e2:=qP m.bn N;have auP:N<=m.bn.length:=by omega
    rw[kg]at ho;clear hbig hb5;cases e
    ·have HO:=hd' ho;clear ho;go_wp2_with fail
     refine bU (bE rfl _ _ w.heap.size _ _ _ _ rfl (ql (eD (fI HZ2.o' hne) _ _ _ _ _)) fG rfl bP) rfl ?_;rw[HO.o'];refine⟨⟨.slice a x.aA.length c,iR rfl,World.ownsRow.alloc ?_ _⟩,?_,(bK (bM uP.o' _) (ay _) _ _ _ _ _).alloc _⟩
     ·exact ji (tC (gH HOW.o' λg hg=>eG _ _ _ _ (by show g≠b;have:=(HOW.o'.lt g hg).1;omega)) (Im _) _ _ _ _ _) (wY _)
     ·exact sj (dz (HR2.o'.set 0 _) (λe=>hne e.symm) _ _ _ _ _)
    ·have HO:=hd' ho;clear ho;go_wp2_with fail
     refine bU (bE rfl _ _ w.heap.size _ _ _ _ rfl (ql (eD (fI (fI HZ2.o' hne) hne) _ _ _ _ _)) fG rfl bP) rfl ?_;rw[HO.o'];refine⟨⟨.slice a x.aA.length c,iR rfl,World.ownsRow.alloc ?_ _⟩,?_,(bK (bM (bM uP.o' _) _) (ay _) _ _ _ _ _).alloc _⟩
     ·exact ji (tC (gH (gH HOW.o' λg hg=>eG _ _ _ _ (by show g≠b;have:=(HOW.o'.lt g hg).1;omega)) λg hg=>eG _ _ _ _ (by show g≠b;have:=(HOW.o'.lt g hg).1;omega)) (Im _) _ _ _ _ _) (wY _)
     ·exact sj (dz ((HR2.o'.set 0 _).set 3 _) (λe=>hne e.symm) _ _ _ _ _)
  ·have apN:(er0==0)=false:=aV.2 her;rw[au her]at ho;have HO:=hd' ho;clear ho;by_cases hn:n<0
   ·have hb6:=hb5 hn;clear hbig hb5;go_wp2_with fail
    refine bU (bE rfl _ _ w.heap.size _ _ _ _ rfl (ql (eD (fI (fI HZ2.o' hne) hne) _ _ _ _ _)) fG rfl bP) rfl ?_;rw[HO.o'];refine⟨⟨.slice none 0 0,iR rfl,jY _ _ _ _⟩,?_,(bK (bM (bM uP.o' _) _) (ay _) _ _ _ _ _).alloc _⟩;exact sj (dz ((HR2.o'.set 9 _).set 0 (.string (bA []))) (λe=>hne e.symm) _ _ _ _ _)
   ·clear hbig hb5;go_wp2_with fail
    refine bU (bE rfl _ _ w.heap.size _ _ _ _ rfl (ql (eD (fI (fI HZ2.o' hne) hne) _ _ _ _ _)) fG rfl bP) rfl ?_;rw[HO.o'];refine⟨⟨.slice none 0 0,iR rfl,jY _ _ _ _⟩,?_,(bK (bM (bM uP.o' _) _) (ay _) _ _ _ _ _).alloc _⟩;exact sj (dz ((HR2.o'.set 9 _).set 0 (.string (bA []))) (λe=>hne e.symm) _ _ _ _ _)
end Go.Proofs.YtnlbcifhedjbfaaGreatDoor.Rd
end
