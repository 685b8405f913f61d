/- oZ joined for a claim: aoF, asE, aqD, asD, asF: plain laws and contracts. No conditions beyond those that each lemma types. -/
import Derived.Test.YtnlbcifhedjbfaaGreatDoorU18
import Derived.Test.YtnlbcifhedjbfaaGreatDoorU20
import Derived.Test.YtnlbcifhedjbfaaGreatDoorU21
import Derived.Test.YtnlbcifhedjbfaaGreatDoorU22
import Derived.Test.YtnlbcifhedjbfaaGreatDoorU19
set_option linter.unusedVariables false
set_option linter.unusedSimpArgs false
set_option maxRecDepth 100000
set_option maxHeartbeats 8000000
open Go.Proofs.Tryz
section
namespace Go.Proofs.YtnlbcifhedjbfaaGreatDoor.Rd
open Mem
theorem Vv {m:gP} {s:bH}:(nK m s=3->2<=s.length)/\(nK m s=4->3<=s.length)/\(nK m s=5->4<=s.length)/\(nK m s=7->9<=s.length):=by
 have VN: ∀k,zN m s=k->(k=3->2<=s.length)/\(k=4->False)/\(k=5->False)/\(k=7->False):=λk hk=>by
  unfold zN at hk;have hu:jR m.dO 0=0\/jR m.dO 0=1:=mH m.dO 0 (.inl rfl);split at hk
  ·refine⟨λh=> ?_,λh=> ?_,λh=> ?_,λh=> ?_⟩ <;>(rcases hu with e|e <;>rw[e]at hk <;>omega)
  ·split at hk
   ·rename_i hw;have:=(yo hw.1).1;simp only[fC,dB,kQ]at this;exact⟨λ_=>by omega,λh=>by omega,λh=>by omega,λh=>by omega⟩
   ·exact⟨λh=>by omega,λh=>by omega,λh=>by omega,λh=>by omega⟩
 have am4: ∀k,Bn m s=k->(k=3->False)/\(k=4->False)/\(k=5->4<=s.length)/\(k=7->9<=s.length):=λk hk=>by
  unfold Bn at hk;have hu:jR m.dO 8=8\/jR m.dO 8=1:=mH m.dO 8 (.inr rfl);split at hk
  ·rename_i hw;have:=(yo hw).1;have h4:agm.length=4:=rfl;exact⟨λh=>by omega,λh=>by omega,λ_=>by omega,λh=>by omega⟩
  ·split at hk
   ·exact⟨λh=>by omega,λh=>by omega,λh=>by omega,λh=>by omega⟩
   ·split at hk
    ·rename_i hp;have:=(Iw.1 hp.1).length_le;have h9:Jp.length=9:=rfl;exact⟨λh=>by omega,λh=>by omega,λh=>by omega,λ_=>by omega⟩
    ·split at hk
     ·refine⟨λh=> ?_,λh=> ?_,λh=> ?_,λh=> ?_⟩ <;>(rcases hu with e|e <;>rw[e]at hk <;>omega)
     ·exact⟨λh=>by omega,λh=>by omega,λh=>by omega,λh=>by omega⟩
 have hu0:jR m.dO 0=0\/jR m.dO 0=1:=mH m.dO 0 (.inl rfl);obtain⟨k,hk⟩: ∃k,nK m s=k:=⟨_,rfl⟩;rw[hk];unfold nK at hk;split at hk
 ·obtain⟨h1,h2,h3,h4⟩:=VN k hk;exact⟨h1,λh=>(h2 h).elim,λh=>(h3 h).elim,λh=>(h4 h).elim⟩
 ·split at hk
  ·rename_i c r;split at hk
   ·exact⟨λh=>by omega,λh=>by omega,λh=>by omega,λh=>by omega⟩
   ·split at hk
    ·exact⟨λh=>by omega,λh=>by omega,λh=>by omega,λh=>by omega⟩
    ·split at hk
     ·obtain⟨h1,h2,h3,h4⟩:=am4 k hk;exact⟨λh=>(h1 h).elim,λh=>(h2 h).elim,h3,h4⟩
     ·split at hk
      ·exact⟨λh=>by omega,λh=>by omega,λh=>by omega,λh=>by omega⟩
      ·split at hk
       ·refine⟨λh=> ?_,λh=> ?_,λh=> ?_,λh=> ?_⟩ <;>(rcases hu0 with e|e <;>rw[e]at hk <;>omega)
       ·simp only[dB];split at hk
        ·exact⟨λ_=>by omega,λh=>by omega,λh=>by omega,λh=>by omega⟩
        ·split at hk
         ·exact⟨λh=>by omega,λ_=>by omega,λh=>by omega,λh=>by omega⟩
         ·exact⟨λh=>by omega,λh=>by omega,λh=>by omega,λh=>by omega⟩
  ·refine⟨λh=> ?_,λh=> ?_,λh=> ?_,λh=> ?_⟩ <;>(rcases hu0 with e|e <;>rw[e]at hk <;>omega)
theorem XH (m:gP) (s:bH) (h:(dL m s).1≠ []):(dL m s).2.1.length<s.length:=by
 cases s with
 |nil=>rw[dL]at h;exact absurd rfl h
 |cons c r =>
  have hs: ∀k,(dL m (r.drop k)).2.1.length<(c::r).length:=λk=>by
   have h1:=(xq m _ (r.drop k) (ay _)).1.length_le;rw[dN]at h1;rw[dB];omega
  rw[dL]at h |-;split at h
  ·rename_i h60;rw[au h60];split at h
   ·rename_i h0;rw[au h0];exact hs 0
   ·exact absurd rfl h
  ·rename_i h60;rw[aj h60];split at h
   ·rename_i h38;rw[au h38];split at h
    ·exact absurd rfl h
    ·rename_i hw;rw[aj hw];exact hs _
   ·rename_i h38;rw[aj h38];exact hs 0
theorem abI: ∀(n:Nat) (al:List (bH×bH)) (r:bH),r.length<=n-> ∀al' sl r',mO al r=some (al',sl,r')->r'.length<r.length:=by
 intro n
 induction n with
 |zero =>
  intro al r hn al' sl r' h;obtain rfl:r= []:=rF (by omega);rw[mO]at h;cases h
 |succ n ih =>
  intro al r hn al' sl r' h;rw[mO]at h;have h0:=kP zL r;split at h
  ·cases h
  ·rename_i c r1 he;rw[he]at h0;simp only[dB]at h0;split at h
   ·simp only[dQ,nP]at h;rw[<-h.2.2];omega
   ·split at h
    ·cases h
    ·split at h
     ·have:=ih _ _ (by omega) _ _ _ h;omega
     ·cases h
theorem Yn {s:bH} {e:Bool} (h: ¬(dI s e).2.1<0):1<=(dI s e).2.1/\(dI s e).2.1<=s.length:=by
 unfold dI at h |-;cases hu:fH BV (s.drop (if e then 2 else 1))with
 |none=>simp only[hu]at h;exact absurd (by decide:(-1:Int)<0) h
 |some q =>
  obtain⟨nm,r⟩:=q;simp only[hu]at h |-;have hl:=(kT hu).1;rw[dN]at hl;cases ht:mO [] r with
  |none=>simp only[ht]at h;exact absurd (by decide:(-1:Int)<0) h
  |some q =>
   obtain⟨al,sl,r2⟩:=q;have h2:=abI _ _ _ (ay _) _ _ _ ht;simp only[ht]at h |-;have key:1<=(s.length:Int)-(r2.length:Int)/\(s.length:Int)-(r2.length:Int)<=s.length:=by omega
   cases e
   ·simp only[gQ,dM]at h |-;split <;>exact key
   ·exact key
theorem CY {m:gP} {e:Bool} (h:(pz m e).2.1=true):(pz m e).2.2.2.gY=m.gY/\(pz m e).2.2.2.bn.length<m.bn.length:=by
 unfold pz at h |-;simp only at h |-;obtain⟨er,her⟩: ∃er,er=if(dI (m.bn.take 2049) e).2.1>2048\/((dI (m.bn.take 2049) e).2.1<0/\2048<(m.bn.take 2049).length)then(41:Int)else(dI (m.bn.take 2049) e).2.2:=⟨_,rfl⟩
 rw[<-her]at h |-;by_cases h0:er=0
 ·rw[aj (λhh=>hh h0)]at h |-;by_cases hn:(dI (m.bn.take 2049) e).2.1<0
  ·rw[au hn]at h;cases h
  ·rw[aj hn];obtain⟨p1,p2⟩:=Yn hn;rw[fV]at p2;obtain⟨N,hN⟩:=bQ (by omega:0<=(dI (m.bn.take 2049) e).2.1);rw[hN]at p1 p2 |-;have hd:(m.bn.drop N).length<m.bn.length:=by rw[dN];omega
   cases e
   ·exact⟨rfl,hd⟩
   ·exact⟨rfl,hd⟩
 ·rw[au h0]at h;cases h
theorem O8 (m:gP) (e:Bool):(pz m e).2.1=true\/(pz m e).2.2.1=true:=by
 unfold pz;simp only;obtain⟨er,her⟩: ∃er,er=if(dI (m.bn.take 2049) e).2.1>2048\/((dI (m.bn.take 2049) e).2.1<0/\2048<(m.bn.take 2049).length)then(41:Int)else(dI (m.bn.take 2049) e).2.2:=⟨_,rfl⟩
 rw[<-her];by_cases h0:er=0
 ·rw[aj (λhh=>hh h0)];by_cases hn:(dI (m.bn.take 2049) e).2.1<0
  ·rw[au hn];exact .inr rfl
  ·rw[aj hn];exact .inl rfl
 ·rw[au h0];exact .inr rfl
theorem Zb (m:gP):vJ m<=2*m.bn.length+1:=by
 unfold vJ
 repeat' split
 all_goals (omega)
theorem qX {m:gP} (h:m.gY=0):vJ m=2*m.bn.length:=by unfold vJ;rw[au h]
theorem AV {m:gP} {n:Nat} (hp:m.gY≠0) (h2:m.gY=2->m.bn≠ []->1<=n):vJ (mR m n).2.2.2<vJ m:=by
 have e:vJ (mR m n).2.2.2=2*(m.bn.drop n).length:=qX rfl;rw[e,dN];unfold vJ;rw[aj hp];split
 ·rename_i h;split
  ·rename_i hb;rw[hb];simp
  ·rename_i hb;have:=h2 h hb;have:=Em.2 hb;omega
 ·omega
theorem tF (m:gP) (h:(dh m).2.1=true\/(dh m).2.2.1=false):vJ (dh m).2.2.2<vJ m:=by
 unfold dh at h |-;by_cases h0:m.gY=0
 ·rw[au h0]at h |-;rw[qX h0];obtain⟨acP,hkind⟩:=xq m _ m.bn (ay _);have hlen:=acP.length_le;have hless:=XH m m.bn;unfold wu at h |-;simp only at h |-;generalize dL m m.bn=p at *;obtain⟨t,bn,is⟩:=p;simp only at h acP hkind hlen hless |-
  have hk1:is=1\/(1<=bn.length/\(is=4->3<=bn.length)/\(is=5->4<=bn.length)/\(is=7->9<=bn.length)):=by
   rcases hkind with h|⟨r,h1,h2, -⟩
   ·exact .inl h
   ·obtain⟨-,l4,l5,l7⟩:=Vv (m:=m) (s:=60::r);rw[h2]at l4 l5 l7;rw[h1];exact .inr ⟨by simp,l4,l5,l7⟩
  by_cases ht:t= []
  ·rw[aj (λhh=>hh ht)]at h |-;by_cases i2:is=2
   ·rw[au i2]at h |-;rcases O8 {m with bn:=bn} false with ht|ht
    ·have:=CY ht;rw[qX (this.1.trans h0)];have h3:(pz {m with bn:=bn} false).2.2.2.bn.length<bn.length:=this.2;omega
    ·rcases h with h|h
     ·have:=CY h;rw[qX (this.1.trans h0)];have h3:(pz {m with bn:=bn} false).2.2.2.bn.length<bn.length:=this.2;omega
     ·rw[ht]at h;cases h
   ·rw[aj i2]at h |-;by_cases i3:is=3
    ·rw[au i3]at h |-;rcases O8 {m with bn:=bn} true with ht|ht
     ·have:=CY ht;rw[qX (this.1.trans h0)];have h3:(pz {m with bn:=bn} true).2.2.2.bn.length<bn.length:=this.2;omega
     ·rcases h with h|h
      ·have:=CY h;rw[qX (this.1.trans h0)];have h3:(pz {m with bn:=bn} true).2.2.2.bn.length<bn.length:=this.2;omega
      ·rw[ht]at h;cases h
    ·rw[aj i3]at h |-;by_cases i4:is=4
     ·rw[au i4];have hb:=(hk1.resolve_left (by omega)).2.1 i4;rw[qX (by exact h0)];show 2*(bn.drop 3).length<_;rw[dN];omega
     ·rw[aj i4]at h |-;by_cases i5:is=5
      ·rw[au i5];have hb:=(hk1.resolve_left (by omega)).2.2.1 i5;refine La (Zb _) ?_;show 2*(bn.drop 4).length+1<_;rw[dN];omega
      ·rw[aj i5]at h |-;by_cases i6:is=6
       ·rw[au i6];have hb:=(hk1.resolve_left (by omega)).1;have hne:bn≠ []:=Em.1 hb;show(if(2:Int)=0 then _ else if(2:Int)=2 then(if bn= []then 1 else 2*bn.length-1)else _)<_;rw[aj (by decide),au rfl,aj hne];omega
       ·rw[aj i6]at h |-;by_cases i7:is=7
        ·rw[au i7];have hb:=(hk1.resolve_left (by omega)).2.2.2 i7;refine La (Zb _) ?_;show 2*(bn.drop 9).length+1<_;rw[dN];omega
        ·rw[aj i7]at h |-;by_cases i8:is=8
         ·rw[au i8];have hb:=(hk1.resolve_left (by omega)).1;have hne:bn≠ []:=Em.1 hb;show(if(2:Int)=0 then _ else if(2:Int)=2 then(if bn= []then 1 else 2*bn.length-1)else _)<_;rw[aj (by decide),au rfl,aj hne];omega
         ·rw[aj i8]at h;rcases h with h|h <;>cases h
  ·rw[au ht];rw[qX (by exact h0)];show 2*bn.length<_;have:=hless ht;omega
 ·rw[aj h0]at h |-;unfold qb at h |-;by_cases p1:m.gY=1
  ·rw[au p1]at h |-;have hd: ∀n,vJ (mR m n).2.2.2<vJ m:=λn=>AV h0 λe=>by omega
   have yZ: ∀m':gP,m'.gY=1->m'.bn=m.bn->((iP m').2.1=true\/(iP m').2.2.1=false)->vJ (iP m').2.2.2<vJ m:=λm' hp hb hh=>by
    have hdm:vJ m'=vJ m:=by unfold vJ;rw[hp,hb,p1]
    have hd: ∀n,vJ (mR m' n).2.2.2<vJ m:=λn=>by rw[<-hdm];exact AV (by omega) λe=>by omega
    unfold iP at hh |-;simp only at hh |-;split
    ·exact hd _
    ·rename_i c1;rw[aj c1]at hh;split
     ·exact hd _
     ·rename_i c2;rw[aj c2]at hh;split
      ·exact hd _
      ·rename_i c3;rw[aj c3]at hh;rcases hh with hh|hh <;>cases hh
   unfold Kn at h |-;split
   ·rename_i hf;rw[au hf]at h;split
    ·exact hd _
    ·rename_i c1;rw[aj c1]at h;split
     ·exact hd _
     ·rename_i c2;rw[aj c2]at h;split
      ·rename_i c3;rw[au c3]at h;rcases h with h|h <;>cases h
      ·rename_i c3;rw[aj c3]at h;exact yZ _ p1 rfl h
   ·rename_i hf;rw[aj hf]at h;exact yZ m p1 rfl h
  ·rw[aj p1]at h |-;by_cases p2:m.gY=2
   ·rw[au p2]at h |-;split
    ·exact AV h0 λ_ _=>by omega
    ·rename_i c1;rw[aj c1]at h;split
     ·exact AV h0 λ_ hb=>Em.2 hb
     ·rename_i c2;rw[aj c2]at h;rcases h with h|h <;>cases h
   ·rw[aj p2]at h |-;have hdm:vJ m=2*m.bn.length+1:=by unfold vJ;rw[aj h0,aj p2]
    rw[hdm];unfold TF at h |-;simp only at h |-;split
    ·rw[qX rfl];show 2*(m.bn.drop _).length<_;rw[dN];omega
    ·rename_i c1;rw[aj c1]at h;split
     ·rw[qX rfl];show 2*([]:bH).length<_;simp
     ·rename_i c2;rw[aj c2]at h;rcases h with h|h
      ·have hne:m.bn.take (m.bn.length-2)≠ []:=by simpa using h
       have hl:2<m.bn.length:=by
        rcases lG 2 m.bn.length with hh|hh
        ·exact hh
        ·rw[show m.bn.length-2=0 from by omega]at hne;exact absurd rfl hne
       refine La (Zb _) ?_;show 2*(m.bn.drop (m.bn.length-2)).length+1<_;rw[dN];omega
      ·have h3:decide (m.gY≠0)=false:=h;exact absurd h0 (by simpa using h3)
theorem wP {m:gP} (h:m.dJ≠0):fF m=(none,m):=by rw[fF,au h]
theorem rM {m:gP} (h:m.dJ=0) (ht:(dh m).2.1=true):fF m=(some (dh m).1,(dh m).2.2.2):=by rw[fF,aj (λhh=>hh h),au ht]
theorem rO {m:gP} (h:m.dJ=0) (ht:(dh m).2.1=false) (hs:(dh m).2.2.1=true):fF m=(none,(dh m).2.2.2):=by
 rw[fF,aj (λhh=>hh h),aj (by rw[ht];simp),au hs]
theorem xz {m:gP} (h:m.dJ=0) (ht:(dh m).2.1=false) (hs:(dh m).2.2.1=false):fF m=fF (dh m).2.2.2:=by
 conv=>lhs;rw[fF,aj (λhh=>hh h),aj (by rw[ht];simp),aj (by rw[hs];simp),au (tF m (.inr hs))]
theorem abW: ∀(n:Nat) (m:gP),vJ m<=n-> ∀x m1,fF m=(some x,m1)->vJ m1<vJ m:=by
 intro n
 induction n using Nat.strongRecOn with
 |_ n ih =>
  intro m hm x m1 h;by_cases he:m.dJ=0
  ·cases ht:(dh m).2.1
   ·cases hs:(dh m).2.2.1
    ·rw[xz he ht hs]at h;have hl:=tF m (.inr hs);have:=ih (vJ (dh m).2.2.2) (by omega) _ (ay _) x m1 h;omega
    ·rw[rO he ht hs]at h;cases h
   ·rw[rM he ht]at h;cases h;exact tF m (.inl ht)
  ·rw[wP he]at h;cases h
end Go.Proofs.YtnlbcifhedjbfaaGreatDoor.Rd
namespace Go.Proofs.YtnlbcifhedjbfaaGreatDoor.Rd
open Go.RowKit Mem
theorem aee (m:gP) (b:Nat) (w:af) (hr:Row w b (eZ m)) (hl:m.bn.length<=4294967280) (hn:m.ah.length<=4294967280) :
 Calls prog 34 #[.pointer (some ⟨b,0,none⟩)] w λr w'=>aa9 w.heap.size (wu m) r w'/\Row w' b (eZ (wu m).2.2.2)/\az (Only b) w w':=by
 have hbw:=hr.lt;have hne:w.heap.size≠b:=by omega
 obtain⟨o,ho⟩: ∃o,o=wu m:=⟨_,rfl⟩;rw[<-ho];unfold wu at ho;obtain⟨acP,hkind⟩:=xq m _ m.bn (ay _);have hlen:=acP.length_le;have HRA:Hid (Row (w.alloc (.cells cu 39)) b (eZ m)):=hr.kept (gu w _ hbw);have HTX:=hd' (ad3 m b (w.alloc (.cells cu 39)) HRA.o' hl hn);generalize dL m m.bn=p at *;obtain⟨t,bn,is⟩:=p;simp only at ho acP hkind hlen HTX;obtain⟨m1,hm1⟩: ∃m1,m1=({m with bn:=bn}:gP):=⟨_,rfl⟩;have hb1:m1.bn=bn:=by rw[hm1]
 rw[<-hm1]at ho HTX
 have hk1:is=1\/((is=2->1<=bn.length)/\(is=3->2<=bn.length)/\(is=4->3<=bn.length)/\(is=5->4<=bn.length)/\(is=7->9<=bn.length)):=by
  rcases hkind with h|⟨r,h1,h2, -⟩
  ·exact .inl h
  ·obtain⟨l3,l4,l5,l7⟩:=Vv (m:=m) (s:=60::r);rw[h2]at l3 l4 l5 l7;rw[h1];exact .inr ⟨λ_=>by simp,l3,l4,l5,l7⟩
 clear hkind acP;go_enter func34,ntmps34
 go_wp2_with fail
 refine HTX.o'.mono ?_;rintro r W1 ⟨rfl,r1,k1⟩;have HZ1:=hd' (fq (eU w (.cells cu 39)) k1 (by simp) hne);have wE:=hd' (JW k1);have HR1:=hd' r1;have hz1:w.heap.size<W1.heap.size:=fA (by simp) k1.size;obtain⟨⟨q0,q1,q2,q3,q4⟩,f0,f1,f2,f3,f4⟩:=eY HZ1.o';have hc0:=(dA r1).1;rw[hb1]at hc0;obtain⟨g0, -, -, -, -, -,g6,g7,g8, -⟩:=gD r1;obtain⟨-, -, -, -, -, -,c6,c7,c8, -⟩:=dA r1;have hbz:(bA bn).size=bn.length:=bV _;clear k1 r1;by_cases ht:t= []
 ·subst ht;rw[aj (λh=>h rfl)]at ho;have hte:(bA ([]:bH)).toList.isEmpty=true:=by rw[bT];rfl
  have h1:is=1-> ¬(is=2):=λh=>by omega
  clear h1;by_cases i2:is=2
  ·subst i2;rw[au rfl]at ho;have hl2:=(hk1.resolve_left (by decide)).1 rfl;clear hk1;have HTG:=hd' (Z7 m1 b false W1 HR1.o' (by rw[hb1];omega) (by rw[hb1];simp;omega));have HO:=hd' ho;clear ho hm1;dsimp only;go_wp2_with fail
   refine HTG.o'.mono ?_;rintro r W2 ⟨⟨sl,rfl,hown⟩,r2,k2⟩;obtain⟨a,c,hsl, -⟩:=fJ hown;subst hsl;have HZ2:=hd' (fq HZ1.o' k2 hz1 hne);have uP:=hd' (wE.o'.trans k2);have HR2:=hd' r2;have HOW:=hd' hown;clear q0 q1 q2 q3 q4 f0 f1 f2 f3 f4 k2 r2 hown;obtain⟨⟨q0,q1,q2,q3,q4⟩,f0,f1,f2,f3,f4⟩:=eY HZ2.o';dsimp only[nz];go_wp2_with fail
   refine bU (bE rfl _ _ w.heap.size _ _ _ _ rfl (eD HZ2.o' _ _ _ _ _) fG rfl bP) rfl ?_;rw[HO.o'];exact⟨⟨.slice a (pz m1 false).1.aA.length c,iR rfl,ji (tC HOW.o' hz1 _ _ _ _ _) (lZ hz1)⟩,dz HR2.o' (λe=>hne e.symm) _ _ _ _ _,bK uP.o' (ay _) _ _ _ _ _⟩
  rw[aj i2]at ho;have n2:(is==2)=false:=aV.2 i2;by_cases i3:is=3
  ·subst i3;rw[au rfl]at ho;have hl3:=(hk1.resolve_left (by decide)).2.1 rfl;clear hk1;have HTG:=hd' (Z7 m1 b true W1 HR1.o' (by rw[hb1];omega) (by rw[hb1];simp;omega));have HO:=hd' ho;clear ho hm1;dsimp only;go_wp2_with fail
   refine HTG.o'.mono ?_;rintro r W2 ⟨⟨sl,rfl,hown⟩,r2,k2⟩;obtain⟨a,c,hsl, -⟩:=fJ hown;subst hsl;have HZ2:=hd' (fq HZ1.o' k2 hz1 hne);have uP:=hd' (wE.o'.trans k2);have HR2:=hd' r2;have HOW:=hd' hown;clear q0 q1 q2 q3 q4 f0 f1 f2 f3 f4 k2 r2 hown;obtain⟨⟨q0,q1,q2,q3,q4⟩,f0,f1,f2,f3,f4⟩:=eY HZ2.o';dsimp only[nz];go_wp2_with fail
   refine bU (bE rfl _ _ w.heap.size _ _ _ _ rfl (eD HZ2.o' _ _ _ _ _) fG rfl bP) rfl ?_;rw[HO.o'];exact⟨⟨.slice a (pz m1 true).1.aA.length c,iR rfl,ji (tC HOW.o' hz1 _ _ _ _ _) (lZ hz1)⟩,dz HR2.o' (λe=>hne e.symm) _ _ _ _ _,bK uP.o' (ay _) _ _ _ _ _⟩
  rw[aj i3]at ho;have n3:(is==3)=false:=aV.2 i3;by_cases i4:is=4
  ·subst i4;rw[au rfl]at ho;have hl4:=(hk1.resolve_left (by decide)).2.2.1 rfl;have e3:=qP bn 3;have hi3:(3:Int)<=(bn.length:Int):=by omega
   have HO:=hd' ho;clear ho hk1;dsimp only;go_wp2_with fail
   refine bU (bE rfl _ _ w.heap.size _ _ _ _ rfl (eD (fI HZ1.o' hne) _ _ _ _ _) fG rfl bP) rfl ?_;rw[HO.o'];rw[hm1]at HR1;exact⟨⟨.slice none 0 0,iR rfl,jY _ _ _ _⟩,dz (HR1.o'.set 0 (.string (bA (bn.drop 3)))) (λe=>hne e.symm) _ _ _ _ _,bK (bM wE.o' _) (ay _) _ _ _ _ _⟩
  rw[aj i4]at ho;have n4:(is==4)=false:=aV.2 i4;by_cases i5:is=5
  ·subst i5;rw[au rfl]at ho;have hl5:=(hk1.resolve_left (by decide)).2.2.2.1 rfl;have e4:=qP bn 4;have hi4:(4:Int)<=(bn.length:Int):=by omega
   have HO:=hd' ho;clear ho hk1;dsimp only;go_wp2_with fail
   go_region
   go_wp2_with fail
   refine bU (bE rfl _ _ w.heap.size _ _ _ _ rfl (qA (eD (fI (fI (fI (fI HZ1.o' hne) hne) hne) hne) _ _ _ _ _)) fG rfl bP) rfl ?_;rw[HO.o'];rw[hm1]at HR1;exact⟨⟨.slice none 0 0,iR rfl,jY _ _ _ _⟩,qR (dz ((((HR1.o'.set 6 (.int .i64 1)).set 7 (.int .i64 4)).set 8 (.bool true)).set 0 (.string (bA (bn.drop 4)))) (λe=>hne e.symm) _ _ _ _ _),(bK (bM (bM (bM (bM wE.o' _) _) _) _) (ay _) _ _ _ _ _).drew⟩
  rw[aj i5]at ho;have n5:(is==5)=false:=aV.2 i5;by_cases i6:is=6
  ·subst i6;rw[au rfl]at ho;have HO:=hd' ho;clear ho hk1;dsimp only;go_wp2_with fail
   refine bU (bE rfl _ _ w.heap.size _ _ _ _ rfl (eD (fI (fI HZ1.o' hne) hne) _ _ _ _ _) fG rfl bP) rfl ?_;rw[HO.o'];rw[hm1]at HR1;exact⟨⟨.slice none 0 0,iR rfl,jY _ _ _ _⟩,dz ((HR1.o'.set 6 (.int .i64 2)).set 7 (.int .i64 5)) (λe=>hne e.symm) _ _ _ _ _,bK (bM (bM wE.o' _) _) (ay _) _ _ _ _ _⟩
  rw[aj i6]at ho;have n6:(is==6)=false:=aV.2 i6;by_cases i7:is=7
  ·subst i7;rw[au rfl]at ho;have hl7:=(hk1.resolve_left (by decide)).2.2.2.2 rfl;have e9:=qP bn 9;have hi9:(9:Int)<=(bn.length:Int):=by omega
   have HO:=hd' ho;clear ho hk1;dsimp only;go_wp2_with fail
   go_region
   go_wp2_with fail
   refine bU (bE rfl _ _ w.heap.size _ _ _ _ rfl (qA (eD (fI (fI HZ1.o' hne) hne) _ _ _ _ _)) fG rfl bP) rfl ?_;rw[HO.o'];rw[hm1]at HR1;exact⟨⟨.slice none 0 0,iR rfl,jY _ _ _ _⟩,qR (dz ((HR1.o'.set 6 (.int .i64 3)).set 0 (.string (bA (bn.drop 9)))) (λe=>hne e.symm) _ _ _ _ _),(bK (bM (bM wE.o' _) _) (ay _) _ _ _ _ _).drew⟩
  rw[aj i7]at ho;have n7:(is==7)=false:=aV.2 i7;by_cases i8:is=8
  ·subst i8;rw[au rfl]at ho;have HO:=hd' ho;clear ho hk1;dsimp only;go_wp2_with fail
   refine bU (bE rfl _ _ w.heap.size _ _ _ _ rfl (eD (fI (fI HZ1.o' hne) hne) _ _ _ _ _) fG rfl bP) rfl ?_;rw[HO.o'];rw[hm1]at HR1;exact⟨⟨.slice none 0 0,iR rfl,jY _ _ _ _⟩,dz ((HR1.o'.set 6 (.int .i64 2)).set 7 (.int .i64 4)) (λe=>hne e.symm) _ _ _ _ _,bK (bM (bM wE.o' _) _) (ay _) _ _ _ _ _⟩
  rw[aj i8]at ho;have n8:(is==8)=false:=aV.2 i8;have HO:=hd' ho;clear ho hk1;dsimp only;go_wp2_with fail
  refine bU (bE rfl _ _ w.heap.size _ _ _ _ rfl (eD HZ1.o' _ _ _ _ _) fG rfl bP) rfl ?_;rw[HO.o'];exact⟨⟨.slice none 0 0,iR rfl,jY _ _ _ _⟩,dz HR1.o' (λe=>hne e.symm) _ _ _ _ _,bK wE.o' (ay _) _ _ _ _ _⟩
 ·rw[au ht]at ho;have HO:=hd' ho
  have hte:(bA t).toList.isEmpty=false:=by
   rw[bT];cases t with
   |nil=>exact absurd rfl ht
   |cons _ _=>rfl
  clear ho ht hk1 hm1;dsimp only;go_wp2_with fail
  refine bU (bE rfl _ _ w.heap.size _ _ _ _ rfl (eD HZ1.o' _ _ _ _ _) fG rfl bP) rfl ?_;rw[HO.o'];exact⟨⟨.slice none 0 0,iR rfl,jY _ _ _ _⟩,dz HR1.o' (λe=>hne e.symm) _ _ _ _ _,bK wE.o' (ay _) _ _ _ _ _⟩
theorem acY (m:gP) (n:Nat):(mR m n).2.2.2.ah=m.ah/\(mR m n).2.2.2.bn.length<=m.bn.length:=⟨rfl,by show(m.bn.drop n).length<=_;rw[dN];omega⟩
theorem O9 (m:gP) (e:Bool):(pz m e).2.2.2.ah=m.ah/\(pz m e).2.2.2.bn.length<=m.bn.length:=by
 unfold pz;simp only;obtain⟨er,her⟩: ∃er,er=if(dI (m.bn.take 2049) e).2.1>2048\/((dI (m.bn.take 2049) e).2.1<0/\2048<(m.bn.take 2049).length)then(41:Int)else(dI (m.bn.take 2049) e).2.2:=⟨_,rfl⟩
 rw[<-her];by_cases h0:er=0
 ·rw[aj (λhh=>hh h0)];by_cases hn:(dI (m.bn.take 2049) e).2.1<0
  ·rw[au hn];cases m.dO
   ·exact⟨rfl,ay _⟩
   ·exact⟨rfl,bD _⟩
  ·rw[aj hn];have hd:(m.bn.drop (dI (m.bn.take 2049) e).2.1.toNat).length<=m.bn.length:=by rw[dN];omega
   cases e
   ·exact⟨rfl,hd⟩
   ·exact⟨rfl,hd⟩
 ·rw[au h0];exact⟨rfl,bD _⟩
theorem Mw (m:gP):((qb m).2.2.2.ah=m.ah/\(qb m).2.2.2.bn.length<=m.bn.length)/\(qb m).1.aA= []:=by
 have hd: ∀(m:gP) n,((mR m n).2.2.2.ah=m.ah/\(mR m n).2.2.2.bn.length<=m.bn.length)/\(mR m n).1.aA= []:=λm n=>⟨acY m n,rfl⟩
 have hdr: ∀n,(m.bn.drop n).length<=m.bn.length:=λn=>by rw[dN];omega
 have yZ: ∀m':gP,m'.ah=m.ah->m'.bn=m.bn->((iP m').2.2.2.ah=m.ah/\(iP m').2.2.2.bn.length<=m.bn.length)/\(iP m').1.aA= []:=λm' hn hb=>by
  have hd': ∀n,((mR m' n).2.2.2.ah=m.ah/\(mR m' n).2.2.2.bn.length<=m.bn.length)/\(mR m' n).1.aA= []:=λn=>by rw[<-hn,<-hb];exact hd m' n
  unfold iP;simp only;split
  ·exact hd' _
  ·split
   ·exact hd' _
   ·split
    ·exact hd' _
    ·exact⟨⟨hn,by show(m'.bn.drop _).length<=_;rw[hb];exact hdr _⟩,rfl⟩
 unfold qb;split
 ·unfold Kn;split
  ·split
   ·exact hd _ _
   ·split
    ·exact hd _ _
    ·split
     ·exact⟨⟨rfl,ay _⟩,rfl⟩
     ·exact yZ _ rfl rfl
  ·exact yZ m rfl rfl
 ·split
  ·split
   ·exact hd _ _
   ·split
    ·exact hd _ _
    ·exact⟨⟨rfl,bD _⟩,rfl⟩
  ·unfold TF;simp only;split
   ·exact⟨⟨rfl,hdr _⟩,rfl⟩
   ·split
    ·exact⟨⟨rfl,bD _⟩,rfl⟩
    ·exact⟨⟨rfl,hdr _⟩,rfl⟩
theorem XW (m:gP):(wu m).2.2.2.ah=m.ah/\(wu m).2.2.2.bn.length<=m.bn.length:=by
 have hl:=(xq m _ m.bn (ay _)).1.length_le;have hdr: ∀n,((dL m m.bn).2.1.drop n).length<=m.bn.length:=λn=>by rw[dN];omega
 have htg: ∀e,(pz {m with bn:=(dL m m.bn).2.1} e).2.2.2.ah=m.ah/\(pz {m with bn:=(dL m m.bn).2.1} e).2.2.2.bn.length<=m.bn.length:=λe =>
  ⟨(O9 _ e).1,bY (O9 {m with bn:=(dL m m.bn).2.1} e).2 hl⟩
 unfold wu;simp only;split
 ·exact⟨rfl,hl⟩
 ·split
  ·exact htg _
  ·split
   ·exact htg _
   ·split
    ·exact⟨rfl,hdr _⟩
    ·split
     ·exact⟨rfl,hdr _⟩
     ·split
      ·exact⟨rfl,hl⟩
      ·split
       ·exact⟨rfl,hdr _⟩
       ·split
        ·exact⟨rfl,hl⟩
        ·exact⟨rfl,hl⟩
theorem zC (m:gP):(dh m).2.2.2.ah=m.ah/\(dh m).2.2.2.bn.length<=m.bn.length:=by
 unfold dh;split
 ·exact XW m
 ·exact(Mw m).1
def ak7 (base:Nat) (o:Option pq) (r:Ending) (w':af):Prop:=match o with
 |none=>r= .returned (.tuple #[nz (.slice none 0 0) (zU 0),.bool false])
 |some x=> ∃sl,r= .returned (.tuple #[nz sl x,.bool true])/\w'.ownsRow base 128 2 sl x.aA.length (bz (wL x.aA))
theorem ahU {m:gP} (h:m.gY≠0) {r:Ending} {w':af} {base:Nat} (hr:r= .returned (Cc (qb m))):aa9 base (dh m) r w':=by
 unfold dh;rw[aj h];refine⟨.slice none 0 0,hr,?_⟩;rw[(Mw m).2];exact jY _ _ _ _
theorem Vt {W:af} {g:Nat} {x:Int} (h:wy W x) (hg:0≠g) (v0 v1 v2 v3 v4:ak):wy (wI W g v0 v1 v2 v3 v4) x:=by
 unfold wy World.cell? at h |-;rw[nZ hg];exact h
theorem aes (m:gP) (b:Nat) (x:Int) (w:af) (hr:Row w b (eZ m)) (hm:wy w x) (hl:m.bn.length<=4294967280) (hn:m.ah.length<=4294967280) :
 Calls prog 22 #[.pointer (some ⟨b,0,none⟩)] w λr w'=>ak7 w.heap.size (fF m).1 r w'/\Row w' b (eZ (fF m).2)/\az (Only b) w w':=by
 have hbw:=hr.lt;have hne:w.heap.size≠b:=by omega
 obtain⟨o,ho⟩: ∃o,o=fF m:=⟨_,rfl⟩;rw[<-ho];have HM0:=hd' hm;have Tx:=hd' hr;have HHO:=hd' ho;clear hr hm ho;go_enter func22,ntmps22
 go_wp2_with fail
 go_loopg [5] (vJ m) (λg _ wr=> ∃m':gP,vJ m'<=g/\fF m'=o/\m'.ah=m.ah/\m'.bn.length<=m.bn.length/\Row wr b (eZ m')/\wy wr x/\wr.heap[w.heap.size]?=some (.cells cu 39 (0,0))/\az (Only b) w wr/\w.heap.size<wr.heap.size)
 case atStart=>exact⟨m,ay _,HHO.o'.symm,rfl,ay _,Tx.o'.kept (gu _ _ hbw),aM ((aQ _ w).alloc (ay _) _) HM0.o',eU _ _,(az.refl (Only b) w).alloc _,by simp⟩
 case round =>
  obtain⟨m',hg,hv,hnm,hbl,hrr,hmx,hz,hkk,hzr⟩:=hrel;have HV:=hd' hv;have HRx:=hd' hrr;have HMx:=hd' hmx;have HZ:=hd' hz;have HKx:=hd' hkk;obtain⟨-, -, -, -, -, -,hc6, -, -,hc9⟩:=dA hrr;have hbr:=hrr.lt;have apC:m'.ah.length<=4294967280:=by rw[hnm];exact hn
  have HNM:=hd' hnm;clear hv hrr hmx hz hkk hnm;by_cases he:m'.dJ=0
  ·rw[he]at hc9;obtain⟨X,hX⟩: ∃X,X=wr.heap.size:=⟨_,rfl⟩;obtain⟨wa,kF⟩: ∃wa,wa=wr.alloc (.cells cu 39):=⟨_,rfl⟩;have Ki:=hd' (show Row wa b (eZ m')from kF▸HRx.o'.kept (gu _ _ hbr));have ZJ:=hd' (show wa.heap[w.heap.size]?=some (.cells cu 39 (0,0))from kF▸(gu _ _ hzr).trans HZ.o');have HXa:=hd' (show wa.heap[X]?=some (.cells cu 39 (0,0))from by rw[kF,hX];exact eU _ _);have TJ:=hd' (show az (Only b) w wa from kF▸HKx.o'.alloc _);have HMa:=hd' (show wy wa x from by rw[kF];exact aM ((aQ wr.heap.size wr).alloc (ay _) _) HMx.o');have Jc:w.heap.size<wa.heap.size:=by rw[kF];simp;omega
   have ail:X<wa.heap.size:=by rw[kF,hX];simp
   have hXw:w.heap.size<X:=by omega
   have hbX:b<X:=by omega
   have zb:Hid (wa=wr.alloc (.cells #[.int .i64 0,.string ⟨#[]⟩,.slice none 0 0,.bool false,.string ⟨#[]⟩] 39)):=kF;clear kF;by_cases hp:m'.gY=0
   ·rw[hp]at hc6;have HST:=hd' (aee m' b wa Ki.o' (by omega) apC);rw[show wu m'=dh m' from by unfold dh;rw[au hp]]at HST;clear HRx HZ HKx HMx;go_wp2_with fail
    rw[<-zb.o',<-hX];clear zb hX hc6 hc9;refine HST.o'.mono ?_;rintro r W1 ⟨⟨sl,rfl,hown⟩,r2,k2⟩;obtain⟨a,c,hsl, -⟩:=fJ hown;subst hsl;have hXb:X≠b:=by omega
    have HZ1:=hd' (fq ZJ.o' k2 Jc hne);have HX1:=hd' (fq HXa.o' k2 ail hXb);have wE:=hd' (TJ.o'.trans k2);have HR1:=hd' r2;have HOW:=hd' hown;have HM1:=hd' (oC HMa.o' Ki.o' k2);have hML:=lt_of_cell HM0.o';have hz1:w.heap.size<W1.heap.size:=fA Jc k2.size;clear k2 r2 hown;obtain⟨⟨q0,q1,q2,q3,q4⟩,f0,f1,f2,f3,f4⟩:=eY HZ1.o';obtain⟨⟨y0,y1,y2,y3,y4⟩,z0,z1,z2,z3,z4⟩:=eY HX1.o';have hRX:w.heap.size≠X:=by omega
    dsimp only[nz];cases ht:(dh m').2.1
    ·cases hs:(dh m').2.2.1
     ·have hgo:=xz he ht hs;have hless:=tF m' (.inr hs);rw[hgo]at HV;clear hgo;have hkt:=zC m';have HKT:=hd' (show(dh m').2.2.2.ah=m.ah/\(dh m').2.2.2.bn.length<=m.bn.length from⟨hkt.1.trans HNM.o',bY hkt.2 hbl⟩);clear hkt;go_wp2_with fail
      go_roundg (vJ (dh m').2.2.2)
      case measure=>omega
      case rel=>exact⟨(dh m').2.2.2,ay _,HV.o',HKT.o'.1,HKT.o'.2,dz HR1.o' (λe=>hXb e.symm) _ _ _ _ _,Vt HM1.o' (by show(_:Nat)≠X;omega) _ _ _ _ _,(nZ hRX _ _ _ _ _).trans HZ1.o',bK wE.o' (lZ hXw) _ _ _ _ _,by simpa[wI] using hz1⟩
     ·have HO:=hd' (HV.o'.symm.trans (rO he ht hs));go_wp2_with fail
      refine bU (iI rfl _ _ w.heap.size _ _ _ _ rfl (eD ((nZ hRX _ _ _ _ _).trans HZ1.o') _ _ _ _ _) fG rfl bP) rfl ?_;rw[HO.o'];exact⟨rfl,dz (dz HR1.o' (λe=>hXb e.symm) _ _ _ _ _) (λe=>hne e.symm) _ _ _ _ _,bK (bK wE.o' (lZ hXw) _ _ _ _ _) (ay _) _ _ _ _ _⟩
    ·have HO:=hd' (HV.o'.symm.trans (rM he ht));go_wp2_with fail
     refine bU (iI rfl _ _ w.heap.size _ _ _ _ rfl (eD ((nZ hRX _ _ _ _ _).trans HZ1.o') _ _ _ _ _) fG rfl bP) rfl ?_;rw[HO.o'];exact⟨⟨.slice a (dh m').1.aA.length c,rfl,ji (tC (tC HOW.o' ail _ _ _ _ _) Jc _ _ _ _ _) (lZ Jc)⟩,dz (dz HR1.o' (λe=>hXb e.symm) _ _ _ _ _) (λe=>hne e.symm) _ _ _ _ _,bK (bK wE.o' (lZ hXw) _ _ _ _ _) (ay _) _ _ _ _ _⟩
   ·have hpb:(m'.gY==0)=false:=aV.2 hp
    have HST:Hid (Calls prog 33 #[.pointer (some ⟨b,0,none⟩)] wa λr w'=>aa9 wa.heap.size (dh m') r w'/\Row w' b (eZ (dh m').2.2.2)/\az (Only b) wa w') :=
     (Yl m' b x wa Ki.o' HMa.o' (by omega) hp).mono λr w' ⟨h1,h2,h3⟩=>⟨ahU hp h1,by unfold dh;rw[aj hp];exact h2,h3⟩
    clear HRx HZ HKx HMx;go_wp2_with fail
    rw[<-zb.o',<-hX];clear zb hX hc6 hc9;refine HST.o'.mono ?_;rintro r W1 ⟨⟨sl,rfl,hown⟩,r2,k2⟩;obtain⟨a,c,hsl, -⟩:=fJ hown;subst hsl;have hXb:X≠b:=by omega
    have HZ1:=hd' (fq ZJ.o' k2 Jc hne);have HX1:=hd' (fq HXa.o' k2 ail hXb);have wE:=hd' (TJ.o'.trans k2);have HR1:=hd' r2;have HOW:=hd' hown;have HM1:=hd' (oC HMa.o' Ki.o' k2);have hML:=lt_of_cell HM0.o';have hz1:w.heap.size<W1.heap.size:=fA Jc k2.size;clear k2 r2 hown;obtain⟨⟨q0,q1,q2,q3,q4⟩,f0,f1,f2,f3,f4⟩:=eY HZ1.o';obtain⟨⟨y0,y1,y2,y3,y4⟩,z0,z1,z2,z3,z4⟩:=eY HX1.o';have hRX:w.heap.size≠X:=by omega
    dsimp only[nz];cases ht:(dh m').2.1
    ·cases hs:(dh m').2.2.1
     ·have hgo:=xz he ht hs;have hless:=tF m' (.inr hs);rw[hgo]at HV;clear hgo;have hkt:=zC m';have HKT:=hd' (show(dh m').2.2.2.ah=m.ah/\(dh m').2.2.2.bn.length<=m.bn.length from⟨hkt.1.trans HNM.o',bY hkt.2 hbl⟩);clear hkt;go_wp2_with fail
      go_roundg (vJ (dh m').2.2.2)
      case measure=>omega
      case rel=>exact⟨(dh m').2.2.2,ay _,HV.o',HKT.o'.1,HKT.o'.2,dz HR1.o' (λe=>hXb e.symm) _ _ _ _ _,Vt HM1.o' (by show(_:Nat)≠X;omega) _ _ _ _ _,(nZ hRX _ _ _ _ _).trans HZ1.o',bK wE.o' (lZ hXw) _ _ _ _ _,by simpa[wI] using hz1⟩
     ·have HO:=hd' (HV.o'.symm.trans (rO he ht hs));go_wp2_with fail
      refine bU (iI rfl _ _ w.heap.size _ _ _ _ rfl (eD ((nZ hRX _ _ _ _ _).trans HZ1.o') _ _ _ _ _) fG rfl bP) rfl ?_;rw[HO.o'];exact⟨rfl,dz (dz HR1.o' (λe=>hXb e.symm) _ _ _ _ _) (λe=>hne e.symm) _ _ _ _ _,bK (bK wE.o' (lZ hXw) _ _ _ _ _) (ay _) _ _ _ _ _⟩
    ·have HO:=hd' (HV.o'.symm.trans (rM he ht));go_wp2_with fail
     refine bU (iI rfl _ _ w.heap.size _ _ _ _ rfl (eD ((nZ hRX _ _ _ _ _).trans HZ1.o') _ _ _ _ _) fG rfl bP) rfl ?_;rw[HO.o'];exact⟨⟨.slice a (dh m').1.aA.length c,rfl,ji (tC (tC HOW.o' ail _ _ _ _ _) Jc _ _ _ _ _) (lZ Jc)⟩,dz (dz HR1.o' (λe=>hXb e.symm) _ _ _ _ _) (λe=>hne e.symm) _ _ _ _ _,bK (bK wE.o' (lZ hXw) _ _ _ _ _) (ay _) _ _ _ _ _⟩
  ·have heb:(m'.dJ==0)=false:=aV.2 he;have HO:=hd' (HV.o'.symm.trans (wP he));obtain⟨⟨q0,q1,q2,q3,q4⟩,f0,f1,f2,f3,f4⟩:=eY HZ.o';go_wp2_with fail
   --the result stays Fx it was:HZ in the world
   refine bU (iI rfl _ _ w.heap.size _ _ _ _ rfl (eD HZ.o' _ _ _ _ _) fG rfl bP) rfl ?_;rw[HO.o'];exact⟨rfl,dz HRx.o' (λe=>hne e.symm) _ _ _ _ _,bK HKx.o' (ay _) _ _ _ _ _⟩
def MR (c:ax):Bool:=(decide (97<=c)&&decide (c<=122))||(decide (48<=c)&&decide (c<=57))
theorem acv (c:ax):MR c=decide ((97<=(c.toNat:Int)/\(c.toNat:Int)<=122)\/(48<=(c.toNat:Int)/\(c.toNat:Int)<=57)):=by
 unfold MR;rw[ule,ule,ule,ule,rG];simp only[jD,cz,mX];exact Iff.rfl
theorem ahH (m:gP) (aD:Int) (ah:bH):Br m aD ah=if(decide (ah≠ [])&&decide (97<=ah.headD 0)&&ah.all MR)=true/\(aD=1\/aD=2)then {m with aD:=aD,ah:=ah}else {m with aD:=0,ah:= []}:=by
 have e:Br m aD ah=if ah≠ []/\decide (97<=ah.headD 0)=true/\ah.all MR=true/\(aD=1\/aD=2)then {m with aD:=aD,ah:=ah}else {m with aD:=0,ah:= []}:=rfl
 rw[e];by_cases h:ah≠ []/\decide (97<=ah.headD 0)=true/\ah.all MR=true/\(aD=1\/aD=2)
 ·rw[au h,au ⟨by rw[cz,cz];exact⟨⟨pI h.1,h.2.1⟩,h.2.2.1⟩,h.2.2.2⟩]
 ·rw[aj h,aj];intro h';rw[cz,cz]at h';exact h ⟨zX h'.1.1.1,h'.1.1.2,h'.1.2,h'.2⟩
theorem ahE (m:gP) (b:Nat) (aD:Int) (s:ae) (w:af) (hr:Row w b (eZ m)) (hs:s.size<=4294967280) :
 Calls prog 29 #[.pointer (some ⟨b,0,none⟩),.int .i64 aD,.string s] w λr w'=>r= .returned (.tuple #[])/\Row w' b (eZ (Br m aD s.toList))/\az (Only b) w w':=by
 have hbw:=hr.lt;obtain⟨-, -, -,hc3,hc4, -⟩:=dA hr;obtain⟨-, -, -,hf3,hf4, -⟩:=gD hr;have Tx:=hd' hr;have HSE:=hd' (ahH m aD s.toList);obtain⟨o,ho⟩: ∃o,o=Br m aD s.toList:=⟨_,rfl⟩;rw[<-ho]at HSE |-;clear hr ho;obtain⟨q0,hq0⟩: ∃q0:Bool,q0=(decide (s.toList≠ [])&&decide (97<=s.toList.headD 0)):=⟨_,rfl⟩;rw[<-hq0]at HSE
 have hstart:(s.toList.isEmpty=true/\q0=false/\s.size=0)\/(s.toList.isEmpty=false/\ ∃h0:0<s.size,q0=decide (97<=(s[0].toNat:Int))):=by
  cases hl:s.toList with
  |nil =>
   rw[hl]at hq0;exact .inl ⟨rfl,hq0,by rw[<-aR,hl];rfl⟩
  |cons c r =>
   have h0:0<s.size:=by rw[<-aR,hl];simp
   have:=jT s 0 h0;rw[xh,hl]at this;have hc:c=s[0]:=(dH this).1;rw[hl]at hq0;refine .inr ⟨rfl,h0,?_⟩;rw[hq0,List.headD_cons,hc,ule];simp
 have HR2:Hid (Row ((w.setCell ⟨b,3,none⟩ (.int .i64 0)).setCell ⟨b,4,none⟩ (.string ⟨#[]⟩)) b (eZ {m with aD:=0,ah:= []})):=(Tx.o'.set 3 (.int .i64 0)).set 4 (.string (bA []))
 have uP:=hd' (bM (bM (az.refl (Only b) w) (.int .i64 0) (j:=3)) (.string ⟨#[]⟩) (j:=4));have HS:=hd' (aR s);clear hq0;rcases hstart with⟨he,rfl,h0⟩|⟨he,h0,hq⟩
 ·go_enter func29,ntmps29
  go_wp2_with fail
  generalize (w.setCell ⟨b,3,none⟩ (.int .i64 0)).setCell ⟨b,4,none⟩ (.string ⟨#[]⟩)=W2 at *;go_loopw [6,7] (λv i wr=>v= .bool false/\i= .int .i64 0/\wr=W2) (λ_ _ _=>0)
  case atStart=>exact⟨rfl,rfl,rfl⟩
  case round =>
   obtain⟨rfl,rfl,rfl⟩:=hrel;have h0z: ¬(0:Int)<(s.size:Int):=by omega
   go_wp2_with fail
   go_end0
   exact⟨rfl,by rw[HSE.o',aj (by simp)];exact HR2.o',uP.o'⟩
 ·go_enter func29,ntmps29
  have hu0:=s[0].toNat_lt;go_wp2_with fail
  generalize (w.setCell ⟨b,3,none⟩ (.int .i64 0)).setCell ⟨b,4,none⟩ (.string ⟨#[]⟩)=W2 at *;clear hc3 hc4 hf3 hf4;go_loopw [6,7] (λv i wr=> ∃(k:Nat) (q:Bool),k<=s.size/\i= .int .i64 k/\v= .bool q/\q=(q0&&(s.toList.take k).all MR)/\wr=W2) (λ_ i _=>s.size-(intOf i).toNat)
  case atStart=>exact⟨0,q0,bD _,rfl,by rw[hq];rfl,by simp,rfl⟩
  case round =>
   obtain⟨k,q,hk,rfl,rfl,hqq,rfl⟩:=hrel;by_cases hlt:k<s.size
   ·have hkl:k<s.toList.length:=by rw[HS.o'];exact hlt
    have hu:=s[k].toNat_lt
    have ajk:Hid ((q0&&(s.toList.take (k+1)).all MR)=(q&&decide ((97<=(s[k].toNat:Int)/\(s[k].toNat:Int)<=122)\/(48<=(s[k].toNat:Int)/\(s[k].toNat:Int)<=57)))):=by
     show _=_;rw[jL hkl,List.all_append,byte_at s k hlt hkl,hqq,<-acv];simp[Bool.and_assoc]
    clear hqq hq;cases q
    ·rw[Ew]at ajk;go_wp2_with fail
     go_roundw
     case rel=>exact⟨k+1,false,by omega,by go_num,rfl,ajk.o'.symm,by(trivial)⟩
     case measure=>simp[intOf];omega
    ·rw[nW]at ajk;go_wp2_with fail
     all_goals
      go_roundw
      case rel =>
       refine⟨k+1,_,by omega,by go_num,rfl,?_,by(trivial)⟩;rw[ajk.o']
       first|exact(pI (by omega)).symm|exact(qB (by omega)).symm|exact pJ.2 (by omega)|(rw[<-Bool.decide_or];exact pJ.2 (by omega))
      case measure=>simp[intOf];omega
   ·obtain rfl:k=s.size:=by omega
    have alj:Hid (o=if q=true/\(aD=1\/aD=2)then {m with aD:=aD,ah:=s.toList}else {m with aD:=0,ah:= []}):=by
     show _=_;rw[HSE.o',hqq,iH (by rw[HS.o'];exact ay _)]
    obtain⟨-, -, -,hc3,hc4, -⟩:=dA HR2.o';obtain⟨-, -, -,hf3,hf4, -⟩:=gD HR2.o';clear hqq hq;by_cases hm:aD=1\/aD=2
    ·have hmm:(aD==1)=true\/((aD==1)=false/\(aD==2)=true):=by
      rcases hm with h|h
      ·exact .inl (cO.2 h)
      ·exact .inr ⟨by rw[h];rfl,cO.2 h⟩
     cases q
     ·go_wp2_with fail
      go_end0
      exact⟨by(rfl),by rw[alj.o',aj (by simp)];exact HR2.o',uP.o'⟩
     ·rcases hmm with h1|⟨h1,h2⟩
      all_goals
       have HHM:=hd' hm;clear hm;go_wp2_with fail
       go_end0
       refine⟨rfl,?_,bM (bM uP.o' _) _⟩;rw[alj.o',au ⟨by(trivial),HHM.o'⟩];have h:=(HR2.o'.set 3 (.int .i64 aD)).set 4 (.string (bA s.toList))
       rw[FP]at h
       have e5:(eZ {m with aD:=aD,ah:=s.toList})=((eZ {m with aD:=0,ah:= []}).set 3 (.int .i64 aD)).set 4 (.string s):=by
        show _= [_,_,_,_,Value.string s,_,_,_,_,_];unfold eZ;rw[FP]
       rw[e5];exact h
    ·have h1:(aD==1)=false:=aV.2 λh=>hm (.inl h)
     have h2:(aD==2)=false:=aV.2 λh=>hm (.inr h)
     have HHM:=hd' hm;clear hm;go_wp2_with fail
     all_goals go_end0
     all_goals exact⟨by(rfl),by rw[alj.o',aj (λh=>HHM.o' h.2)];exact HR2.o',uP.o'⟩
end Go.Proofs.YtnlbcifhedjbfaaGreatDoor.Rd
end
section
namespace Go.Proofs.YtnlbcifhedjbfaaGreatDoor.Rd
open Go.RowKit Mem
theorem Wx {w w':af} {b:Nat} {u:af} (h:Below w.heap.size w u) (hb:w.heap.size<=b) (k:az (Only b) u w'):Below w.heap.size w w' :=
 h.trans ⟨k.os,k.tape,k.output,k.size,λj hj=>k.block j (fA hj h.size) (λe=>by have e':j=b:=e;omega)⟩
theorem Y9 {F:Nat->Prop} {a w:af} (h:az F a w) (n:Nat):az F a (w.drewN n):=⟨h.os,h.tape,h.output,h.size,h.block⟩
def Tn (base:Nat) (o:Option pq×gP) (r:Ending) (w':af):Prop:=match o.1 with
 |some x=> ∃sl,r= .returned (.tuple #[nz sl x,.int .i64 0])/\w'.ownsRow base 128 2 sl x.aA.length (bz (wL x.aA))
 |none=>r= .returned (.tuple #[nz (.slice none 0 0) (if o.2.dJ≠0 then Ve else zU 6),.int .i64 o.2.dJ])
theorem ack {base:Nat} {o:Option pq×gP} {x:pq} {m:gP} {r:Ending} {w':af} (h:o=(some x,m)) (hr: ∃sl,r= .returned (.tuple #[nz sl x,.int .i64 0])/\w'.ownsRow base 128 2 sl x.aA.length (bz (wL x.aA))):Tn base o r w':=by
 rw[h];exact hr
theorem PE {base:Nat} {o:Option pq×gP} {m:gP} {r:Ending} {w':af} (h:o=(none,m)) (hr:r= .returned (.tuple #[nz (.slice none 0 0) (if m.dJ≠0 then Ve else zU 6),.int .i64 m.dJ])):Tn base o r w':=by
 rw[h];exact hr
def Oq (s:bH):gP:= {ajt with bn:=kr false s,cr:=EJ false s,dO:=true}
theorem agI (s:ae) (w:af) (hs:s.size<=100000000) :
 Calls prog 10 #[.string s] w λr w'=>r= .returned (.pointer (some ⟨w.heap.size,0,none⟩))/\Row w' w.heap.size (eZ (Oq s.toList))/\Below w.heap.size w w':=by
 go_enter func10,ntmps10
 go_wp2_with fail
 refine(ahS ajt w.heap.size s _ (Row.alloc w _ _) (by show 0+_<=_;omega)).mono ?_;rintro r W1 ⟨rfl,r1,k1⟩;obtain⟨-, -,hf2, -⟩:=gD r1;obtain⟨-, -,hc2, -⟩:=dA r1;have HR1:=hd' r1;have HB1:=hd' (Wx ((aQ _ w).alloc (ay _) _) (ay _) k1);clear k1 r1;dsimp only;go_wp2_with fail
 go_ret;exact⟨rfl,HR1.o'.set 2 (.bool true),HB1.o'.setCell (ay _) _⟩
theorem YI {w:af} {b:Nat} {m:gP} (h:Row w b (eZ m)) (v:Bool):Row (w.setCell ⟨b,5,none⟩ (.bool v)) b (eZ {m with CG:=v}):=h.set 5 (.bool v)
theorem ZU (m:gP) (b:Nat) (v:Bool) (w:af) (hr:Row w b (eZ m)) :
 Calls prog 17 #[.pointer (some ⟨b,0,none⟩),.bool v] w λr w'=>r= .returned (.tuple #[])/\Row w' b (eZ {m with CG:=v})/\az (Only b) w w':=by
 have c5:w.cell? ⟨b,5,none⟩=some (.bool m.CG):=hr.cell (j:=5) rfl;have f5:w.frozen? ⟨b,5,none⟩=false:=hr.frozen (j:=5) (by simp[eZ]);have HR:=hd' (YI hr v);clear hr;go_enter func17,ntmps17
 go_wp2_with fail
 go_end0
 exact⟨by(rfl),HR.o',bM (az.refl _ _) _⟩
end Go.Proofs.YtnlbcifhedjbfaaGreatDoor.Rd
end
section
namespace Go.Proofs.YtnlbcifhedjbfaaGreatDoor.Rd
open Mem
theorem O7 (m:gP) (e:Bool):(pz m e).1.ah.length<=2049:=by
 have hp:(dI (m.bn.take 2049) e).1.ah.length<=2049:=by
  unfold dI;cases hu:fH BV ((m.bn.take 2049).drop (if e then 2 else 1))with
  |none=>exact bD _
  |some q =>
   obtain⟨nm,r⟩:=q;have hl:=(kT hu).1;rw[dN,fV]at hl;have hn:(kK nm).length<=2049:=by unfold kK;rw[Ir];omega
   cases ht:mO [] r with
   |none=>simp only[ht];exact bD _
   |some q =>
    obtain⟨al,sl,r2⟩:=q;simp only[ht];cases e
    ·simp only[gQ,dM];split
     ·exact bD _
     ·exact hn
    ·exact hn
 unfold pz;simp only;obtain⟨er,her⟩: ∃er,er=if(dI (m.bn.take 2049) e).2.1>2048\/((dI (m.bn.take 2049) e).2.1<0/\2048<(m.bn.take 2049).length)then(41:Int)else(dI (m.bn.take 2049) e).2.2:=⟨_,rfl⟩
 rw[<-her];by_cases h0:er=0
 ·rw[aj (λhh=>hh h0)];by_cases hn:(dI (m.bn.take 2049) e).2.1<0
  ·rw[au hn];exact bD _
  ·rw[aj hn];exact hp
 ·rw[au h0];exact bD _
theorem Um {m:gP} {e:Bool} (h:(pz m e).2.1=true):(pz m e).2.2.2.dJ=m.dJ:=by
 unfold pz at h |-;simp only at h |-;obtain⟨er,her⟩: ∃er,er=if(dI (m.bn.take 2049) e).2.1>2048\/((dI (m.bn.take 2049) e).2.1<0/\2048<(m.bn.take 2049).length)then(41:Int)else(dI (m.bn.take 2049) e).2.2:=⟨_,rfl⟩
 rw[<-her]at h |-;by_cases h0:er=0
 ·rw[aj (λhh=>hh h0)]at h |-;by_cases hn:(dI (m.bn.take 2049) e).2.1<0
  ·rw[au hn]at h;cases h
  ·rw[aj hn];cases e <;>rfl
 ·rw[au h0]at h;cases h
theorem Pv (m:gP):(qb m).2.2.2.dJ=m.dJ/\(qb m).1.ah= []:=by
 have yZ: ∀m':gP,m'.dJ=m.dJ->(iP m').2.2.2.dJ=m.dJ/\(iP m').1.ah= []:=λm' h=>by
  unfold iP;simp only
  repeat' split
  all_goals exact⟨h,rfl⟩
 unfold qb;split
 ·unfold Kn;split
  ·split
   ·exact⟨rfl,rfl⟩
   ·split
    ·exact⟨rfl,rfl⟩
    ·split
     ·exact⟨rfl,rfl⟩
     ·exact yZ _ rfl
  ·exact yZ m rfl
 ·split
  ·repeat' split
   all_goals exact⟨rfl,rfl⟩
  ·unfold TF;simp only
   repeat' split
   all_goals exact⟨rfl,rfl⟩
theorem U8 {m:gP} (h:(dh m).2.1=true):(dh m).2.2.2.dJ=m.dJ/\(dh m).1.ah.length<=2049:=by
 unfold dh at h |-;split
 ·rename_i h0;rw[au h0]at h;unfold wu at h |-;simp only at h |-;generalize dL m m.bn=p at *;by_cases ht:p.1= []
  ·rw[aj (λhh=>hh ht)]at h |-;by_cases i2:p.2.2=2
   ·rw[au i2]at h |-;exact⟨Um h,O7 _ _⟩
   ·rw[aj i2]at h |-;by_cases i3:p.2.2=3
    ·rw[au i3]at h |-;exact⟨Um h,O7 _ _⟩
    ·rw[aj i3]at h |-
     repeat' split at h
     all_goals cases h
  ·rw[au ht];exact⟨rfl,bD _⟩
 ·exact⟨(Pv m).1,by rw[(Pv m).2];exact bD _⟩
theorem Mj: ∀(n:Nat) (m:gP),vJ m<=n-> ∀x m1,fF m=(some x,m1)->m1.dJ=0/\x.ah.length<=2049:=by
 intro n
 induction n using Nat.strongRecOn with
 |_ n ih =>
  intro m hm x m1 h;by_cases he:m.dJ=0
  ·cases ht:(dh m).2.1
   ·cases hs:(dh m).2.2.1
    ·rw[xz he ht hs]at h;have hl:=tF m (.inr hs);exact ih (vJ (dh m).2.2.2) (by omega) _ (ay _) x m1 h
    ·rw[rO he ht hs]at h;cases h
   ·rw[rM he ht]at h;cases h;exact⟨(U8 ht).1.trans he,(U8 ht).2⟩
  ·rw[wP he]at h;cases h
end Go.Proofs.YtnlbcifhedjbfaaGreatDoor.Rd
end
section
namespace Go.Proofs.YtnlbcifhedjbfaaGreatDoor.Rd
open Go.RowKit Mem
theorem XF (m:gP): ∀(n:Nat) (s:bH),s.length<=n->(dL m s).1.length+2*(dL m s).2.1.length<=2*s.length:=by
 intro n
 induction n with
 |zero =>
  intro s hs;obtain rfl:s= []:=rF (by omega);rw[dL];exact ay _
 |succ n ih =>
  intro s hs;cases s with
  |nil=>rw[dL];exact ay _
  |cons c r =>
   simp only[dB]at hs;have ih0:=ih r (by omega);rw[dL];split
   ·split
    ·simp only[dB];omega
    ·simp only[dB,kQ];omega
   ·split
    ·split
     ·simp only[dB,kQ];omega
     ·have ihk:=ih (r.drop ((bG (c::r) false).2-1)) (by rw[dN];omega);rw[dN]at ihk;have hle:=FO (c::r) false;simp only[dB]at hle;by_cases h0:(bG (c::r) false).2=0
      ·rw[au h0,fC];simp only[dB,kQ];rw[h0]at ihk |-;simp only[Nat.zero_sub,Ef]at ihk |-;omega
      ·rw[aj h0,fC];have h1:=gL (c::r) false h0;simp only[dB];omega
    ·simp only[dB];omega
theorem UU (s:bH) (e:Bool):(dI s e).1.aL= []:=by
 unfold dI
 repeat' split
 all_goals rfl
theorem abL (m:gP) (e:Bool):(pz m e).1.aL= []:=by
 unfold pz;simp only
 repeat' split
 all_goals first|rfl|exact UU _ _
theorem acd {m:gP}:(dh m).1.aL.length+2*(dh m).2.2.2.bn.length<=2*m.bn.length:=by
 have hk:=(zC m).2
 have he:(dh m).1.aL= []->(dh m).1.aL.length+2*(dh m).2.2.2.bn.length<=2*m.bn.length:=λh=>by
  rw[h,kQ];omega
 by_cases hp:m.gY=0
 ·have e1:dh m=wu m:=by unfold dh;rw[au hp]
  rw[e1]at hk he |-;have hr:=XF m _ m.bn (ay _);unfold wu at he |-;simp only at he |-;by_cases h1:(dL m m.bn).1≠ []
  ·rw[au h1];exact hr
  ·rw[aj h1]at he |-;refine he ?_
   repeat' split
   all_goals first|rfl|exact abL _ _
 ·have e1:dh m=qb m:=by unfold dh;rw[aj hp]
  rw[e1]at hk he |-;have hd: ∀(m:gP) n,(mR m n).1.aL= []:=λ_ _=>rfl
  have hl: ∀m':gP,(iP m').1.aL= []:=λm'=>by
   unfold iP;simp only
   repeat' split
   all_goals rfl
  by_cases h1:m.gY=1
  ·refine he ?_;unfold qb;rw[au h1];unfold Kn
   repeat' split
   all_goals first|rfl|exact hl _
  ·by_cases h2:m.gY=2
   ·refine he ?_;unfold qb;rw[aj h1,au h2]
    repeat' split
    all_goals rfl
   ·have e2:qb m=TF m:=by unfold qb;rw[aj h1,aj h2]
    rw[e2];unfold TF;simp only;split
    ·show(m.bn.take _).length+2*(m.bn.drop _).length<=_;rw[fV,dN];omega
    ·split
     ·show m.bn.length+2*0<=_;omega
     ·show(m.bn.take _).length+2*(m.bn.drop _).length<=_;rw[fV,dN];omega
theorem Yb: ∀(n:Nat) (m:gP),vJ m<=n-> ∀x m1,fF m=(some x,m1)->x.aL.length+2*m1.bn.length<=2*m.bn.length:=by
 intro n
 induction n using Nat.strongRecOn with
 |_ n ih =>
  intro m hm x m1 h;by_cases he:m.dJ=0
  ·cases ht:(dh m).2.1
   ·cases hs:(dh m).2.2.1
    ·rw[xz he ht hs]at h;have hl:=tF m (.inr hs);have:=ih (vJ (dh m).2.2.2) (by omega) _ (ay _) x m1 h;have:=(zC m).2;omega
    ·rw[rO he ht hs]at h;cases h
   ·rw[rM he ht]at h;cases h;exact acd
  ·rw[wP he]at h;cases h
theorem UI: ∀(n:Nat) (m:gP),vJ m<=n->(fF m).2.ah=m.ah/\(fF m).2.bn.length<=m.bn.length:=by
 intro n
 induction n using Nat.strongRecOn with
 |_ n ih =>
  intro m hm;by_cases he:m.dJ=0
  ·have hk:=zC m;cases ht:(dh m).2.1
   ·cases hs:(dh m).2.2.1
    ·rw[xz he ht hs];have hl:=tF m (.inr hs);have:=ih (vJ (dh m).2.2.2) (by omega) _ (ay _);exact⟨this.1.trans hk.1,bY this.2 hk.2⟩
    ·rw[rO he ht hs];exact hk
   ·rw[rM he ht];exact hk
  ·rw[wP he];exact⟨rfl,ay _⟩
theorem ady (m:gP) (b:Nat) (aD:Int) (s:ae) (w:af) (hr:Row w b (eZ m)) (hs:s.size<=4294967280) :
 Calls prog 16 #[.pointer (some ⟨b,0,none⟩),.int .i64 aD,.string s] w λr w'=>r= .returned (.tuple #[])/\Row w' b (eZ (Br m aD s.toList))/\az (Only b) w w':=by
 have HR:=hd' hr;clear hr;go_enter func16,ntmps16
 go_wp2_with fail
 refine(ahE m b aD s w HR.o' hs).mono ?_;rintro r W1 ⟨rfl,r1,k1⟩;dsimp only;go_wp2_with fail
 go_end0
 exact⟨by(rfl),r1,k1⟩
theorem adx (m:gP) (b:Nat) (y:Int) (w:af) (hr:Row w b (eZ m)) (hm:wy w y) (hl:m.bn.length<=4294967280) (hn:m.ah.length<=4294967280) :
 Calls prog 12 #[.pointer (some ⟨b,0,none⟩)] w λr w'=>Tn w.heap.size (fF m) r w'/\Row w' b (eZ (fF m).2)/\az (Only b) w w':=by
 have hbw:=hr.lt;have hne:w.heap.size≠b:=by omega
 obtain⟨wa,kF⟩: ∃wa,wa=w.alloc (.cells cu 39):=⟨_,rfl⟩;have Ki:=hd' (show Row wa b (eZ m)from kF▸hr.kept (gu _ _ hbw));have ZJ:=hd' (show wa.heap[w.heap.size]?=some (.cells cu 39 (0,0))from by rw[kF];exact eU _ _);have TJ:=hd' (show az (Only b) w wa from kF▸(az.refl (Only b) w).alloc _);have HMa:=hd' (show wy wa y from by rw[kF];exact aM ((aQ w.heap.size w).alloc (ay _) _) hm);have Jc:w.heap.size<wa.heap.size:=by rw[kF];simp
 have zb:Hid (wa=w.alloc (.cells #[.int .i64 0,.string ⟨#[]⟩,.slice none 0 0,.bool false,.string ⟨#[]⟩] 39)):=kF;have HRN:=hd' (Mj _ m (ay _));obtain⟨q,hq⟩: ∃q,q=fF m:=⟨_,rfl⟩;have HRD:=hd' (aes m b y wa Ki.o' HMa.o' hl hn);rw[<-hq]at HRN HRD |-;clear kF hr hm hq;go_enter func12,ntmps12
 go_wp2_with fail
 rw[<-zb.o'];clear zb;refine HRD.o'.mono ?_;rintro r W1 ⟨hra,r1,k1⟩;clear HRD;obtain⟨ox,m1⟩:=q;obtain⟨-, -, -, -, -, -, -, -, -,hc9⟩:=dA r1;dsimp only at hc9 r1;have HZ1:=hd' (fq ZJ.o' k1 Jc hne);have wE:=hd' (TJ.o'.trans k1);have HR1:=hd' r1;have hbW:=r1.lt;have hz1:w.heap.size<W1.heap.size:=fA Jc k1.size;obtain⟨⟨q0,q1,q2,q3,q4⟩,f0,f1,f2,f3,f4⟩:=eY HZ1.o';clear k1 r1;cases ox with
 |none =>
  have apv:r= .returned (.tuple #[.agg #[.int .i64 0,.string ⟨#[]⟩,.slice none 0 0,.bool false,.string ⟨#[]⟩],.bool false]):=hra;subst apv;clear hra;by_cases he:m1.dJ=0
  ·have heb:(m1.dJ !=0)=false:=by rw[he];rfl
   have HE:=hd' he;clear he;dsimp only;go_wp2_with fail
   have hzp:w.heap.size<(wI W1 w.heap.size (.int .i64 6) (.string ⟨#[]⟩) (.slice none 0 0) (.bool false) (.string ⟨#[]⟩)).heap.size:=by simpa[wI] using hz1
   have hbp:b<(wI W1 w.heap.size (.int .i64 6) (.string ⟨#[]⟩) (.slice none 0 0) (.bool false) (.string ⟨#[]⟩)).heap.size:=by simpa[wI] using hbW
   refine bU (iI rfl _ _ w.heap.size _ _ _ _ rfl ((gu _ _ hzp).trans (eD HZ1.o' _ _ _ _ _)) fG rfl bP) rfl ?_;refine⟨PE rfl ?_,(dz HR1.o' (λe=>hne e.symm) _ _ _ _ _).kept (gu _ _ hbp),(bK wE.o' (ay _) _ _ _ _ _).alloc _⟩;rw[HE.o',aj (λh=>h rfl)];rfl
  ·have heb:(m1.dJ !=0)=true:=jJ.2 he;have HE:=hd' he;clear he;have avg:(W1.alloc (.cells #[.int .i64 0,.string ⟨#[]⟩,.slice none 0 0,.bool false,.string ⟨#[]⟩] 39)).cell? ⟨b,9,none⟩=some (.int .i64 m1.dJ):=aM ((aQ _ _).alloc (ay _) _) hc9;dsimp only;go_wp2_with fail
   go_region
   all_goals go_wp2_with fail
   all_goals
    have hzp:w.heap.size<(wI W1 w.heap.size (.int .i64 0) (.string ⟨#[]⟩) (.slice none 0 0) (.bool false) (.string ⟨#[]⟩)).heap.size:=by simpa[wI] using hz1
    have hbp:b<(wI W1 w.heap.size (.int .i64 0) (.string ⟨#[]⟩) (.slice none 0 0) (.bool false) (.string ⟨#[]⟩)).heap.size:=by simpa[wI] using hbW
   all_goals refine bU (iI rfl _ _ w.heap.size _ _ _ _ rfl (qA ((gu _ _ hzp).trans (eD HZ1.o' _ _ _ _ _))) fG rfl bP) rfl ?_
   all_goals refine⟨PE rfl ?_,qR ((dz HR1.o' (λe=>hne e.symm) _ _ _ _ _).kept (gu _ _ hbp)),Y9 ((bK wE.o' (ay _) _ _ _ _ _).alloc _) 1⟩
   all_goals rw[au HE.o']
   all_goals rfl
 |some x =>
  obtain⟨sl,rfl,hown⟩: ∃sl,r= .returned (.tuple #[nz sl x,.bool true])/\W1.ownsRow wa.heap.size 128 2 sl x.aA.length (bz (wL x.aA)):=hra;have he:=(HRN.o' x m1 rfl).1;rw[he]at hc9;obtain⟨a,c,hsl, -⟩:=fJ hown;subst hsl;have HOW:=hd' hown;clear hown he;dsimp only[nz];go_wp2_with fail
  have hzp:w.heap.size<(wI W1 w.heap.size (.int .i64 x.aH) (.string (bA x.ah)) (.slice a x.aA.length c) (.bool x.self) (.string (bA x.aL))).heap.size:=by simpa[wI] using hz1
  have hbp:b<(wI W1 w.heap.size (.int .i64 x.aH) (.string (bA x.ah)) (.slice a x.aA.length c) (.bool x.self) (.string (bA x.aL))).heap.size:=by simpa[wI] using hbW
  refine bU (iI rfl _ _ w.heap.size _ _ _ _ rfl ((gu _ _ hzp).trans (eD HZ1.o' _ _ _ _ _)) fG rfl bP) rfl ?_;exact⟨ack rfl ⟨.slice a x.aA.length c,rfl,ji ((tC HOW.o' Jc _ _ _ _ _).alloc _) (lZ Jc)⟩,(dz HR1.o' (λe=>hne e.symm) _ _ _ _ _).kept (gu _ _ hbp),(bK wE.o' (ay _) _ _ _ _ _).alloc _⟩
end Go.Proofs.YtnlbcifhedjbfaaGreatDoor.Rd
end
section
namespace Go.Proofs.YtnlbcifhedjbfaaGreatDoor.Rd
open Mem
theorem TQ {r v t:bH} (h:mD r=some (v,t)):v.length<=r.length:=by
 have h0:=kP je r;unfold mD at h;split at h
 ·cases h
 ·rename_i q r1 he;rw[he]at h0;split at h
  ·cases hu:fH [q] r1 with
   |none=>rw[hu]at h;cases h
   |some p =>
    rw[hu]at h;simp only[sP,dQ,nP]at h;have:=(kT hu).1;rw[<-h.1];simp only[dB]at h0;omega
  ·have:=(kT h).1;omega
theorem Zx {s r:bH} {a:bH×bH} (h:wD s=some (a,r)):a.2.length<=2*s.length:=by
 cases s with
 |nil=>cases h
 |cons c s =>
  simp only[wD]at h;split at h
  ·cases h
  ·rename_i t r2 hu;have h1:=(kT hu).1;have h2:=kP je r2;split at h
   ·cases h
   ·rename_i d r4 he;rw[he]at h2;simp only[dB]at h2 |-;split at h
    ·cases hv:mD r4 with
     |none=>rw[hv]at h;cases h
     |some p =>
      rw[hv]at h;simp only[sP,dQ,nP]at h;have h3:=TQ (v:=p.1) (t:=p.2) hv;have h4:=WL true _ p.1 (ay _);rw[<-h.1];show(uO p.1 true).length<=_;omega
    ·simp only[dQ,nP]at h;rw[<-h.1];exact bD _
theorem XO (B:Nat): ∀(n:Nat) (ats:List (bH×bH)) (r:bH),r.length<=n->2*r.length<=B->(∀a∈ats,a.2.length<=B)-> ∀al sl r2,mO ats r=some (al,sl,r2)-> ∀a∈al,a.2.length<=B:=by
 intro n
 induction n with
 |zero =>
  intro ats r hr _ ha al sl r2 h;have:r= []:=rF (by omega);subst this;rw[mO]at h;cases h
 |succ n ih =>
  intro ats r hr hB ha al sl r2 h;have h0:=kP zL r;rw[mO]at h;split at h
  ·cases h
  ·rename_i c r1 he;rw[he]at h0;split at h
   ·simp only[dQ,nP]at h;rw[<-h.1];exact ha
   ·split at h
    ·cases h
    ·rename_i a r3 hat;have h1:=Zx hat;have h2:=Jw hat;split at h
     ·rename_i hlt;refine ih _ r3 (by omega) (by omega) (λx hx=> ?_) al sl r2 h;split at hx
      ·exact ha x hx
      ·rcases fB.1 hx with hx|hx
       ·exact ha x hx
       ·rw[dG.1 hx];omega
     ·cases h
theorem UW (s:bH) (e:Bool): ∀a∈(dI s e).1.aA,a.2.length<=2*s.length:=by
 intro a ha;unfold dI at ha;split at ha
 ·cases ha
 ·rename_i nm r hu;have h1:=(kT hu).1;rw[dN]at h1;split at ha
  ·cases ha
  ·rename_i al sl r2 ht;have h2:=XO (2*s.length) r.length [] r (ay _) (by omega) (λ_ h=>by cases h) al sl r2 ht;split at ha
   ·cases ha
   ·split at ha
    ·cases ha
    ·exact h2 a ha
theorem O6 (m:gP) (e:Bool): ∀a∈(pz m e).1.aA,a.2.length<=4098:=by
 have hp:=UW (m.bn.take 2049) e;have hl:(m.bn.take 2049).length<=2049:=by rw[fV];omega
 unfold pz;simp only;obtain⟨er,her⟩: ∃er,er=if(dI (m.bn.take 2049) e).2.1>2048\/((dI (m.bn.take 2049) e).2.1<0/\2048<(m.bn.take 2049).length)then(41:Int)else(dI (m.bn.take 2049) e).2.2:=⟨_,rfl⟩
 rw[<-her];by_cases h0:er=0
 ·rw[aj (λhh=>hh h0)];by_cases hn:(dI (m.bn.take 2049) e).2.1<0
  ·rw[au hn];intro a ha;cases ha
  ·rw[aj hn];intro a ha;have:=hp a ha;omega
 ·rw[au h0];intro a ha;cases ha
theorem Ym (m:gP):(qb m).1.aA= []:=by
 have yZ: ∀m':gP,(iP m').1.aA= []:=λm'=>by
  unfold iP;simp only
  repeat' split
  all_goals rfl
 unfold qb;split
 ·unfold Kn
  repeat' split
  all_goals first|rfl|exact yZ _
 ·split
  ·repeat' split
   all_goals rfl
  ·unfold TF;simp only
   repeat' split
   all_goals rfl
theorem acf (m:gP): ∀a∈(dh m).1.aA,a.2.length<=4098:=by
 unfold dh;split
 ·unfold wu;simp only;generalize dL m m.bn=p at *;by_cases ht:p.1= []
  ·rw[aj (λhh=>hh ht)];by_cases i2:p.2.2=2
   ·rw[au i2];exact O6 _ _
   ·rw[aj i2];by_cases i3:p.2.2=3
    ·rw[au i3];exact O6 _ _
    ·rw[aj i3]
     repeat' split
     all_goals (intro a ha;cases ha)
  ·rw[au ht];intro a ha;cases ha
 ·rw[Ym];intro a ha;cases ha
theorem Yc: ∀(n:Nat) (m:gP),vJ m<=n-> ∀x m1,fF m=(some x,m1)-> ∀a∈x.aA,a.2.length<=4098:=by
 intro n
 induction n using Nat.strongRecOn with
 |_ n ih =>
  intro m hm x m1 h;by_cases he:m.dJ=0
  ·cases ht:(dh m).2.1
   ·cases hs:(dh m).2.2.1
    ·rw[xz he ht hs]at h;have hl:=tF m (.inr hs);exact ih (vJ (dh m).2.2.2) (by omega) _ (ay _) x m1 h
    ·rw[rO he ht hs]at h;cases h
   ·rw[rM he ht]at h;cases h;exact acf m
  ·rw[wP he]at h;cases h
end Go.Proofs.YtnlbcifhedjbfaaGreatDoor.Rd
end
