/- oZ joined for a claim: asC, aqH, asB, aql: plain laws and contracts. No conditions beyond those that each lemma types. -/
import Derived.Test.YtnlbcifhedjbfaaGreatDoorU01
import Derived.BigQuiet
import Derived.Deep.AppendLies
import Derived.Deep.DeepMust
import Derived.Deep.QuietTactic
import Derived.Test.YtnlbcifhedjbfaaGreatDoorRows
import Derived.Test.YtnlbcifhedjbfaaGreatDoorU02
import Derived.Test.YtnlbcifhedjbfaaGreatDoorU03
import Derived.Deep.RegionLaw
import Derived.Shelf.Abstract
import Derived.Deep.LoopGhost
import Derived.Deep.RegionHeld3
import Derived.Shelf.Slices.Cells
import Derived.Shelf.Spec.SlicesInsert
import Derived.Shelf.Spec.SlicesInsertGrow
set_option linter.unusedVariables false
set_option linter.unusedSimpArgs false
set_option maxRecDepth 100000
set_option maxHeartbeats 8000000
open Go.Proofs.Tryz
section
namespace Go.Proofs.YtnlbcifhedjbfaaGreatDoor
open Go.RowKit Mem
theorem CZ:(prog.info? 3).map (λi=>(i.zero,i.size,i.bytes))=some (some (.int .i64 0),1,8):=by kernel_rfl
theorem oz {w:af} {base:Nat} {e:TypeId} {v:ak} {n:Nat} {xs:List ak} (h:w.ownsRow base e 1 v n xs): ∃a c,v= .slice a n c/\At w a xs/\(a=none->c=0):=by
 rcases h.2 with⟨rfl,rfl⟩|⟨g,cap,di,rfl,_⟩
 ·have hx:xs= []:=rF (by have:=h.1;omega);subst hx;exact⟨none,0,rfl,At.nil _ _,λ_=>rfl⟩
 ·exact⟨_,_,rfl,(jh h).at,λh=>by cases h⟩
def JC (w:af) (v:ak) (gs:Option Nat) (l:List Int):Prop:=w.ownsRow 0 3 1 v l.length (bB l)/\v.ownBlock=gs
theorem JC.lt {w:af} {v:ak} {gs:Option Nat} {l:List Int} (h:JC w v gs l): ∀k,gs=some k->k<w.heap.size:=λk hk=>(h.1.lt k (h.2.trans hk)).2
theorem JC.kept {w w':af} {v:ak} {gs:Option Nat} {l:List Int} (h:JC w v gs l) (hk: ∀k,gs=some k->w'.heap[k]?=w.heap[k]?):JC w' v gs l:=⟨gH h.1 λg hg=>hk g (h.2.symm.trans hg),h.2⟩
theorem JC.nil (w:af):JC w (.slice none 0 0) none []:=⟨jY _ _ _ _,rfl⟩
def qZ (w:af) (sb tb:Nat) (gs:Option Nat) (l:List Int):Prop :=
 ∃v,w.heap[sb]?=some (.cells #[.pointer (some ⟨tb,0,none⟩),v] 88 (0,0))/\JC w v gs l/\gs≠some sb
def SB (sb:Nat) (gs:Option Nat):Nat->Prop:=λk=>k=sb\/gs=some k
section
variable {w w':af} {sb tb:Nat} {gs:Option Nat} {l:List Int}
theorem qZ.lt (h:qZ w sb tb gs l): ∀k,SB sb gs k->k<w.heap.size:=by
 obtain⟨v,h1,h2,_⟩:=h;rintro k (rfl|hk)
 ·exact fZ h1
 ·exact h2.lt k hk
theorem qZ.kept {F:Nat->Prop} (h:qZ w sb tb gs l) (hk:az F w w') (hF: ∀k,SB sb gs k-> ¬F k):qZ w' sb tb gs l:=by
 have hlt:=h.lt;obtain⟨v,h1,h2,h3⟩:=h;exact⟨v,(hk.block sb (hlt sb (.inl rfl)) (hF sb (.inl rfl))).trans h1,h2.kept λk hk'=>hk.block k (hlt k (.inr hk')) (hF k (.inr hk')),h3⟩
theorem qZ.below (h:qZ w sb tb gs l) (hb:Below w.heap.size w w'):qZ w' sb tb gs l:=h.kept (F:=λ_=>False) (az.bC hb) λ_ _ h=>h
theorem qZ.cells (h:qZ w sb tb gs l): ∃a c,w.cell? ⟨sb,0,none⟩=some (.pointer (some ⟨tb,0,none⟩))/\w.cell? ⟨sb,1,none⟩=some (.slice a l.length c)/\At w a (bB l)/\JC w (.slice a l.length c) gs l/\w.frozen? ⟨sb,1,none⟩=false /\
 w.heap[sb]?=some (.cells #[.pointer (some ⟨tb,0,none⟩),.slice a l.length c] 88 (0,0))/\(a=none->c=0)/\gs≠some sb:=by
 obtain⟨v,h1,h2,h3⟩:=h;obtain⟨a,c,rfl,hat,hn⟩:=oz h2.1;have hr:Row w sb [.pointer (some ⟨tb,0,none⟩),.slice a l.length c]:=⟨_,_,_,_,h1,rfl,.inr rfl⟩;exact⟨a,c,hr.cell (j:=0) rfl,hr.cell (j:=1) rfl,hat,h2,hr.frozen (j:=1) (by simp),h1,hn,h3⟩
end
theorem fM (w:af) (n:Nat):Below w.heap.size w (w.drewN n):=⟨rfl,rfl,rfl,ay _,λ_ _=>rfl⟩
def aT:List Int->Int->Int
 | [],_=> -1
 |x::r,n=>if 0<=aT r n then aT r n+1 else if x=n then 0 else -1
theorem dC: ∀(l:List Int) (n:Int), -1<=aT l n/\aT l n<l.length/\(∀(k:Nat) (h:k<l.length),aT l n<k->l[k]≠n)/\ ∀(k:Nat) (h:k<l.length),aT l n=k->l[k]=n
 | [],n=>by simp[aT]
 |x::r,n=>by
  obtain⟨h1,h2,h3,h4⟩:=dC r n;unfold aT;by_cases hr:0<=aT r n
  ·rw[au hr];refine⟨by omega,by simp only[dB];omega,?_,?_⟩
   ·intro k hk hlt;cases k with
    |zero=>exact absurd hlt (by simp;omega)
    |succ k=>exact h3 k (by simpa using hk) (by omega)
   ·intro k hk he;cases k with
    |zero=>exact absurd he (by simp;omega)
    |succ k=>exact h4 k (by simpa using hk) (by omega)
  ·rw[aj hr];by_cases hx:x=n
   ·rw[au hx];refine⟨by omega,by simp,?_,?_⟩
    ·intro k hk hlt;cases k with
     |zero=>exact absurd hlt (by simp)
     |succ k=>exact h3 k (by simpa using hk) (by omega)
    ·intro k hk he;cases k with
     |zero=>exact hx
     |succ k=>exact absurd he (by omega)
   ·rw[aj hx];refine⟨by omega,by simp only[dB];omega,?_,?_⟩
    ·intro k hk hlt;cases k with
     |zero=>exact hx
     |succ k=>exact h3 k (by simpa using hk) (by omega)
    ·intro k hk he;exact absurd he (by omega)
theorem vk {l:List Int} {n i:Int} (h1: -1<=i) (h2:i<l.length) (h3: ∀(k:Nat) (h:k<l.length),i<k->l[k]≠n) (h4: ∀(k:Nat) (h:k<l.length),i=k->l[k]=n):aT l n=i:=by
 obtain⟨q1,q2,q3,q4⟩:=dC l n;rcases Int.lt_trichotomy (aT l n) i with h|h|h
 ·have hk:i=(i.toNat:Int):=by omega
  exact absurd (h4 i.toNat (by omega) hk) (q3 i.toNat (by omega) (by omega))
 ·exact h
 ·have hk:aT l n=((aT l n).toNat:Int):=by omega
  exact absurd (q4 (aT l n).toNat (by omega) hk) (h3 (aT l n).toNat (by omega) (by omega))
section
variable (w:af) (sb tb:Nat) (gs:Option Nat) (l:List Int)
theorem ahD:Calls prog 20 #[.pointer (some ⟨tb,0,none⟩)] w λe w'=>e= .returned (.pointer (some ⟨w.heap.size,0,none⟩))/\qZ w' w.heap.size tb none []/\Below w.heap.size w w'/\w.heap.size<w'.heap.size:=by
 go_enter func20,ntmps20
 go_wp2
 go_ret;exact⟨rfl,⟨.slice none 0 0,eU _ _,JC.nil _,by simp⟩,(aQ _ _).alloc (ay _) _,by simp⟩
theorem Ri (h:qZ w sb tb gs l) (hl:l.length<=1048576):Calls prog 97 #[.pointer (some ⟨sb,0,none⟩)] w λe w'=> ∃v,e= .returned v/\w'.ownsRow w.heap.size 3 1 v l.length (bB l)/\Below w.heap.size w w':=by
 have hlt:=h.lt sb (.inl rfl);obtain⟨a,c,c0,c1,hat,hown,_,_,hc0,_⟩:=h.cells;have HK:=hd' (hat.below ((aQ _ _).alloc (ay _) (.cells #[] 3)));have HE:Hid ((w.alloc (.cells #[] 3)).ownsRow w.heap.size 3 1 (.slice (some ⟨w.heap.size,0,none⟩) 0 0) 0 []):=oI w #[] 0 (ay _) (bD _) rfl;have H3:=hd' hc0;obtain⟨i0,hi,hz0,hz1,hz2⟩:=lY CZ;have b0:0+l.length<=maxLen:=by unfold maxLen;omega
 have b1:(0+l.length)*8<=140737488355328:=by omega
 have W9:=hd' (show(bB l).length=l.length*1 by rw[eu,Eg]);have HZ:Hid (w.heap.size<=(w.alloc (.cells #[] 3)).heap.size):=by show _<=_;simp
 clear h hat hown hc0;go_enter func97,ntmps97
 go_wp2_with (at_builtin;refine kz _ rfl _ _ 65 rfl w.heap.size 3 i0 _ 1 8 oJ hi hz0 hz1 hz2 rfl (by decide) _ 0 [] rfl HE.o' a l.length c (bB l) rfl W9.o' H3.o' HK.o' (jl l) b0 b1 HZ.o' ?_;intro v2 w2 hown2 mU;simp only[iM,jZ]at hown2;have OJ:=hd' hown2;have HG2:=hd' mU;clear hown2 mU)
 go_ret;exact⟨_,rfl,OJ.o',((aQ _ _).alloc (ay _) _).grown HG2.o' HZ.o' (λb h=>(HE.o'.lt b h).1)⟩
theorem aab (h:qZ w sb tb gs l) (hl:l.length<=1048576):Calls prog 42 #[.pointer (some ⟨sb,0,none⟩)] w λe w'=>e= .returned (.int .i64 (l.getLast?.getD 0))/\ ∃q,w'=w.drewN q:=by
 obtain⟨a,c,c0,c1,hat,hown,_⟩:=h.cells;rcases(show l= []\/ ∃r x,l=r++ [x]from(yM l).imp id λ⟨r,x,h⟩=>⟨r,x,by rw[h,yO]⟩)with rfl|⟨r,x,rfl⟩
 ·clear h hat hown;go_enter func42,ntmps42
  go_wp2_with fail
  go_ret;exact⟨rfl,0,rfl⟩
 ·obtain⟨bb,o,rfl⟩:=hat.tq (by simp[bB]);have hx:=hat.get (j:=r.length) (u:= .int .i64 x) (by rw[jI];simp[bB]);have hlen:(r++ [x]).length=r.length+1:=by simp
  have hlast:(r++ [x]).getLast?.getD 0=x:=by simp
  rw[hlen]at c1 hl;rw[hlast];generalize r.length=n at *;have q0:((n:Int)+1==0)=false:=by rw[aV];omega
  clear h hat hown hlen hlast;go_enter func42,ntmps42
  go_wp2_with fail
  go_quiet (fail)
  go_wp2
  go_ret;exact⟨rfl,_,rfl⟩
theorem FT (h:qZ w sb tb gs l) (n:Int) (hl:l.length<=1048576):Calls prog 152 #[.pointer (some ⟨sb,0,none⟩),.int .i64 n] w λe w'=>e= .returned (.int .i64 (aT l n))/\w=w':=by
 obtain⟨a,c,c0,c1,hat,_⟩:=h.cells;have HA:=hd' hat;clear h hat;go_enter func152,ntmps152
 go_wp2_with fail
 go_loop [5] (λq=> ∃k:Nat,k<=l.length/\q= .int .i64 ((k:Int)-1)/\ ∀(j:Nat) (h:j<l.length),k<=j->l[j]≠n) (λq=>(intOf q+1).toNat)
 case atStart=>exact⟨l.length,ay _,rfl,λj h h'=>absurd h (by omega)⟩
 case round =>
  obtain⟨k,hk,rfl,hno⟩:=hrel;have HN:=hd' hno;clear hno;cases k with
  |zero =>
   go_wp2_with fail
   go_ret;exact⟨iN (vk (by omega) (by omega) (λj h _=>HN.o' j h (by omega)) (λj h e=>absurd e (by omega))).symm,rfl⟩
  |succ k =>
   obtain⟨bb,o,rfl⟩:=HA.o'.tq (by intro h;have:=aW List.length h;rw[eu,kQ]at this;omega);have hx:=HA.o'.get (fw l k (by omega));have e1:((k+1:Nat):Int)-1=(k:Int):=by omega
   rw[e1];by_cases hq:l[k]=n
   ·have q0:(l[k]==n)=true:=by rw[cO];exact hq
    have HQ:=hd' hq;clear hq;go_wp2_with fail
    go_ret;exact⟨iN (vk (by omega) (by omega) (λj h hj=>HN.o' j h (by omega)) (λj h e=>(by obtain rfl:k=j:=(by omega);exact HQ.o'))).symm,rfl⟩
   ·have q0:(l[k]==n)=false:=by rw[aV];exact hq
    have HQ:=hd' hq;clear hq;go_wp2_with fail
    go_round
    case rel=>exact⟨k,by omega,by go_num,λj h hj=>if h':k<j then HN.o' j h h' else(by obtain rfl:k=j:=(by omega);exact HQ.o')⟩
    case measure=>simp[intOf]
end
theorem C8 {F:Nat->Prop} {a w w':af} {row:Option Nat} (h:az F a w) (hg:w.grownBy w' row) (hr: ∀k,row=some k->F k\/a.heap.size<=k):az F a w' :=
 ⟨hg.os.trans h.os,hg.tape.trans h.tape,hg.output.trans h.output,bY h.size hg.size,λk hk hF=>(hg.block k (fA hk h.size) λe=>by
  rcases hr k e.symm with h'|h'
  ·exact hF h'
  ·omega).trans (h.block k hk hF)⟩
section
variable (w:af) (sb tb:Nat) (gs:Option Nat) (l:List Int)
theorem aec (h:qZ w sb tb gs l) (n:Int) (hl:l.length<=1048576):Calls prog 105 #[.pointer (some ⟨sb,0,none⟩),.int .i64 n] w λe w' =>
 e= .returned (.tuple #[])/\ ∃g2,qZ w' sb tb (some g2) (l++ [n])/\(gs=some g2\/w.heap.size<=g2)/\az (SB sb gs) w w':=by
 have hlt:=h.lt sb (.inl rfl);have hgl:=λk hk=>h.lt k (.inr hk)
 obtain⟨a,c,c0,c1,hat,hown,_,hrow,_,hne⟩:=h.cells;have d1:(w.alloc (.cells #[.int .i64 n] 3)).heap[sb]?=w.heap[sb]?:=gu w _ hlt;have HQ:=hd' (hown.1.alloc (.cells #[.int .i64 n] 3));have HB0:Hid ((Value.slice a l.length c).ownBlock=gs):=hown.2;have HN:=hd' (show At (w.alloc (.cells #[.int .i64 n] 3)) (some ⟨w.heap.size,0,none⟩) (bB [n])from jy rfl rfl);obtain⟨i0,hi,hz0,hz1,hz2⟩:=lY CZ;have b0:l.length+1<=maxLen:=by unfold maxLen;omega
 have b1:(l.length+1)*8<=140737488355328:=by omega
 have hsz:sb<(w.alloc (.cells #[.int .i64 n] 3)).heap.size:=by simp;omega
 have HR:=hd' (d1.trans hrow);have Kr:Hid (some sb≠(Value.slice a l.length c).ownBlock):=hd' (by rw[HB0.o'];exact hne.symm);have HL:=hd' hgl;have HGS:=hd' hne;clear hrow hown hne hat d1 h hgl;go_enter func105,ntmps105
 go_wp2_with (at_builtin;refine Qz _ rfl _ _ 65 rfl 0 3 i0 _ 1 8 oJ hi hz0 hz1 hz2 rfl (by decide) _ l.length (bB l) rfl HQ.o' ⟨w.heap.size,0,none⟩ 1 1 (bB [n]) rfl rfl HN.o'.news (jl _) (by decide) b0 b1 (bD _) (w.heap.size+1) (by simp) ?_;intro g2 cap2 w2 hown2 mU lV hlt2;have hb2:=(mU.block sb hsz Kr.o').trans HR.o';have HRR:=hd' hb2;have s1:=Row.cell (xs:= [.pointer (some ⟨tb,0,none⟩),.slice a l.length c]) ⟨_,_,_,_,hb2,rfl,.inr rfl⟩ (j:=1) rfl;have f1:=Row.frozen (xs:= [.pointer (some ⟨tb,0,none⟩),.slice a l.length c]) ⟨_,_,_,_,hb2,rfl,.inr rfl⟩ (j:=1) (by simp);have OJ:=hd' hown2;have HG2:=hd' mU;have HA2:=hd' lV;clear hown2 mU hb2 lV)
 go_end0
 have hg2:gs=some g2\/w.heap.size+1=g2:=by
  rcases HA2.o' with h|h
  ·exact .inl (HB0.o'.symm.trans h)
  ·exact .inr h.symm
 have hne2:g2≠sb:=by
  rintro rfl;rcases hg2 with h|h
  ·exact HGS.o' h
  ·omega
 refine⟨rfl,g2,⟨.slice (some ⟨g2,0,none⟩) (l.length+1) cap2,mr (i:=1) HRR.o' _,⟨?_,rfl⟩,by simpa using hne2⟩,hg2.imp id (λh=>by omega),?_⟩
 ·have:=gH OJ.o' (w':=w2.setCell ⟨sb,1,none⟩ (.slice (some ⟨g2,0,none⟩) (l.length+1) cap2)) λb hb=>eG _ _ _ _ (by simp only[Value.ownBlock,dQ]at hb;subst hb;exact hne2)
  rw[jI,fC];exact this
 ·exact(C8 ((az.refl _ _).alloc _) HG2.o' λk hk=> .inl (.inr (HB0.o'.symm.trans hk))).set (p:=⟨sb,1,none⟩) (.inl (.inl rfl)) _
theorem Yq {w:af} {base:Nat} {e:TypeId} {a:Option Addr} {n c:Nat} {xs:List ak} {y:ak} (h:w.ownsRow base e 1 (.slice a (n+1) c) (n+1) (xs++ [y])) (hx:xs.length=n):w.ownsRow base e 1 (.slice a n c) n xs:=by
 rcases h.2 with⟨he,_⟩|⟨g,cap,di,he,hbg,hg,hnc,hcm,hcs,htake⟩
 ·cases he
 ·injection he with e1 _ e3;subst e1;subst e3;refine⟨by simpa using hx,.inr ⟨g,c,di,rfl,hbg,hg,by omega,hcm,hcs,?_⟩⟩;have h1:di.toList.take (n+1)=xs++ [y]:=by simpa using htake
  have h2:=aW (List.take n) h1;rw[QL,rE (wY n),<-hx,List.take_left]at h2;simpa[hx] using h2
theorem ahC (h:qZ w sb tb gs l) (hl:l.length<=1048576) :
 Calls prog 56 #[.pointer (some ⟨sb,0,none⟩)] w λe w'=>e= .returned (.int .i64 (l.getLast?.getD 0))/\qZ w' sb tb gs l.dropLast/\az (SB sb gs) w w':=by
 have HT:=hd' (aab w sb tb gs l h hl);have HS:=hd' h;rcases(show l= []\/ ∃r x,l=r++ [x]from(yM l).imp id λ⟨r,x,h⟩=>⟨r,x,by rw[h,yO]⟩)with rfl|⟨r,x,rfl⟩
 ·obtain⟨a,c,c0,c1,_⟩:=h.cells;clear h;go_enter func56,ntmps56
  go_wp2_with (go_at_call 42;refine HT.o'.mono ?_;rintro e w1 ⟨rfl,q,rfl⟩;have d1:=(show(w.drewN q).cell? ⟨sb,1,none⟩=some (.slice a 0 c)from c1))
  go_ret;exact⟨rfl,HS.o'.below (fM _ _),az.bC (fM _ _)⟩
 ·have hlast:(r++ [x]).getLast?.getD 0=x:=by simp
  rw[hlast]at HT |-;have hdrop:(r++ [x]).dropLast=r:=by simp
  rw[hdrop];have hlen:(r++ [x]).length=r.length+1:=by simp
  rw[hlen]at hl;clear h hlast hdrop;obtain⟨a,c,c0,c1,hat,hown,f1,hrow,hna,hne⟩:=HS.o'.cells;rw[hlen]at c1 hrow hown;obtain⟨bb,o,rfl⟩:=hat.tq (by simp[bB]);obtain⟨gg,cap,hv,_,hcn,hcm⟩:=qW hown.1 (by rw[hlen];exact KY _);injection hv with ea e2 ec;clear e2;injection ea with ea;injection ea with ea1 ea2 ea3;clear ea3;subst ea1;subst ea2;subst ec;rw[hlen]at hcn;unfold maxLen at hcm;have HOW:=hd' hown;have HR:=hd' hrow;have Kr:=hd' hne;clear hat hown hrow hna hne hlen;have HXL:Hid ((bB (r++ [x])).length=r.length+1):=hd' (by rw[eu];simp);have HLL:Hid ((r++ [x]).length=r.length+1):=hd' (by simp);generalize hnn:r.length=n at *;have q1:(n:Int)+1-1=(n:Int):=by omega
  go_enter func56,ntmps56
  go_wp2_with (go_at_call 42;refine HT.o'.mono ?_;rintro e w1 ⟨rfl,q,hw1⟩;have c1':=(show w1.cell? ⟨sb,1,none⟩=some (.slice (some ⟨bb,0,none⟩) (n+1) c)from(by rw[hw1];exact c1));have f1':=(show w1.frozen? ⟨sb,1,none⟩=false from(by rw[hw1];exact f1));have d1:=(show w1.drew.cell? ⟨sb,1,none⟩=some (.slice (some ⟨bb,0,none⟩) (n+1) c)from c1');have g1:=(show w1.drew.frozen? ⟨sb,1,none⟩=false from f1');have HW:=hd' hw1;clear hw1)
  go_region
  all_goals
   go_wp2
   go_ret;obtain rfl:=HW.o';have hgs:=HOW.o'.2;simp only[Value.ownBlock]at hgs;have hne2:bb≠sb:=by rintro rfl;exact Kr.o' hgs.symm
   have ho:=HOW.o'.1;rw[HLL.o',jI]at ho;have ho2:=Yq ho (by rw[eu,hnn]);refine⟨rfl,⟨.slice (some ⟨bb,0,none⟩) n c,mr (w:=w) (i:=1) HR.o' _,⟨?_,by simpa[Value.ownBlock] using hgs⟩,Kr.o'⟩,?_⟩
   ·rw[hnn];exact(gH ho2 (w':=w.setCell ⟨sb,1,none⟩ (.slice (some ⟨bb,0,none⟩) n c)) λb hb=>eG _ _ _ _ (by simp only[Value.ownBlock,dQ]at hb;subst hb;exact hne2))
   ·exact((az.bC (F:=SB sb gs) (fM w q)).set (p:=⟨sb,1,none⟩) (.inl (.inl rfl)) _).drew
end
end Go.Proofs.YtnlbcifhedjbfaaGreatDoor
namespace Go.Proofs.YtnlbcifhedjbfaaGreatDoor
open Go Go.RowKit Mem
def fU (l:List ae) (word:ae):Bool:=l.any λx=>word.toList==x.toList
theorem clash {x l:List ax} (h:(x==l)=true) (h':(x==l)=false) {p:Prop}:p:=by rw[h]at h';cases h'
end Go.Proofs.YtnlbcifhedjbfaaGreatDoor
end
section
namespace Go.Proofs.YtnlbcifhedjbfaaGreatDoor
open Go.RowKit Mem
def zi:List ae:= [⟨#[97,114,101,97]⟩,⟨#[98,97,115,101]⟩,⟨#[98,97,115,101,102,111,110,116]⟩,⟨#[98,103,115,111,117,110,100]⟩,⟨#[98,114]⟩,⟨#[99,111,108]⟩,⟨#[101,109,98,101,100]⟩,⟨#[102,114,97,109,101]⟩,⟨#[104,114]⟩,⟨#[105,109,103]⟩,⟨#[105,110,112,117,116]⟩,⟨#[107,101,121,103,101,110]⟩,⟨#[108,105,110,107]⟩,⟨#[109,101,116,97]⟩,⟨#[112,97,114,97,109]⟩,⟨#[115,111,117,114,99,101]⟩,⟨#[116,114,97,99,107]⟩,⟨#[119,98,114]⟩]
def zw:List ae:= [⟨#[97,100,100,114,101,115,115]⟩,⟨#[97,112,112,108,101,116]⟩,⟨#[97,114,116,105,99,108,101]⟩,⟨#[97,115,105,100,101]⟩,⟨#[98,108,111,99,107,113,117,111,116,101]⟩,⟨#[98,111,100,121]⟩,⟨#[98,117,116,116,111,110]⟩,⟨#[99,97,112,116,105,111,110]⟩,⟨#[99,101,110,116,101,114]⟩,⟨#[99,111,108,103,114,111,117,112]⟩,⟨#[100,100]⟩,⟨#[100,101,116,97,105,108,115]⟩,⟨#[100,105,114]⟩,⟨#[100,105,118]⟩,⟨#[100,108]⟩,⟨#[100,116]⟩,⟨#[102,105,101,108,100,115,101,116]⟩,⟨#[102,105,103,99,97,112,116,105,111,110]⟩,⟨#[102,105,103,117,114,101]⟩,⟨#[102,111,111,116,101,114]⟩,⟨#[102,111,114,109]⟩,⟨#[104,49]⟩,⟨#[104,50]⟩,⟨#[104,51]⟩,⟨#[104,52]⟩,⟨#[104,53]⟩,⟨#[104,54]⟩,⟨#[104,101,97,100]⟩,⟨#[104,101,97,100,101,114]⟩,⟨#[104,116,109,108]⟩,⟨#[105,102,114,97,109,101]⟩,⟨#[108,105]⟩,⟨#[108,105,115,116,105,110,103]⟩,⟨#[109,97,105,110]⟩,⟨#[109,97,114,113,117,101,101]⟩,⟨#[109,101,110,117]⟩,⟨#[110,97,118]⟩,⟨#[110,111,101,109,98,101,100]⟩,⟨#[110,111,102,114,97,109,101,115]⟩,⟨#[111,98,106,101,99,116]⟩,⟨#[111,108]⟩,⟨#[112]⟩,⟨#[112,114,101]⟩,⟨#[115,99,114,105,112,116]⟩,⟨#[115,101,99,116,105,111,110]⟩,⟨#[115,101,108,101,99,116]⟩,⟨#[115,116,121,108,101]⟩,⟨#[115,117,109,109,97,114,121]⟩,⟨#[116,97,98,108,101]⟩,⟨#[116,98,111,100,121]⟩,⟨#[116,100]⟩,⟨#[116,101,120,116,97,114,101,97]⟩,⟨#[116,102,111,111,116]⟩,⟨#[116,104]⟩,⟨#[116,104,101,97,100]⟩,⟨#[116,105,116,108,101]⟩,⟨#[116,114]⟩,⟨#[117,108]⟩,⟨#[120,109,112]⟩]
def I6:List ae:= [⟨#[109,105]⟩,⟨#[109,111]⟩,⟨#[109,110]⟩,⟨#[109,115]⟩,⟨#[109,116,101,120,116]⟩,⟨#[97,110,110,111,116,97,116,105,111,110,45,120,109,108]⟩]
def EC:List ae:= [⟨#[102,111,114,101,105,103,110,79,98,106,101,99,116]⟩,⟨#[100,101,115,99]⟩,⟨#[116,105,116,108,101]⟩]
theorem agD (ah:ae) (w:af):Calls prog 217 #[.string ah] w λe w'=>e= .returned (.bool (fU zi ah))/\w=w':=by
 go_enter func217,ntmps217
 go_wp2_with fail
 all_goals go_ret
 all_goals exact⟨bJ (by first|exact clash (x:=ah.toList) ‹_› ‹_›|simp[fU,zi, *]),rfl⟩
theorem Uq (ah:ae) (w:af):Calls prog 218 #[.string ah] w λe w'=>e= .returned (.bool (fU zw ah))/\w=w':=by
 go_enter func218,ntmps218
 go_wp2_with fail
 all_goals go_ret
 all_goals exact⟨bJ (by first|exact clash (x:=ah.toList) ‹_› ‹_›|simp[fU,zw, *]),rfl⟩
def gJ (aN:Int) (ah:ae):Bool :=
 if aN=2 then fU I6 ah else if aN=1 then fU EC ah else if aN=0 then fU zi ah||fU zw ah else false
def LP:List ae:= [⟨#[104,116,109,108]⟩,⟨#[116,97,98,108,101]⟩]
def SH:List ae:= [⟨#[97,112,112,108,101,116]⟩,⟨#[99,97,112,116,105,111,110]⟩,⟨#[104,116,109,108]⟩,⟨#[116,97,98,108,101]⟩,⟨#[116,100]⟩,⟨#[116,104]⟩,⟨#[109,97,114,113,117,101,101]⟩,⟨#[111,98,106,101,99,116]⟩]
def SF:List ae:= [⟨#[97,112,112,108,101,116]⟩,⟨#[99,97,112,116,105,111,110]⟩,⟨#[104,116,109,108]⟩,⟨#[116,97,98,108,101]⟩,⟨#[116,100]⟩,⟨#[116,104]⟩,⟨#[109,97,114,113,117,101,101]⟩,⟨#[111,98,106,101,99,116]⟩,⟨#[111,108]⟩,⟨#[117,108]⟩]
def KF:List ae:= [⟨#[97,112,112,108,101,116]⟩,⟨#[99,97,112,116,105,111,110]⟩,⟨#[104,116,109,108]⟩,⟨#[116,97,98,108,101]⟩,⟨#[116,100]⟩,⟨#[116,104]⟩,⟨#[109,97,114,113,117,101,101]⟩,⟨#[111,98,106,101,99,116]⟩,⟨#[98,117,116,116,111,110]⟩]
def iY (scope aN:Int) (ah:ae):Bool :=
 if scope=0 then(if aN=0 then fU SH ah else gJ aN ah)else
 if scope=1 then(if aN=0 then fU SF ah else gJ aN ah)else
 if scope=2 then(if aN=0 then fU KF ah else gJ aN ah)else
 if scope=3 then(if aN=0 then fU LP ah else false)else false
theorem sF (aN:Int) (ah:ae) (w:af):Calls prog 203 #[.int .i64 aN,.string ah] w λe w'=>e= .returned (.bool (gJ aN ah))/\w=w':=by
 by_cases h2:aN=2
 ·subst h2;rw[show gJ 2 ah=fU I6 ah from rfl];go_enter func203,ntmps203
  go_wp2_with fail
  all_goals go_ret
  all_goals exact⟨bJ (by first|exact clash (x:=ah.toList) ‹_› ‹_›|simp[fU,I6, *]),rfl⟩
 by_cases h1:aN=1
 ·subst h1;rw[show gJ 1 ah=fU EC ah from rfl];cases e1:(ah.toList==([102,111,114,101,105,103,110,79,98,106,101,99,116]:List ax)) <;>cases e2:(ah.toList==([100,101,115,99]:List ax))
  all_goals
   go_enter func203,ntmps203
   go_wp2_with fail
   all_goals go_ret
   all_goals exact⟨bJ (by simp[fU,EC, *]),rfl⟩
 by_cases h0:aN=0
 ·subst h0;have HV:=hd' (agD ah w);have HS:=hd' (Uq ah w);have hs:gJ 0 ah=(fU zi ah||fU zw ah):=rfl;rw[hs];cases hv:fU zi ah
  all_goals
   rw[hv]at HV;go_enter func203,ntmps203
   go_wp2_with (first|(go_at_call 217;refine HV.o'.mono ?_;rintro e w1 ⟨rfl,rfl⟩)|(go_at_call 218;refine HS.o'.mono ?_;rintro e w1 ⟨rfl,rfl⟩))
   go_ret;exact⟨bJ (by simp),rfl⟩
 ·have hs:gJ aN ah=false:=by rw[gJ,aj h2,aj h1,aj h0]
  have h2':(aN==2)=false:=by simpa using h2
  have h1':(aN==1)=false:=by simpa using h1
  have h0':(aN==0)=false:=by simpa using h0
  rw[hs];clear h2 h1 h0 hs;go_enter func203,ntmps203
  go_wp2_with fail
  all_goals go_ret
  exact⟨rfl,rfl⟩
theorem ZV (scope aN:Int) (ah:ae) (w:af):Calls prog 205 #[.int .i64 scope,.int .i64 aN,.string ah] w λe w'=>e= .returned (.bool (iY scope aN ah))/\w=w':=by
 by_cases s0:scope=0
 ·subst s0;by_cases h0:aN=0
  ·subst h0;go_enter yK,yH
   go_wp2_with fail
   all_goals go_ret
   all_goals exact⟨bJ (by rw[show iY 0 0 ah=fU SH ah from rfl];first|exact clash (x:=ah.toList) ‹_› ‹_›|(simp[fU,SH, *];done)|simp_all),rfl⟩
  ·have h0':(aN==0)=false:=by simpa using h0
   have anm:(aN !=0)=true:=by simpa using h0
   have HF:Hid (iY 0 aN ah=gJ aN ah):=hd' (by simp[iY,h0]);have HS:=hd' (sF aN ah w);clear h0;go_enter yK,yH
   go_wp2_with ((go_at_call 203;refine HS.o'.mono ?_;rintro e w1 ⟨rfl,rfl⟩))
   go_ret;exact⟨bJ HF.o'.symm,rfl⟩
 by_cases s1:scope=1
 ·subst s1;by_cases h0:aN=0
  ·subst h0;go_enter yK,yH
   go_wp2_with fail
   all_goals go_ret
   all_goals exact⟨bJ (by rw[show iY 1 0 ah=fU SF ah from rfl];first|exact clash (x:=ah.toList) ‹_› ‹_›|(simp[fU,SF, *];done)|simp_all),rfl⟩
  ·have h0':(aN==0)=false:=by simpa using h0
   have anm:(aN !=0)=true:=by simpa using h0
   have HF:Hid (iY 1 aN ah=gJ aN ah):=hd' (by simp[iY,h0]);have HS:=hd' (sF aN ah w);clear h0;go_enter yK,yH
   go_wp2_with ((go_at_call 203;refine HS.o'.mono ?_;rintro e w1 ⟨rfl,rfl⟩))
   go_ret;exact⟨bJ HF.o'.symm,rfl⟩
 by_cases s2:scope=2
 ·subst s2;by_cases h0:aN=0
  ·subst h0;go_enter yK,yH
   go_wp2_with fail
   all_goals go_ret
   all_goals exact⟨bJ (by rw[show iY 2 0 ah=fU KF ah from rfl];first|exact clash (x:=ah.toList) ‹_› ‹_›|(simp[fU,KF, *];done)|(simp_all;done)|simp_all[fU,KF]),rfl⟩
  ·have h0':(aN==0)=false:=by simpa using h0
   have anm:(aN !=0)=true:=by simpa using h0
   have HF:Hid (iY 2 aN ah=gJ aN ah):=hd' (by simp[iY,h0]);have HS:=hd' (sF aN ah w);clear h0;go_enter yK,yH
   go_wp2_with ((go_at_call 203;refine HS.o'.mono ?_;rintro e w1 ⟨rfl,rfl⟩))
   go_ret;exact⟨bJ HF.o'.symm,rfl⟩
 by_cases s3:scope=3
 ·subst s3;by_cases h0:aN=0
  ·subst h0;rw[show iY 3 0 ah=fU LP ah from rfl];cases e1:(ah.toList==([104,116,109,108]:List ax))
   all_goals
    go_enter yK,yH
    go_wp2_with fail
    go_ret;exact⟨bJ (by simp[fU,LP,e1]),rfl⟩
  ·have h0':(aN==0)=false:=by simpa using h0
   have hs:iY 3 aN ah=false:=by simp[iY,h0]
   rw[hs];clear h0 hs;go_enter yK,yH
   go_wp2_with fail
   go_ret;exact⟨rfl,rfl⟩
 ·have hs:iY scope aN ah=false:=by rw[iY,aj s0,aj s1,aj s2,aj s3]
  rw[hs];by_cases hlo:scope<0
  ·go_enter yK,yH
   go_wp2_with fail
   go_ret;exact⟨rfl,rfl⟩
  ·have hhi:3<scope:=by omega
   have h1':(scope<0)=False:=by simpa using hlo
   clear s0 s1 s2 s3;go_enter yK,yH
   go_wp2_with fail
   go_ret;exact⟨rfl,rfl⟩
theorem lT (y:ae) (l:List ae) (x:ae):fU (y::l) x=((x.toList==y.toList)||fU l x):=by simp[fU]
theorem VC (l:List ae) (x:ae) (k:Nat) (h:k<l.length):fU (l.drop k) x=((x.toList==l[k].toList)||fU (l.drop (k+1)) x):=by
 rw[kR h,lT]
theorem X4 (l:List ae) (a:Option Addr) (c:Nat) (x:ae) (w:af) (ha:At w a (jo l)) (hl:l.length<=9223372036854775806) :
 Calls prog 219 #[.slice a l.length c,.string x] w λe w'=> ∃i:Int,e= .returned (.int .i64 i)/\decide (0<=i)=fU l x/\w=w':=by
 have HA:=hd' ha;clear ha;go_enter func219,ntmps219
 go_wp2_with fail
 go_loop [8] (λi=> ∃k:Nat,k<=l.length/\i= .int .i64 k/\fU l x=fU (l.drop k) x) (λi=>l.length-(intOf i).toNat)
 case atStart=>exact⟨0,bD _,rfl,rfl⟩
 case round =>
  obtain⟨k,hk,rfl,hv⟩:=hrel;have HV:=hd' hv;clear hv;by_cases hlt:k<l.length
  ·obtain⟨b,o,rfl,hb,e1⟩:=LU HA.o' hlt;have HD:=hd' (VC l x k hlt);cases hq:(x.toList==l[k].toList)
   ·rw[hq]at HD;go_wp2_with fail
    go_round
    case rel=>exact⟨k+1,by omega,by go_num,by rw[HV.o',HD.o'];rfl⟩
    case measure=>simp[intOf];omega
   ·rw[hq]at HD;go_wp2_with fail
    go_ret;exact⟨_,rfl,by rw[HV.o',HD.o'];simp,rfl⟩
  ·have HD:Hid (fU (l.drop k) x=false):=hd' (by rw[iZ (by omega)];rfl);go_wp2_with fail
   go_ret;exact⟨-1,rfl,by rw[HV.o',HD.o'];rfl,rfl⟩
theorem G5 (l:List ae) (a:Option Addr) (c:Nat) (x:ae) (w:af) (ha:At w a (jo l)) (hl:l.length<=9223372036854775806) :
 Calls prog 204 #[.slice a l.length c,.string x] w λe w'=>e= .returned (.bool (fU l x))/\w=w':=by
 have HC:=hd' (X4 l a c x w ha hl);clear ha;go_enter func204,ntmps204
 go_wp2_with (go_at_call 219;refine HC.o'.mono ?_;rintro e w1 ⟨i,rfl,hi,rfl⟩;have HI:=hd' hi;clear hi)
 go_ret;exact⟨bJ HI.o',rfl⟩
def aI (T:aB) (n:Int) (names:List ae):Bool:=aY T n&&((aX T n==0)&&fU names (bq T n))
def sZ (T:aB) (scope n:Int):Bool:=aY T n&&iY scope (aX T n) (bq T n)
def oQ (p stop:Int->Bool):List Int->Bool
 | []=>false
 |x::r=>p x||(!stop x&&oQ p stop r)
section
variable (T:aB) (w:af) (sb tb g:Nat) (gs:Option Nat) (l:List Int)
theorem LX (h:qZ w sb tb gs l) (hT:eH w tb g T) (hat: ∀i (h:i<T.ai.length),T.ai[i].aA.length<=1048576) (n:Int) (names:List ae) (a:Option Addr) (c:Nat) (ha:At w a (jo names)) (hl:names.length<=1048576) :
 Calls prog 168 #[.pointer (some ⟨sb,0,none⟩),.int .i64 n,.slice a names.length c] w λe w'=>e= .returned (.bool (aI T n names))/\Below w.heap.size w w':=by
 obtain⟨sa,sc,c0,_⟩:=h.cells;have HW:=hd' (He T tb g w n hat hT);have HT:=hd' hT;have HA:=hd' ha;have HN:Hid (aI T n names=(aY T n&&((aX T n==0)&&fU names (bq T n)))):=by show _=_;rfl
 clear h hT ha hat;cases he:aY T n <;>cases hs:(aX T n==0)
 all_goals
  rw[he,hs]at HN;go_enter func168,ntmps168
  go_wp2_with (first|(go_at_call 41;refine HW.o'.mono ?_;rintro e w1 ⟨v,rfl,_,hb⟩;have c0':=aM hb c0;have HE:=hd' (zO T tb g w1 n (HT.o'.below hb));rw[he]at HE;have HCo:=hd' (G5 names a c (bq T n) w1 (HA.o'.below hb) (by omega));have HB:=hd' hb;clear hb)|(go_at_call 72;refine HE.o'.mono ?_;rintro e w2 ⟨rfl,rfl⟩)|(go_at_call 204;refine HCo.o'.mono ?_;rintro e w2 ⟨rfl,rfl⟩))
  go_ret;exact⟨bJ (by rw[HN.o'];simp),HB.o'⟩
end
theorem uB (l:List Int) (x n:Int):aT (l++ [x]) n=if x=n then(l.length:Int)else aT l n:=by
 obtain⟨q1,q2,q3,q4⟩:=dC l n;split
 ·rename_i e;refine(vk (by omega) (by simp;omega) (λk h hk=>by simp at h;omega) λk h hk=> ?_);have:k=l.length:=by omega
  subst this;simpa using e
 ·rename_i e;refine(vk q1 (by simp;omega) (λk h hk=> ?_) λk h hk=> ?_)
  ·by_cases hkl:k<l.length
   ·rw[Li hkl];exact q3 k hkl hk
   ·have:k=l.length:=by simp at h;omega
    subst this;simpa using e
  ·have hkl:k<l.length:=by omega
   rw[Li hkl];exact q4 k hkl hk
end Go.Proofs.YtnlbcifhedjbfaaGreatDoor
end
section
namespace Go.Proofs.YtnlbcifhedjbfaaGreatDoor
open Go.RowKit Mem
theorem Ro (p stop:Int->Bool) (l:List Int) (k:Nat) (h:k<l.length):oQ p stop (l.take (k+1)).reverse=(p l[k]||(!stop l[k]&&oQ p stop (l.take k).reverse)):=by
 rw[jL h,pO];rfl
theorem akv {u u':af} {sb tb b o:Nat} {v x:ak} (hb:Below u.heap.size u u') (h:u.cell? ⟨sb,0,none⟩=some (.pointer (some ⟨tb,0,none⟩))/\u.cell? ⟨sb,1,none⟩=some v/\u.cell? ⟨b,o,none⟩=some x) :
 u'.cell? ⟨sb,0,none⟩=some (.pointer (some ⟨tb,0,none⟩))/\u'.cell? ⟨sb,1,none⟩=some v/\u'.cell? ⟨b,o,none⟩=some x :=
 ⟨aM hb h.1,aM hb h.2.1,aM hb h.2.2⟩
section
variable (T:aB) (w:af) (sb tb g:Nat) (gs:Option Nat) (l:List Int)
theorem L8 (h:qZ w sb tb gs l) (hT:eH w tb g T) (hat: ∀i (h:i<T.ai.length),T.ai[i].aA.length<=1048576) (hl:l.length<=1048576) (scope:Int) (f:Nat) (lb:Array ak) (ef: ∀args w,(callFunc f args).run prog w= .ok (.enter f args) w)
 (p:Int->Bool) (hp: ∀W x,Below w.heap.size w W->Calls prog f (#[.int .i64 x]++lb) W λe w'=>e= .returned (.bool (p x))/\Below W.heap.size W w') :
 Calls prog 169 #[.pointer (some ⟨sb,0,none⟩),.int .i64 scope,.func (.func f) #[] lb] w λe w'=>e= .returned (.bool (oQ p (sZ T scope) l.reverse))/\Below w.heap.size w w':=by
 have HS:=hd' h;have HT:=hd' hT;have HP:=hd' hp;have Tz:=hd' hat;obtain⟨a,c,c0,c1,hA,_⟩:=h.cells;have HA:=hd' hA;clear h hT hp hat hA;go_enter func169,ntmps169
 go_wp2_with fail
 go_loopw [7] (λi wr=> ∃k:Nat,k<=l.length/\i= .int .i64 ((k:Int)-1)/\Below w.heap.size w wr/\oQ p (sZ T scope) l.reverse=oQ p (sZ T scope) (l.take k).reverse) (λi _=>(intOf i+1).toNat)
 case atStart=>exact⟨l.length,ay _,rfl,aQ _ _,by rw[iH (ay _)]⟩
 case round =>
  obtain⟨k,hk,rfl,hb,hv⟩:=hrel;have HB:=hd' hb;have HV:=hd' hv;clear hv;cases k with
  |zero =>
   clear hb;go_wp2_with fail
   go_ret;exact⟨bJ (by rw[HV.o'];rfl),HB.o'⟩
  |succ k =>
   have hlt:k<l.length:=by omega
   obtain⟨bb,o,rfl⟩:=HA.o'.tq (by intro h;have:=aW List.length h;rw[eu,kQ]at this;omega);have hx:=aM hb (HA.o'.get (fw l k hlt));have d0:=aM hb c0;have d1:=aM hb c1;have e1:((k+1:Nat):Int)-1=(k:Int):=by omega
   rw[e1];have HF:=hd' (HP.o' wr l[k] hb);have HST:=hd' (Ro p (sZ T scope) l k hlt);obtain⟨x,Sb⟩: ∃x,x=l[k]:=⟨_,rfl⟩;rw[<-Sb]at hx HF HST;clear hb Sb;cases hpx:p x
   ·rw[hpx]at HF HST;go_wp2_with (go_at_fn f;refine HF.o'.mono ?_;rintro e w1 ⟨rfl,hb1⟩;have z0:=aM hb1 d0;have z1:=aM hb1 d1;have zx:=aM hb1 hx;have HB1:=hd' hb1;clear hb1)
    have HT1:=hd' ((HT.o'.below HB.o').below HB1.o');have anK:=hd' (HT1.o'.below (fM w1 1));have HW:=hd' (He T tb g w1.drew x Tz.o' anK.o');have q0:w1.drew.cell? ⟨sb,0,none⟩=some (.pointer (some ⟨tb,0,none⟩)):=z0;have q1:w1.drew.cell? ⟨sb,1,none⟩=some (.slice (some ⟨bb,o,none⟩) l.length c):=z1;have qx:w1.drew.cell? ⟨bb,o+k,none⟩=some (.int .i64 x):=zx
    go_region_held3 (λu=>u.cell? ⟨sb,0,none⟩=some (.pointer (some ⟨tb,0,none⟩))/\u.cell? ⟨sb,1,none⟩=some (.slice (some ⟨bb,o,none⟩) l.length c)/\u.cell? ⟨bb,o+k,none⟩=some (.int .i64 x))
     (first|exact⟨q0,q1,qx⟩|with_reducible exact akv HB2.o' ⟨q0,q1,qx⟩)
     ((go_at_call 41;refine HW.o'.mono ?_;rintro e w2 ⟨v,rfl,_,hb2⟩;have HB2:=hd' hb2;clear hb2))
    have r0:=aM HB2.o' q0;have r1:=aM HB2.o' q1;have rx:=aM HB2.o' qx;have HT2:=hd' (anK.o'.below HB2.o');have Od:=hd' (aK (aK HB.o' HB1.o').drew HB2.o');clear z0 z1 zx q0 q1 qx HW d0 d1 hx;have HE:Hid (∀u,eH u tb g T->Calls prog 72 #[.pointer (some ⟨tb,0,none⟩),.int .i64 x] u λe w'=>e= .returned (.bool (aY T x))/\u=w'):=hd' (λu hu=>zO T tb g u x hu);have HBo:Hid (∀u,Calls prog 205 #[.int .i64 scope,.int .i64 (aX T x),.string (bq T x)] u λe w'=>e= .returned (.bool (iY scope (aX T x) (bq T x)))/\u=w'):=hd' (λu=>ZV scope _ _ u);have HSt:Hid (sZ T scope x=(aY T x&&iY scope (aX T x) (bq T x))):=hd' rfl;generalize aX T x=xs at *;generalize bq T x=xn at *;cases hel:aY T x <;>cases hbo:iY scope xs xn
    all_goals
     rw[hel]at HE HSt;rw[hbo]at HBo HSt;go_wp2_with fail
     refine bX (by kernel_rfl) (by kernel_rfl) ?_
     repeat
      with_reducible refine jW (λK hK=> ?_)
      first
       |(with_reducible apply Jq
         ·rfl
         simp only[Act.put,dV,dF,dK];refine hK _ ?_
         clear hK K)
       |(with_reducible apply gK
         ·rfl
         ·intro wq hC;have zr0:=aM hC.o' r0;have zr1:=aM hC.o' r1;have zrx:=aM hC.o' rx;unfold Oper.quietAt;go_simp
          first|(go_at_call 72;refine(HE.o' _ (HT2.o'.below hC.o')).mono ?_;rintro e wx ⟨rfl,rfl⟩;exact⟨rfl,hC⟩)|(go_at_call 205;refine(HBo.o' _).mono ?_;rintro e wx ⟨rfl,rfl⟩;exact⟨rfl,hC⟩)|with_reducible rfl
         simp only[Act.put,dV,dF,dK];refine hK _ ?_
         clear hK K)
     with_reducible refine jX ?_
     intro wq HQ;have zr0:=aM HQ.o' r0;have zr1:=aM HQ.o' r1;have zrx:=aM HQ.o' rx;have HBx:=hd' (aK Od.o' HQ.o');go_wp2_with fail
     first
      |(go_round
        case rel=>exact⟨k,by omega,by go_num,HBx.o',by rw[HV.o',HST.o',HSt.o'];rfl⟩
        case measure=>simp[intOf])
      |(go_ret
        exact⟨bJ (by rw[HV.o',HST.o',HSt.o'];rfl),HBx.o'⟩)
   ·rw[hpx]at HF HST;go_wp2_with (go_at_fn f;refine HF.o'.mono ?_;rintro e w1 ⟨rfl,hb1⟩;have HB1:=hd' hb1;clear hb1)
    go_ret;exact⟨bJ (by rw[HV.o',HST.o'];rfl),aK HB.o' HB1.o'⟩
end
section
variable (T:aB) (w:af) (sb tb g:Nat) (gs:Option Nat) (l:List Int)
theorem afZ (h:qZ w sb tb gs l) (hT:eH w tb g T) (hat: ∀i (h:i<T.ai.length),T.ai[i].aA.length<=1048576) (n:Int) (names:List ae) (a:Option Addr) (c:Nat) (ha:At w a (jo names)) (hl:names.length<=1048576)
 (b1 b2:Nat) (h1:w.cell? ⟨b1,0,none⟩=some (.pointer (some ⟨sb,0,none⟩))) (h2:w.cell? ⟨b2,0,none⟩=some (.slice a names.length c)) :
 Calls prog 170 #[.int .i64 n,.pointer (some ⟨b1,0,none⟩),.pointer (some ⟨b2,0,none⟩)] w λe w'=>e= .returned (.bool (aI T n names))/\Below w.heap.size w w':=by
 have HC:=hd' (LX T w sb tb g gs l h hT hat n names a c ha hl);clear h hT hat ha;go_enter func170,ntmps170
 go_wp2_with (go_at_call 168;refine HC.o'.mono ?_;rintro e w1 ⟨rfl,hb⟩;have HB:=hd' hb;clear hb)
 go_ret;exact⟨rfl,HB.o'⟩
theorem Sm (n m:Int) (b1:Nat) (h1:w.cell? ⟨b1,0,none⟩=some (.int .i64 m)) :
 Calls prog 222 #[.int .i64 n,.pointer (some ⟨b1,0,none⟩)] w λe w'=>e= .returned (.bool (n==m))/\Below w.heap.size w w':=by
 go_enter func222,ntmps222
 go_wp2_with fail
 go_ret;exact⟨rfl,aQ _ _⟩
def afY (T:aB) (l:List Int) (scope:Int) (names:List ae):Bool:=oQ (λx=>aI T x names) (sZ T scope) l.reverse
def vG (T:aB) (l:List Int) (m:Int):Bool:=oQ (λx=>x==m) (sZ T 0) l.reverse
theorem ajg (h:qZ w sb tb gs l) (hT:eH w tb g T) (hat: ∀i (h:i<T.ai.length),T.ai[i].aA.length<=1048576) (hl:l.length<=1048576) (scope:Int) (names:List ae) (a:Option Addr) (c:Nat) (ha:At w a (jo names)) (hn:names.length<=1048576) :
 Calls prog 113 #[.pointer (some ⟨sb,0,none⟩),.int .i64 scope,.slice a names.length c] w λe w'=>e= .returned (.bool (afY T l scope names))/\Below w.heap.size w w':=by
 have hb1:=((aQ w.heap.size w).alloc (ay _) (.cells #[.pointer (some ⟨sb,0,none⟩)] 55));have hb2:=hb1.alloc (by simp) (.cells #[.slice a names.length c] 169);have k1:=eU w (.cells #[.pointer (some ⟨sb,0,none⟩)] 55);have k2:=eU (w.alloc (.cells #[.pointer (some ⟨sb,0,none⟩)] 55)) (.cells #[.slice a names.length c] 169);have k1':=(gu (w.alloc (.cells #[.pointer (some ⟨sb,0,none⟩)] 55)) (.cells #[.slice a names.length c] 169) (r:=w.heap.size) (by simp)).trans k1;have hs1:(w.alloc (.cells #[.pointer (some ⟨sb,0,none⟩)] 55)).heap.size=w.heap.size+1:=by simp
 rw[hs1]at k2
 have HF:=hd' (L8 T ((w.alloc (.cells #[.pointer (some ⟨sb,0,none⟩)] 55)).alloc (.cells #[.slice a names.length c] 169)) sb tb g gs l (h.below hb2) (hT.below hb2) hat hl scope 170 #[.pointer (some ⟨w.heap.size,0,none⟩),.pointer (some ⟨w.heap.size+1,0,none⟩)] (enters_of func170 (by kernel_rfl) rfl)
  (λx=>aI T x names) (λW x hW=>afZ T W sb tb g gs l ((h.below hb2).below hW) ((hT.below hb2).below hW) hat x names a c ((ha.below hb2).below hW) hn w.heap.size (w.heap.size+1) (aM hW (lF _ _ 0 _ _ _ k1')) (aM hW (lF _ _ 0 _ _ _ k2))))
 have HB2:=hd' hb2;clear h hT hat ha hb1 hb2 k1 k1' k2 hs1;go_enter func113,ntmps113
 go_wp2_with (go_at_call 169;refine HF.o'.mono ?_;rintro e w1 ⟨rfl,hb⟩;have HB:=hd' hb;clear hb)
 go_ret;exact⟨rfl,aK HB2.o' HB.o'⟩
theorem WU (h:qZ w sb tb gs l) (hT:eH w tb g T) (hat: ∀i (h:i<T.ai.length),T.ai[i].aA.length<=1048576) (hl:l.length<=1048576) (m:Int) :
 Calls prog 212 #[.pointer (some ⟨sb,0,none⟩),.int .i64 m] w λe w'=>e= .returned (.bool (vG T l m))/\Below w.heap.size w w':=by
 have hb1:=((aQ w.heap.size w).alloc (ay _) (.cells #[.int .i64 m] 3));have k1:=eU w (.cells #[.int .i64 m] 3)
 have HF:=hd' (L8 T (w.alloc (.cells #[.int .i64 m] 3)) sb tb g gs l (h.below hb1) (hT.below hb1) hat hl 0 222 #[.pointer (some ⟨w.heap.size,0,none⟩)] (enters_of func222 (by kernel_rfl) rfl)
  (λx=>x==m) (λW x hW=>Sm W x m w.heap.size (aM hW (lF _ _ 0 _ _ _ k1))))
 have HB2:=hd' hb1;clear h hT hat hb1 k1;go_enter func212,ntmps212
 go_wp2_with (go_at_call 169;refine HF.o'.mono ?_;rintro e w1 ⟨rfl,hb⟩;have HB:=hd' hb;clear hb)
 go_ret;exact⟨rfl,aK HB2.o' HB.o'⟩
def fH (T:aB) (names:List ae):List Int->List Int
 | []=> []
 |x::r=>if aI T x names then r else fH T names r
end
def SI (w0:af) (B tb sb:Nat) (ex:Nat->Prop) (T:aB) (l:List Int) (w:af):Prop :=
 ∃g gs jV,TI w0 B tb (ja jV T) g w/\qZ w sb tb gs l/\(∀k,SB sb gs k->jV k/\w0.heap.size<=k/\ ¬ex k)/\(∀k,ex k->jV k)/\l.length<=1000000
section
variable {w0 w w':af} {B B' tb sb:Nat} {ex:Nat->Prop} {T T':aB} {l:List Int}
theorem SI.wf (h:SI w0 B tb sb ex T l w):WF T:=by
 obtain⟨g,gs,jV,h1,_⟩:=h
 exact⟨h1.wf.pos,h1.wf.root,h1.wf.par,h1.wf.kid,h1.wf.mem,h1.wf.nodup,(by
  obtain⟨r,hr⟩:=h1.wf.rank
  exact⟨r,hr⟩),h1.wf.holds⟩
theorem SI.len (h:SI w0 B tb sb ex T l w):T.ai.length<=1000000:=by
 obtain⟨g,gs,jV,h1,_⟩:=h;exact h1.len
theorem SI.short (h:SI w0 B tb sb ex T l w):l.length<=1000000:=by
 obtain⟨g,gs,jV,_,_,_,_,h1⟩:=h;exact h1
theorem SI.below (h:SI w0 B tb sb ex T l w):Below w0.heap.size w0 w:=by
 obtain⟨g,gs,jV,h1,_⟩:=h;exact h1.below
theorem SI.zt {jV:Nat->Prop} {g g':Nat} {gs:Option Nat} (h1:TI w0 B tb (ja jV T) g w) (h2:qZ w sb tb gs l) (h3: ∀k,SB sb gs k->jV k/\w0.heap.size<=k/\ ¬ex k) (h4: ∀k,ex k->jV k) (h5:l.length<=1000000)
 (hk:az (Two tb g) w w') (ht:TI w0 B' tb (ja jV T') g' w'):SI w0 B' tb sb ex T' l w'/\az (Own w0 ex) w w':=by
 have hf:=h1.tree.vY;refine⟨⟨g',gs,jV,ht,h2.kept hk λk hk'=> ?_,h3,h4,h5⟩,hk.mono λk _ hk'=> ?_⟩
 ·obtain⟨_,q1,q2⟩:=hf k (h3 k hk').1;rintro(e|e)
  ·exact q1 e
  ·exact q2 e
 ·rcases hk' with e|e
  ·rw[e];exact⟨h1.htb,λhx=>(hf tb (h4 tb hx)).2.1 rfl⟩
  ·rw[e];exact⟨h1.hg,λhx=>(hf g (h4 g hx)).2.2 rfl⟩
theorem SI.world (h:SI w0 B tb sb ex T l w) (hb:Below w.heap.size w w'):SI w0 B tb sb ex T l w':=by
 obtain⟨g,gs,jV,h1,h2,h3⟩:=h;exact⟨g,gs,jV,h1.world hb,h2.below hb,h3⟩
theorem SI.dE {ex':Nat->Prop} (h:SI w0 B tb sb ex T l w) {F:Nat->Prop} (hk:az F w w') (hF: ∀k,F k->ex k/\w0.heap.size<=k) (he: ∀k,ex' k->(ex k\/w.heap.size<=k)/\k<w'.heap.size):SI w0 B tb sb ex' T l w':=by
 obtain⟨g,gs,jV,h1,h2,h3,h4,h5⟩:=h;have hlt:=h2.lt
 have hT:eH w' tb g (ja (λk=>jV k\/ex' k) T):=h1.tree.dE hk (λk hk'=>h4 k (hF k hk').1) (λk hk'=>by
  rcases hk' with hk'|hk'
  ·exact⟨.inl hk',fA (h1.tree.vY k hk').1 hk.size⟩
  ·exact⟨(he k hk').1.imp (h4 k) id,(he k hk').2⟩)
 refine⟨g,gs,λk=>jV k\/ex' k,⟨hT,?_,h1.below.trans (hk.below (λk hk' hFk=>by have:=(hF k hFk).2;omega) h1.below.size),h1.htb,h1.hg,h1.len,h1.gy,h1.Bz,h1.txt⟩,h2.kept hk λk hk' hFk=>(h3 k hk').2.2 (hF k hFk).1,?_,λk hk'=> .inr hk',h5⟩
 ·have hw:=h1.wf
  exact⟨hw.pos,hw.root,hw.par,hw.kid,hw.mem,hw.nodup,(by
   obtain⟨r,hr⟩:=hw.rank
   exact⟨r,hr⟩),hw.holds⟩
 ·intro k hk';obtain⟨q1,q2,q3⟩:=h3 k hk';refine⟨.inl q1,q2,λhx=> ?_⟩;rcases(he k hx).1 with e|e
  ·exact q3 e
  ·have:=hlt k hk';omega
theorem SI.BS {jV:Nat->Prop} {g:Nat} {gs gs':Option Nat} {l':List Int} (h1:TI w0 B tb (ja jV T) g w) (h3: ∀k,SB sb gs k->jV k/\w0.heap.size<=k/\ ¬ex k) (h4: ∀k,ex k->jV k) (h5:l'.length<=1000000)
 (hk:az (SB sb gs) w w') (hs:qZ w' sb tb gs' l') (hg: ∀k,gs'=some k->gs=some k\/w.heap.size<=k):SI w0 B tb sb ex T l' w'/\az (Own w0 ex) w w':=by
 have hlt:=hs.lt
 have hT:eH w' tb g (ja (λk=>jV k\/SB sb gs' k) T):=h1.tree.dE hk (λk hk'=>(h3 k hk').1) (λk hk'=>by
  rcases hk' with hk'|hk'
  ·exact⟨.inl hk',fA (h1.tree.vY k hk').1 hk.size⟩
  ·refine⟨?_,hlt k hk'⟩;rcases hk' with e|e
   ·exact .inl (h3 k (.inl e)).1
   ·exact(hg k e).imp (λe=>(h3 k (.inr e)).1) id)
 refine⟨⟨g,gs',λk=>jV k\/SB sb gs' k,⟨hT,?_,h1.below.trans (hk.below (λk hk' hFk=>by have:=(h3 k hFk).2.1;omega) h1.below.size),h1.htb,h1.hg,h1.len,h1.gy,h1.Bz,h1.txt⟩,hs,?_,λk hk'=> .inl (h4 k hk'),h5⟩,hk.mono λk _ hk'=>(h3 k hk').2⟩
 ·have hw:=h1.wf
  exact⟨hw.pos,hw.root,hw.par,hw.kid,hw.mem,hw.nodup,(by
   obtain⟨r,hr⟩:=hw.rank
   exact⟨r,hr⟩),hw.holds⟩
 ·intro k hk';refine⟨.inr hk',?_⟩;rcases hk' with e|e
  ·exact(h3 k (.inl e)).2
  ·rcases hg k e with e'|e'
   ·exact(h3 k (.inr e')).2
   ·have hs:=h1.below.size;refine⟨by omega,λhx=> ?_⟩;have:=(h1.tree.vY k (h4 k hx)).1;omega
theorem ajr (h:SI w0 B tb sb ex T l w) (sp:Int) (nm:ae) (at':List dD) (n:Nat) (a:Option Addr) (c:Nat) (hnl:n=at'.length) (hc:a=none->c=0) (hlen:at'.length<=1048576) (ha:At w a (bz at')) :
 Calls prog 146 #[.pointer (some ⟨tb,0,none⟩),.int .i64 sp,.string nm,.slice a n c] w λe w' =>
  e= .returned (.tuple #[.int .i64 (qz T (fQ sp nm at')).2.1,.int .i64 (qz T (fQ sp nm at')).2.2])/\SI w0 B tb sb ex (qz T (fQ sp nm at')).1 l w'/\az (Own w0 ex) w w':=by
 obtain⟨g,gs,jV,h1,h2,h3,h4,h5⟩:=h;refine(ajq h1 sp nm at' n a c hnl hc hlen ha).mono ?_;rw[Vp];rintro e w' ⟨he,hk,g',ht⟩;obtain⟨q1,q2⟩:=SI.zt h1 h2 h3 h4 h5 hk ht;exact⟨he,q1,q2⟩
theorem ajc (h:SI w0 B tb sb ex T l w) (n:Int) :
 Calls prog 223 #[.pointer (some ⟨tb,0,none⟩),.int .i64 n] w λe w' =>
  e= .returned (.tuple #[.int .i64 (dm T n).2.1,.int .i64 (dm T n).2.2])/\SI w0 B tb sb ex (dm T n).1 l w'/\az (Own w0 ex) w w':=by
 obtain⟨g,gs,jV,h1,h2,h3,h4,h5⟩:=h;refine(ajb h1 n).mono ?_;rw[YL];rintro e w' ⟨he,hk,g',ht⟩;obtain⟨q1,q2⟩:=SI.zt h1 h2 h3 h4 h5 hk ht;exact⟨he,q1,q2⟩
theorem ak9 (h:SI w0 B tb sb ex T l w) (a b n:Int) :
 Calls prog 147 #[.pointer (some ⟨tb,0,none⟩),.int .i64 a,.int .i64 b,.int .i64 n] w λe w' =>
  e= .returned (.int .i64 (fe T a b n).2)/\SI w0 B tb sb ex (fe T a b n).1 l w'/\az (Own w0 ex) w w':=by
 obtain⟨g,gs,jV,h1,h2,h3,h4,h5⟩:=h;refine(agH h1 a b n).mono ?_;rw[Po];rintro e w' ⟨he,hk,ht⟩;obtain⟨q1,q2⟩:=SI.zt h1 h2 h3 h4 h5 hk ht;exact⟨he,q1,q2⟩
theorem ai8 (h:SI w0 B tb sb ex T l w) (a b:Int) :
 Calls prog 228 #[.pointer (some ⟨tb,0,none⟩),.int .i64 a,.int .i64 b] w λe w' =>
  e= .returned (.int .i64 (kD T a b).2)/\SI w0 B tb sb ex (kD T a b).1 l w'/\az (Own w0 ex) w w':=by
 obtain⟨g,gs,jV,h1,h2,h3,h4,h5⟩:=h;refine(ai7 h1 a b).mono ?_;rw[YC];rintro e w' ⟨he,hk,ht⟩;obtain⟨q1,q2⟩:=SI.zt h1 h2 h3 h4 h5 hk ht;exact⟨he,q1,q2⟩
theorem aiZ (h:SI w0 B tb sb ex T l w) (a b:Int) (s:ae) {B':Nat} (hB:B+s.size<=B') (hB':B'<=9223372036854775807) :
 Calls prog 145 #[.pointer (some ⟨tb,0,none⟩),.int .i64 a,.int .i64 b,.string s] w λe w' =>
  e= .returned (.int .i64 (iG T a b s).2)/\SI w0 B' tb sb ex (iG T a b s).1 l w'/\az (Own w0 ex) w w':=by
 obtain⟨g,gs,jV,h1,h2,h3,h4,h5⟩:=h;refine(aiY h1 a b s hB hB').mono ?_;rw[XI];rintro e w' ⟨he,hk,g',ht⟩;obtain⟨q1,q2⟩:=SI.zt h1 h2 h3 h4 h5 hk ht;exact⟨he,q1,q2⟩
theorem ai3 (h:SI w0 B tb sb ex T l w) (n:Int) (hl:l.length<1000000) :
 Calls prog 105 #[.pointer (some ⟨sb,0,none⟩),.int .i64 n] w λe w'=>e= .returned (.tuple #[])/\SI w0 B tb sb ex T (l++ [n]) w'/\az (Own w0 ex) w w':=by
 obtain⟨g,gs,jV,h1,h2,h3,h4,h5⟩:=h;refine(aec w sb tb gs l h2 n (by omega)).mono ?_;rintro e w' ⟨he,g2,hs,hg,hk⟩;obtain⟨q1,q2⟩:=SI.BS h1 h3 h4 (by simp;omega) hk hs (λk hk=>by cases hk;exact hg);exact⟨he,q1,q2⟩
theorem Tm (h:SI w0 B tb sb ex T l w) :
 Calls prog 56 #[.pointer (some ⟨sb,0,none⟩)] w λe w'=>e= .returned (.int .i64 (l.getLast?.getD 0))/\SI w0 B tb sb ex T l.dropLast w'/\az (Own w0 ex) w w':=by
 obtain⟨g,gs,jV,h1,h2,h3,h4,h5⟩:=h;refine(ahC w sb tb gs l h2 (by omega)).mono ?_;rintro e w' ⟨he,hs,hk⟩;obtain⟨q1,q2⟩:=SI.BS h1 h3 h4 (by simp;omega) hk hs (λk hk=> .inl hk);exact⟨he,q1,q2⟩
theorem Tj (h:SI w0 B tb sb ex T l w):Calls prog 42 #[.pointer (some ⟨sb,0,none⟩)] w λe w'=>e= .returned (.int .i64 (l.getLast?.getD 0))/\ ∃q,w'=w.drewN q:=by
 obtain⟨g,gs,jV,h1,h2,h3,h4,h5⟩:=h;exact aab w sb tb gs l h2 (by omega)
theorem ajn (h:SI w0 B tb sb ex T l w) (n:Int):Calls prog 152 #[.pointer (some ⟨sb,0,none⟩),.int .i64 n] w λe w'=>e= .returned (.int .i64 (aT l n))/\w=w':=by
 obtain⟨g,gs,jV,h1,h2,h3,h4,h5⟩:=h;exact FT w sb tb gs l h2 n (by omega)
theorem alJ (h:SI w0 B tb sb ex T l w):Calls prog 97 #[.pointer (some ⟨sb,0,none⟩)] w λe w'=> ∃v,e= .returned v/\w'.ownsRow w.heap.size 3 1 v l.length (bB l)/\Below w.heap.size w w':=by
 obtain⟨g,gs,jV,h1,h2,h3,h4,h5⟩:=h;exact Ri w sb tb gs l h2 (by omega)
theorem Cg (h:SI w0 B tb sb ex T l w) (n:Int) (names:List ae) (a:Option Addr) (c:Nat) (ha:At w a (jo names)) (hl:names.length<=1048576) :
 Calls prog 168 #[.pointer (some ⟨sb,0,none⟩),.int .i64 n,.slice a names.length c] w λe w'=>e= .returned (.bool (aI T n names))/\Below w.heap.size w w':=by
 obtain⟨g,gs,jV,h1,h2,h3,h4,h5⟩:=h;exact LX (ja jV T) w sb tb g gs l h2 h1.tree h1.Zz n names a c ha hl
theorem ald (h:SI w0 B tb sb ex T l w) (scope:Int) (names:List ae) (a:Option Addr) (c:Nat) (ha:At w a (jo names)) (hn:names.length<=1048576) :
 Calls prog 113 #[.pointer (some ⟨sb,0,none⟩),.int .i64 scope,.slice a names.length c] w λe w'=>e= .returned (.bool (afY T l scope names))/\Below w.heap.size w w':=by
 obtain⟨g,gs,jV,h1,h2,h3,h4,h5⟩:=h;exact ajg (ja jV T) w sb tb g gs l h2 h1.tree h1.Zz (by omega) scope names a c ha hn
theorem ZH (h:SI w0 B tb sb ex T l w) (m:Int) :
 Calls prog 212 #[.pointer (some ⟨sb,0,none⟩),.int .i64 m] w λe w'=>e= .returned (.bool (vG T l m))/\Below w.heap.size w w':=by
 obtain⟨g,gs,jV,h1,h2,h3,h4,h5⟩:=h;exact WU (ja jV T) w sb tb g gs l h2 h1.tree h1.Zz (by omega) m
theorem aiX (h:SI w0 B tb sb ex T l w) (n:Int) :
 Calls prog 41 #[.pointer (some ⟨tb,0,none⟩),.int .i64 n] w λe w'=> ∃v,e= .returned (.tuple #[.int .i64 (aX T n),.string (bq T n),v]) /\
  w'.ownsRow w.heap.size 128 2 v (bW T n).length (bz (bW T n))/\Below w.heap.size w w':=by
 obtain⟨g,gs,jV,h1,h2,h3,h4,h5⟩:=h;exact He (ja jV T) tb g w n h1.Zz h1.tree
end
section
variable {w0 w w':af} {B B' tb sb:Nat} {ex:Nat->Prop} {T T':aB} {l:List Int}
theorem SI.cells (h:SI w0 B tb sb ex T l w): ∃a c,w.cell? ⟨sb,0,none⟩=some (.pointer (some ⟨tb,0,none⟩))/\w.cell? ⟨sb,1,none⟩=some (.slice a l.length c)/\At w a (bB l):=by
 obtain⟨g,gs,jV,h1,h2,h3,h4,h5⟩:=h;obtain⟨a,c,c0,c1,hA,_⟩:=h2.cells;exact⟨a,c,c0,c1,hA⟩
theorem CX {l:List Int} {k:Nat} (h:k<l.length):(l.take (k+1)).getLast?.getD 0=l[k]/\(l.take (k+1)).dropLast=l.take k:=by
 rw[jL h];exact⟨by rw[QQ];rfl,Lr⟩
theorem TZ (T:aB) (names:List ae) (l:List Int) (k:Nat) (h:k<l.length):fH T names (l.take (k+1)).reverse=if aI T l[k] names then(l.take k).reverse else fH T names (l.take k).reverse:=by
 rw[jL h,pO];rfl
theorem agE (h:SI w0 B tb sb ex T l w) (names:List ae) (a:Option Addr) (c:Nat) (ha:rX (Own w0 ex) w a (jo names)) (hn:names.length<=1048576) :
 Calls prog 114 #[.pointer (some ⟨sb,0,none⟩),.slice a names.length c] w λe w'=>e= .returned (.tuple #[])/\SI w0 B tb sb ex T (fH T names l.reverse).reverse w'/\az (Own w0 ex) w w':=by
 have HS:=hd' h;have HA:=hd' ha;have hsh:=h.short;clear h ha;go_enter func114,ntmps114
 go_wp2_with fail
 go_loopg [] l.length (λk wr=>Hid (k<=l.length/\SI w0 B tb sb ex T (l.take k) wr/\az (Own w0 ex) w wr/\fH T names l.reverse=fH T names (l.take k).reverse))
 case atStart=>exact hd' ⟨ay _,by rw[iH (ay _)];exact HS.o',az.refl _ _,by rw[iH (ay _)]⟩
 case round =>
  have hk:=hrel.o'.1;obtain⟨sa,sc,c0,c1,_⟩:=hrel.o'.2.1.cells;rw[fV,rE hk]at c1;have HR:=hrel;clear hrel;cases gk with
  |zero =>
   go_wp2_with fail
   go_end0
   refine⟨rfl,?_,HR.o'.2.2.1⟩;rw[HR.o'.2.2.2];exact HR.o'.2.1
  |succ k =>
   have hlt:k<l.length:=by omega
   have HT:=hd' (CX hlt);have HU:=hd' (TZ T names l k hlt);have HP:=hd' (Tm HR.o'.2.1);rw[HT.o'.1,HT.o'.2]at HP;obtain⟨x,hx⟩: ∃x,x=l[k]:=⟨_,rfl⟩;rw[<-hx]at HP HU;clear hx;cases hnm:aI T x names
   all_goals
    rw[hnm]at HU;go_wp2_with (first|(go_at_call 56;refine HP.o'.mono ?_;rintro e w1 ⟨rfl,h1,hk1⟩;have HN:=hd' (Cg h1 x names a c ((HA.o'.kept HR.o'.2.2.1).kept hk1).at hn);rw[hnm]at HN;have H1:=hd' h1;have wE:=hd' hk1;clear h1 hk1)|(go_at_call 168;refine HN.o'.mono ?_;rintro e w2 ⟨rfl,hb2⟩;have HB2:=hd' hb2;clear hb2))
    have HE:=hd' (H1.o'.world HB2.o');have HKE:=hd' ((HR.o'.2.2.1.trans wE.o').trans (az.bC HB2.o'))
    first
     |(go_roundg k
       case measure=>omega
       case rel=>exact hd' ⟨by omega,HE.o',HKE.o',by rw[HR.o'.2.2.2,HU.o'];rfl⟩)
     |(refine bU (oH rfl _ _ _) rfl ?_
       refine⟨rfl,?_,HKE.o'⟩;rw[HR.o'.2.2.2,HU.o',au trivial,vM]
       exact HE.o')
theorem SI.lay (h:SI w0 B tb sb ex T l w) (o:Obj):SI w0 B tb sb (λk=>ex k\/k=w.heap.size) T l (w.alloc o) :=
 h.dE (F:=λ_=>False) (az.bC ((aQ _ _).alloc (ay _) o)) (λ_ h=>h.elim) λk hk=>by
  rcases hk with hk|hk
  ·refine⟨.inl hk,?_⟩;obtain⟨g,gs,jV,h1,h2,h3,h4,h5⟩:=h;have:=(h1.tree.vY k (h4 k hk)).1;simp;omega
  ·exact⟨.inr (by omega),by simp;omega⟩
theorem SI.less {ex':Nat->Prop} (h:SI w0 B tb sb ex T l w) (he: ∀k,ex' k->ex k):SI w0 B tb sb ex' T l w:=by
 obtain⟨g,gs,jV,h1,h2,h3,h4,h5⟩:=h;exact⟨g,gs,jV,h1,h2,λk hk=>⟨(h3 k hk).1,(h3 k hk).2.1,λhx=>(h3 k hk).2.2 (he k hx)⟩,λk hk=>h4 k (he k hk),h5⟩
end
end Go.Proofs.YtnlbcifhedjbfaaGreatDoor
end
section
namespace Go.Proofs.YtnlbcifhedjbfaaGreatDoor
open Go Go.Proofs Go.Shelf Go.RowKit Go.Lib
def C9:Go.Shelf.Ren:=⟨fun|21=>229|23=>153|27=>232|28=>233|35=>234|39=>235|n=>n,fun|0=>0|3=>3|4=>4|22=>65|n=>n,λn=>n⟩
theorem aft:Lays2.n23 prog C9:= {
 mixed:=by kernel_rfl
 f23:=func153.trans (aW some (by kernel_rfl))
 t0:=yE
 a0:=yJ
 z0:=yG
 v0:=yB
 t3:=qD
 a3:=rD
 z3:=rC
 v3:=rz
 t4:=rA
 a4:=sO
 z4:=sM
 v4:=sJ
 t22:=oJ
 a22:=Tryz.isAgg65
 z22:=Tryz.sizeOf65
 v22:=Tryz.zeroValue65
 i3:=by kernel_rfl}
theorem Dp:Lays2.n21 prog C9:= {
 mixed:=by kernel_rfl
 f21:=func229.trans (aW some (by kernel_rfl))
 f27:=func232.trans (aW some (by kernel_rfl))
 f28:=func233.trans (aW some (by kernel_rfl))
 f35:=func234.trans (aW some (by kernel_rfl))
 f39:=func235.trans (aW some (by kernel_rfl))
 t0:=yE
 a0:=yJ
 z0:=yG
 v0:=yB
 t3:=qD
 a3:=rD
 z3:=rC
 v3:=rz
 t4:=rA
 a4:=sO
 z4:=sM
 v4:=sJ
 t22:=oJ
 a22:=Tryz.isAgg65
 z22:=Tryz.sizeOf65
 v22:=Tryz.zeroValue65
 i3:=by kernel_rfl}
end Go.Proofs.YtnlbcifhedjbfaaGreatDoor
end
