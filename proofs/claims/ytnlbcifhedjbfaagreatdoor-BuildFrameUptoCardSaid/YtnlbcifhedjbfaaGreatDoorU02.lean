/- oZ joined for a claim: aqK, asJ, aqJ: plain laws and contracts. No conditions beyond those that each lemma types. -/
import Derived.Test.YtnlbcifhedjbfaaGreatDoorU01
import Derived.Deep.AppendLies
import Derived.Deep.DeepMust
import Derived.Deep.RegionHeld3
import Derived.Deep.RegionLaw
import Derived.Lib.BufferMore
set_option linter.unusedVariables false
set_option linter.unusedSimpArgs false
set_option maxRecDepth 100000
set_option maxHeartbeats 8000000
open Go.Proofs.Tryz
section
namespace Go.Proofs.YtnlbcifhedjbfaaGreatDoor
open Go.RowKit Mem
theorem acG:(prog.info? 83).map (λi=>(i.zero,i.size,i.bytes))=some (some (.agg #[.bool false,.int .i64 0,.string ⟨#[]⟩,.slice none 0 0,.string ⟨#[]⟩,.int .i64 0,.slice none 0 0]),7,104):=by kernel_rfl
theorem Nb:(prog.info? 128).map (λi=>(i.zero,i.size,i.bytes))=some (some (.agg #[.string ⟨#[]⟩,.string ⟨#[]⟩]),2,32):=by kernel_rfl
theorem zR {w:af} {B:Nat} {v0 v1 v2 v3 v4 v5 v6:ak} {t:TypeId} (h:w.heap[B]?=some (.cells #[v0,v1,v2,v3,v4,v5,v6] t (0,0))) :
 w.cell? ⟨B,0,none⟩=some v0/\w.cell? ⟨B,1,none⟩=some v1/\w.cell? ⟨B,2,none⟩=some v2/\w.cell? ⟨B,3,none⟩=some v3/\w.cell? ⟨B,4,none⟩=some v4/\w.cell? ⟨B,5,none⟩=some v5/\w.cell? ⟨B,6,none⟩=some v6:=by
 simp only[lF w B _ _ _ _ h];exact⟨rfl,rfl,rfl,rfl,rfl,rfl,rfl⟩
theorem afc {T:aB} {tb g gg cap5 agr:Nat} {w w5 w6:af} {o:Obj} {Cs:List (List ak)} {el:Bool} {sp:Int} {nm tx:ae} {l:List dD} {a2:Option Addr} {c2:Nat}
 (ht1:tb<w.heap.size) (ht2:g<w.heap.size) (hne:tb≠g) (HTB:w5.heap[tb]?=some (.cells #[.slice (some ⟨g,0,none⟩) T.ai.length cap5,.int .i64 T.gy] 86 (0,0)))
 (hl:Cs.length=T.ai.length) (HN: ∀i (h:i<Cs.length) (h':i<T.ai.length),lJ (Dat T.jV tb g) w5 Cs[i] T.ai[i]) (aru: ∀k,T.jV k->k<w5.heap.size/\k≠tb/\k≠g) (HFw: ∀k,T.jV k->k<w.heap.size) (Xb:Below w.heap.size w w5)
 (HAT:rX (λk=>k<w.heap.size+1) w5 a2 (bz l)) (k1:l.length<=c2) (k2:c2<=maxLen) (k3:a2=none->c2=0)
 (hgr:(w5.drew.alloc o).grownBy w6 (Value.slice (some ⟨g,0,none⟩) T.ai.length cap5).ownBlock) (hat:(Value.slice (some ⟨g,0,none⟩) T.ai.length cap5).ownBlock=some gg\/gg=w5.heap.size+1)
 (ho:w6.ownsRow 0 83 7 (.slice (some ⟨gg,0,none⟩) (T.ai.length+1) agr) (T.ai.length+1) (Cs.flatten++ [.bool el,.int .i64 sp,.string nm,.slice a2 l.length c2,.string tx,.int .i64 (-1),.slice none 0 0])) :
 eH (w6.setCell ⟨tb,0,none⟩ (.slice (some ⟨gg,0,none⟩) (T.ai.length+1) agr)) tb gg (bL T ⟨el,sp,nm,l,tx, -1,[]⟩) /\
  az (Two tb g) w (w6.setCell ⟨tb,0,none⟩ (.slice (some ⟨gg,0,none⟩) (T.ai.length+1) agr))/\(gg=g\/w.heap.size<=gg):=by
 have hs5:=Xb.size
 have hk6:az (· =g) w5 w6:=by
  refine⟨hgr.os,hgr.tape,hgr.output,?_,λk hk hF=> ?_⟩
  ·have:=hgr.size;simp at this;omega
  ·refine(hgr.block k (by simp;omega) (λe=> ?_)).trans (pU w5.drew o k hk);simp only[Value.ownBlock,dQ]at e;exact hF e
 have hg:gg=g\/gg=w5.heap.size+1:=by
  rcases hat with h|h
  ·simp only[Value.ownBlock,dQ]at h;exact .inl h.symm
  ·exact .inr h
 refine⟨abz hne HTB hl HN aru hk6 ho (by omega) ⟨a2,c2,none,0,rfl,k1,k2,k3,ay _,by decide,.inl ⟨rfl,rfl⟩,?_,λj u hj=>by simp[bB]at hj⟩,?_,by omega⟩
 ·intro j u hj;obtain⟨b,o',rfl,hF,hc⟩:=HAT j u hj;have hb:=lt_of_cell hc;simp only at hF hb;refine⟨b,o',rfl,?_,?_⟩
  ·rintro((h|h)|h)
   ·omega
   ·omega
   ·have:=HFw b h;omega
  ·rw[yz (w:=w5) (hk6.block b hb (by omega))];exact hc
 ·refine((az.bC Xb).trans (hk6.mono λk _ h=> ?_)).set (.inl (.inl rfl)) _
  exact .inr h
theorem afb (T:aB) (tb g:Nat) (w:af) (el:Bool) (sp p0:Int) (nm tx:ae) (l:List dD) (a:Option Addr) (c:Nat) (hc:a=none->c=0) (hlen:l.length<=1048576) (hn:T.ai.length<=1048576)
 (h:eH w tb g T) (ha:At w a (bz l)) (hm:(T.ai.length:Int)-1<T.gy) :
 Calls prog 193 #[.pointer (some ⟨tb,0,none⟩),.agg #[.bool el,.int .i64 sp,.string nm,.slice a l.length c,.string tx,.int .i64 p0,.slice none 0 0]] w λe w' =>
  ∃g',az (Two tb g) w w'/\(g'=g\/w.heap.size<=g')/\e= .returned (.tuple #[.int .i64 T.ai.length,.int .i64 0])/\eH w' tb g' (bL T ⟨el,sp,nm,l,tx, -1,[]⟩):=by
 obtain⟨cap,h1,h2,c0,c1,_,_⟩:=h.head;unfold maxLen at h2;obtain⟨ht1,ht2⟩:=h.lt;have HT:=hd' h;have HFW:=hd' (λk hk=>(h.vY k hk).1);have HA:=hd' ha;have HC:=hd' hc;clear h ha hc;go_enter func193,ntmps193
 go_wp2_with fail
 have hB:=eU w (.cells #[.bool el,.int .i64 sp,.string nm,.slice a l.length c,.string tx,.int .i64 p0,.slice none 0 0] 83);have hb1:=(aQ w.heap.size w).alloc (ay _) (.cells #[.bool el,.int .i64 sp,.string nm,.slice a l.length c,.string tx,.int .i64 p0,.slice none 0 0] 83);have hl1:w.heap.size<(w.alloc (.cells #[.bool el,.int .i64 sp,.string nm,.slice a l.length c,.string tx,.int .i64 p0,.slice none 0 0] 83)).heap.size:=by simp
 generalize w.alloc (.cells #[.bool el,.int .i64 sp,.string nm,.slice a l.length c,.string tx,.int .i64 p0,.slice none 0 0] 83)=w1 at *;have d1:=aM hb1 c1;have HT1:=hd' (HT.o'.below hb1);have HB1:=hd' hb1;have HW:=hd' hB;clear hb1 hB;refine bX (by kernel_rfl) (by kernel_rfl) ?_
 repeat
  with_reducible refine jW (λK hK=> ?_)
  first
   |(with_reducible apply gK
     ·rfl
     ·intro wq hC;have zd1:=aM hC.o' d1;unfold Oper.quietAt;go_simp
      first|(go_at_call 211;refine(RP T tb g _ (HT1.o'.below hC.o')).mono ?_;rintro e wx ⟨rfl,rfl⟩;exact⟨rfl,hC⟩)|with_reducible rfl
     simp only[Act.put,dV,dF,dK];refine hK _ ?_
     clear hK K)
 with_reducible refine jX ?_
 intro wq HQ;have zd1:=aM HQ.o' d1;have hB:=(HQ.o'.block w.heap.size hl1).trans HW.o';have HT2:=hd' (HT1.o'.below HQ.o');have HB:=hd' (aK HB1.o' HQ.o');have hlq:w.heap.size<wq.heap.size:=fA hl1 HQ.o'.size;have f5:=vK _ _ 5 _ _ hB;obtain⟨_,_,_,_,_,q5,_⟩:=zR hB;have hB3:=(pU _ (.cells #[] 128) w.heap.size (by simpa using hlq)).trans (mr (i:=5) hB (.int .i64 (-1)));have hb3:=(HB.o'.setCell (p:=⟨w.heap.size,5,none⟩) (ay _) (.int .i64 (-1))).alloc (by simpa using lZ hlq) (.cells #[] 128);have hs3:((wq.setCell ⟨w.heap.size,5,none⟩ (.int .i64 (-1))).alloc (.cells #[] 128)).heap.size=wq.heap.size+1:=by simp
 have HE:Hid (((wq.setCell ⟨w.heap.size,5,none⟩ (.int .i64 (-1))).alloc (.cells #[] 128)).ownsRow (w.heap.size+1) 128 2 (.slice (some ⟨wq.heap.size,0,none⟩) 0 0) 0 []):=hd' (by
  have:=oI (base:=w.heap.size+1) (e:=128) (size:=2) (wq.setCell ⟨w.heap.size,5,none⟩ (.int .i64 (-1))) #[] 0 (by simp;omega) (bD _) rfl
  simpa using this)
 obtain⟨_,_,_,q3,_,_,_⟩:=zR hB3;have f3:=vK _ _ 3 _ _ hB3;have HB3:=hd' hb3;have HW3:=hd' hB3;have HA3:=hd' (HA.o'.below hb3);have HT3:=hd' (HT.o'.below hb3);have HS3:=hd' hs3;obtain⟨i0,hi,hz0,hz1,hz2⟩:=lY Nb;have b0:0+l.length<=maxLen:=by unfold maxLen;omega
 have b1:(0+l.length)*32<=140737488355328:=by omega
 have W9:=hd' (qV l);have Kr:Hid (some w.heap.size≠(Value.slice (some ⟨wq.heap.size,0,none⟩) 0 0).ownBlock):=hd' (λe=>by simp only[Value.ownBlock,dQ]at e;omega);have HNB:Hid (∀k,(Value.slice (some ⟨wq.heap.size,0,none⟩) 0 0).ownBlock=some k->w.heap.size<=k):=hd' (λk e=>by simp only[Value.ownBlock,dQ]at e;omega);have HT0:=HT;clear hB HW HT1 HT2 HB1 hl1 hb3 hB3 HB HA hs3;go_wp2_with (at_builtin;(refine kz _ rfl _ _ 23 rfl (w.heap.size+1) 128 i0 _ 2 32 BF hi hz0 hz1 hz2 rfl (by decide) _ 0 [] rfl HE.o' a l.length c (bz l) rfl W9.o' HC.o' HA3.o' (Ar l) b0 b1 (by rw[HS3.o'];omega) ?_;intro v2 w4 hown2 mU;simp only[iM,jZ]at hown2;obtain⟨a2,c2,rfl,k1,k2,k3,k4⟩:=F9 (F:=(· <w.heap.size+1)) hown2 (λ_ h=>h);have hW4:=(mU.block w.heap.size (by rw[HS3.o'];omega) Kr.o').trans HW3.o';obtain⟨_,_,_,q3',_⟩:=zR hW4;have f3':=vK _ _ 3 _ _ hW4;have WX:=hd' (HB3.o'.grown mU (by rw[HS3.o'];omega) HNB.o');have HW4:=hd' hW4;have Bw:=hd' k4;have HG3:=hd' k3.nil;clear hown2 mU k4 k3 hW4 HB3 HW3 HA3 HT3 HS3 HE q3 f3 q5 f5))
 have hB5:=mr (i:=3) HW4.o' (.slice a2 l.length c2);have hb5:=WX.o'.setCell (p:=⟨w.heap.size,3,none⟩) (ay _) (.slice a2 l.length c2)
 have ane:rX (λk=>k<w.heap.size+1) (w4.setCell ⟨w.heap.size,3,none⟩ (.slice a2 l.length c2)) a2 (bz l) :=
  Bw.o'.kept ((az.refl _ _).set (.inl (Im _)) _)
 clear WX HW4 Bw;generalize w4.setCell ⟨w.heap.size,3,none⟩ (.slice a2 l.length c2)=w5 at *;have ht5:=(HT0.o'.below hb5);have Sc:=fZ hB5;obtain⟨cap5,Cs,hne,htb,hown,hl,hnd,Ct⟩:=ht5.open_;have s5:=lF w5 tb 0 _ _ _ htb;obtain⟨r0,r1,r2,r3,r4,r5,r6⟩:=zR hB5;clear c0 c1 d1 zd1 HQ;obtain⟨i1,hi1,hy0,hy1,hy2⟩:=lY acG;have g0:T.ai.length+1<=maxLen:=by unfold maxLen;omega
 have g1:(T.ai.length+1)*104<=140737488355328:=by omega
 have hlg:=ht5.lt;have HO:=hd' hown;have HTG:Hid (some tb≠(Value.slice (some ⟨g,0,none⟩) T.ai.length cap5).ownBlock):=hd' (λe=>by simp only[Value.ownBlock,dQ]at e;exact hne e);have HN:=hd' hnd;have HFA:=hd' Ct;have HTB:=hd' htb;have HAT:=hd' ane;have Xb:=hd' hb5;clear hown hnd Ct htb ane hb5 ht5 hB5;clear hi hz0 hz1 hz2 b0 b1 W9 Kr HNB HT0 HT HC;go_region_law (refine step_append_lies _ (by rfl) _ _ _ (by rfl) 0 83 i1 _ 7 104 underlying84 hi1 hy0 hy1 hy2 rfl (by omega) _ T.ai.length _ (by rfl) ((HO.o'.drew).alloc _) ⟨w5.heap.size,0,none⟩ 1 1 [.bool el,.int .i64 sp,.string nm,.slice a2 l.length c2,.string tx,.int .i64 (-1),.slice none 0 0] (by rfl) (by rfl) (World.news_of_block (cs:= #[.bool el,.int .i64 sp,.string nm,.slice a2 l.length c2,.string tx,.int .i64 (-1),.slice none 0 0]) (t:=83) (fr:=(0,0)) (eU w5.drew _)) (by simp[Value.oneCell']) (by omega) g0 g1 (bD _) (w5.heap.size+1) (by simp) ?_;intro gg agr w6 hown6 YZ anc auU;have akC:=(YZ.block tb (by simp;omega) HTG.o').trans ((pU w5.drew _ tb hlg.1).trans HTB.o');have s6:=lF w6 tb 0 _ _ _ akC;have f6:=vK w6 tb 0 _ _ akC;clear akC)
 all_goals
  obtain⟨hT7,hK7,hg7⟩:=afc ht1 ht2 hne HTB.o' hl HN.o' HFA.o' HFW.o' Xb.o' HAT.o' k1 k2 HG3.o' YZ anc hown6;have HT7:=hd' hT7;have HK7:=hd' hK7;clear hT7 hK7 hown6 YZ anc HN HO HTB HAT;go_wp2_with (go_at_call 211;refine(RP _ tb gg _ HT7.o').mono ?_;rintro e wx ⟨rfl,rfl⟩)
  go_ret2;exact⟨gg,HK7.o',hg7,by simp[bL],HT7.o'⟩
def qz (T:aB) (d:ND):aB×Int×Int:=if(T.ai.length:Int)-1<T.gy then(bL T d,(T.ai.length:Int),0)else(T,0,43)
theorem ah3 (T:aB) (tb g:Nat) (w:af) (el:Bool) (sp p0:Int) (nm tx:ae) (n:Nat) (a:Option Addr) (c:Nat)
 (h:eH w tb g T) (hm:T.gy<=(T.ai.length:Int)-1) :
 Calls prog 193 #[.pointer (some ⟨tb,0,none⟩),.agg #[.bool el,.int .i64 sp,.string nm,.slice a n c,.string tx,.int .i64 p0,.slice none 0 0]] w λe w' =>
  az (Two tb g) w w'/\e= .returned (.tuple #[.int .i64 0,.int .i64 43])/\eH w' tb g T:=by
 obtain⟨cap,h1,h2,c0,c1,_,_⟩:=h.head;unfold maxLen at h2;have HT:=hd' h;have hm': ¬((T.ai.length:Int)-1<T.gy):=by omega
 clear h;go_enter func193,ntmps193
 go_wp2_with fail
 have hb1:=(aQ w.heap.size w).alloc (ay _) (.cells #[.bool el,.int .i64 sp,.string nm,.slice a n c,.string tx,.int .i64 p0,.slice none 0 0] 83);generalize w.alloc (.cells #[.bool el,.int .i64 sp,.string nm,.slice a n c,.string tx,.int .i64 p0,.slice none 0 0] 83)=w1 at *;have d1:=aM hb1 c1;have HT1:=hd' (HT.o'.below hb1);have HB1:=hd' hb1;clear hb1;refine bX (by kernel_rfl) (by kernel_rfl) ?_
 repeat
  with_reducible refine jW (λK hK=> ?_)
  first
   |(with_reducible apply gK
     ·rfl
     ·intro wq hC;have zd1:=aM hC.o' d1;unfold Oper.quietAt;go_simp
      first|(go_at_call 211;refine(RP T tb g _ (HT1.o'.below hC.o')).mono ?_;rintro e wx ⟨rfl,rfl⟩;exact⟨rfl,hC⟩)|with_reducible rfl
     simp only[Act.put,dV,dF,dK];refine hK _ ?_
     clear hK K)
 with_reducible refine jX ?_
 intro wq HQ;have zd1:=aM HQ.o' d1;have HT2:=hd' (HT1.o'.below HQ.o');have HB:=hd' (aK HB1.o' HQ.o');go_wp2_with fail
 go_ret2;exact⟨az.bC HB.o',rfl,HT2.o'⟩
theorem M4 (T:aB) (tb g:Nat) (w:af) (el:Bool) (sp p0:Int) (nm tx:ae) (l:List dD) (n:Nat) (a:Option Addr) (c:Nat) (hnl:n=l.length) (hc:a=none->c=0) (hlen:l.length<=1048576) (hn:T.ai.length<=1048576)
 (h:eH w tb g T) (ha:At w a (bz l)) :
 Calls prog 193 #[.pointer (some ⟨tb,0,none⟩),.agg #[.bool el,.int .i64 sp,.string nm,.slice a n c,.string tx,.int .i64 p0,.slice none 0 0]] w λe w' =>
  ∃g',az (Two tb g) w w'/\(g'=g\/w.heap.size<=g')/\e= .returned (.tuple #[.int .i64 (qz T ⟨el,sp,nm,l,tx, -1,[]⟩).2.1,.int .i64 (qz T ⟨el,sp,nm,l,tx, -1,[]⟩).2.2])/\eH w' tb g' (qz T ⟨el,sp,nm,l,tx, -1,[]⟩).1:=by
 subst hnl;by_cases hm:(T.ai.length:Int)-1<T.gy
 ·have he:qz T ⟨el,sp,nm,l,tx, -1,[]⟩=(bL T ⟨el,sp,nm,l,tx, -1,[]⟩,(T.ai.length:Int),0):=by rw[qz,au hm]
  rw[he];exact afb T tb g w el sp p0 nm tx l a c hc hlen hn h ha hm
 ·have he:qz T ⟨el,sp,nm,l,tx, -1,[]⟩=(T,0,43):=by rw[qz,aj hm]
  rw[he];exact(ah3 T tb g w el sp p0 nm tx l.length a c h (by omega)).mono λe w' ⟨h1,h2,h3⟩=>⟨g,h1,.inl rfl,h2,h3⟩
theorem WY (T:aB) (tb g:Nat) (w:af) (sp:Int) (nm:ae) (l:List dD) (n:Nat) (a:Option Addr) (c:Nat) (hnl:n=l.length) (hc:a=none->c=0) (hlen:l.length<=1048576) (hn:T.ai.length<=1048576)
 (h:eH w tb g T) (ha:At w a (bz l)) :
 Calls prog 146 #[.pointer (some ⟨tb,0,none⟩),.int .i64 sp,.string nm,.slice a n c] w λe w' =>
  ∃g',az (Two tb g) w w'/\(g'=g\/w.heap.size<=g')/\e= .returned (.tuple #[.int .i64 (qz T (fQ sp nm l)).2.1,.int .i64 (qz T (fQ sp nm l)).2.2])/\eH w' tb g' (qz T (fQ sp nm l)).1:=by
 subst hnl;have HC:=hd' (M4 T tb g w true sp 0 nm ⟨#[]⟩ l _ a c rfl hc hlen hn h ha);clear h ha hc;unfold fQ;go_enter func146,ntmps146
 go_wp2_with (go_at_call 193;refine HC.o'.mono ?_;rintro e w1 ⟨g',hK,hg,rfl,hT⟩)
 go_ret2;exact⟨g',hK,hg,rfl,hT⟩
def aX (T:aB) (n:Int):Int:=if aY T n then((T.ai[n.toNat]?).map (·.aN)).getD 0 else 0
def bq (T:aB) (n:Int):ae:=if aY T n then((T.ai[n.toNat]?).map (·.ah)).getD ⟨#[]⟩else⟨#[]⟩
def bW (T:aB) (n:Int):List dD:=if aY T n then((T.ai[n.toNat]?).map (·.aA)).getD []else []
theorem ZY {T:aB} {i:Nat} (h:i<T.ai.length) (he:aY T i=true):aX T i=T.ai[i].aN/\bq T i=T.ai[i].ah/\bW T i=T.ai[i].aA:=by
 simp[aX,bq,bW,he,h]
theorem ahq {T:aB} {n:Int} (he:aY T n=false):aX T n=0/\bq T n=⟨#[]⟩/\bW T n= []:=by
 simp[aX,bq,bW,he]
theorem RZ {u u':af} {B:Nat} {v1 v2 v3:ak} (hb:u'.heap[B]?=u.heap[B]?) (h:u.cell? ⟨B,1,none⟩=some v1/\u.cell? ⟨B,2,none⟩=some v2/\u.cell? ⟨B,3,none⟩=some v3) :
 u'.cell? ⟨B,1,none⟩=some v1/\u'.cell? ⟨B,2,none⟩=some v2/\u'.cell? ⟨B,3,none⟩=some v3:=by
 rw[yz (a:=⟨B,1,none⟩) hb,yz (a:=⟨B,2,none⟩) hb,yz (a:=⟨B,3,none⟩) hb];exact h
theorem He (T:aB) (tb g:Nat) (w:af) (n:Int) (hat: ∀i (h:i<T.ai.length),T.ai[i].aA.length<=1048576) (h:eH w tb g T) :
 Calls prog 41 #[.pointer (some ⟨tb,0,none⟩),.int .i64 n] w λe w'=> ∃v,e= .returned (.tuple #[.int .i64 (aX T n),.string (bq T n),v]) /\
  w'.ownsRow w.heap.size 128 2 v (bW T n).length (bz (bW T n))/\Below w.heap.size w w':=by
 have HC:=hd' (zO T tb g w n h);cases he:aY T n
 ·obtain⟨p1,p2,p3⟩:=ahq he;have HP:=hd' (And.intro p1 (And.intro p2 p3));rw[he]at HC;clear h p1 p2 p3;go_enter func41,ntmps41
  go_wp2_with (go_at_call 72;refine HC.o'.mono ?_;rintro e w1 ⟨rfl,rfl⟩)
  go_ret3;refine⟨_,by rw[HP.o'.1,HP.o'.2.1];rfl,?_,aQ _ _⟩;rw[HP.o'.2.2];exact jY _ _ _ _
 ·have hi:=Cn (T:=T) (a:=n) (by unfold aY at he;exact(Q3.1 he).1);obtain⟨i,rfl⟩:=bQ (by omega:0<=n);have hlt:i<T.ai.length:=by omega
  obtain⟨p1,p2,p3⟩:=ZY hlt he;have HP:=hd' (And.intro p1 (And.intro p2 p3));obtain⟨cap,h1,h2,c0,_,_,_⟩:=h.head;obtain⟨aa,ac,ka,kc,_,_,hA3,_,_,_,hA,_,hc,_⟩:=h.node hlt;have d0:=hc 0 _ rfl;rw[pM]at d0;have d1:=hc 1 _ rfl;have d2:=hc 2 _ rfl;have d3:=hc 3 _ rfl;have d4:=hc 4 _ rfl;have d5:=hc 5 _ rfl;have d6:=hc 6 _ rfl;have hlen:=hat i hlt;obtain⟨l,hl⟩: ∃l,l=T.ai[i].aA:=⟨_,rfl⟩;rw[<-hl]at d3 hA hlen p3;have HPL:=hd' p3;have HA:=hd' hA.at;have H3:=hd' hA3;unfold maxLen at h2;rw[he]at HC;clear h hc hA hA3 hl hat p1 p2 p3 he;go_enter func41,ntmps41
  go_wp2_with (go_at_call 72;refine HC.o'.mono ?_;rintro e w1 ⟨rfl,rfl⟩)
  have hB:=eU w (.cells #[.bool T.ai[i].elem,.int .i64 T.ai[i].aN,.string T.ai[i].ah,.slice aa l.length ac,.string T.ai[i].aL,.int .i64 T.ai[i].parent,.slice ka T.ai[i].aP.length kc] 83);have hb1:=(aQ w.heap.size w).alloc (ay _) (.cells #[.bool T.ai[i].elem,.int .i64 T.ai[i].aN,.string T.ai[i].ah,.slice aa l.length ac,.string T.ai[i].aL,.int .i64 T.ai[i].parent,.slice ka T.ai[i].aP.length kc] 83);have hl1:w.heap.size<(w.alloc (.cells #[.bool T.ai[i].elem,.int .i64 T.ai[i].aN,.string T.ai[i].ah,.slice aa l.length ac,.string T.ai[i].aL,.int .i64 T.ai[i].parent,.slice ka T.ai[i].aP.length kc] 83)).heap.size:=by simp
  generalize w.alloc (.cells #[.bool T.ai[i].elem,.int .i64 T.ai[i].aN,.string T.ai[i].ah,.slice aa l.length ac,.string T.ai[i].aL,.int .i64 T.ai[i].parent,.slice ka T.ai[i].aP.length kc] 83)=w1 at *;obtain⟨_,q1,q2,q3,_,_,_⟩:=zR hB;have HA1:=hd' (HA.o'.below hb1);have HB1:=hd' hb1;have HE:Hid ((w1.drew.alloc (.cells #[] 128)).ownsRow w.heap.size 128 2 (.slice (some ⟨w1.heap.size,0,none⟩) 0 0) 0 []):=hd' (oI w1.drew #[] 0 hb1.size (bD _) rfl);have HA2:=hd' (HA1.o'.below ((aQ _ w1).drew.alloc (ay _) (.cells #[] 128)));obtain⟨i0,hi0,hz0,hz1,hz2⟩:=lY Nb;have b0:0+l.length<=maxLen:=by unfold maxLen;omega
  have b1:(0+l.length)*32<=140737488355328:=by omega
  have W9:=hd' (qV l);have hs2:w.heap.size<=(w1.drew.alloc (.cells #[] 128)).heap.size:=by simp;omega
  have hl2:w.heap.size<(w1.drew.alloc (.cells #[] 128)).heap.size:=by simp;omega
  have Kr:Hid (some w.heap.size≠(Value.slice (some ⟨w1.heap.size,0,none⟩) 0 0).ownBlock):=hd' (λe=>by simp only[Value.ownBlock,dQ]at e;omega);have HNB:Hid (∀k,(Value.slice (some ⟨w1.heap.size,0,none⟩) 0 0).ownBlock=some k->w.heap.size<=k):=hd' (λk e=>by simp only[Value.ownBlock,dQ]at e;omega);clear hB hb1 c0 d0 d1 d2 d3 d4 d5 d6 HC HA
  go_region_held3 (λu=>u.cell? ⟨w.heap.size,1,none⟩=some (.int .i64 T.ai[i].aN)/\u.cell? ⟨w.heap.size,2,none⟩=some (.string T.ai[i].ah)/\u.cell? ⟨w.heap.size,3,none⟩=some (.slice aa l.length ac))
   (first|exact RZ (u:=w1) rfl ⟨q1,q2,q3⟩|exact RZ (u:=w1) (pU w1.drew _ _ hl1) ⟨q1,q2,q3⟩|exact RZ (mU.block _ hl2 Kr.o') (by assumption))
   ((refine fO (by rfl) _ _ 23 (by rfl) w.heap.size 128 i0 _ 2 32 BF hi0 hz0 hz1 hz2 rfl (by decide) _ 0 [] (by rfl) HE.o' aa l.length ac (bz l) (by rfl) W9.o' H3.o' HA2.o' (Ar l) b0 b1 hs2 ?_;intro v2 w4 hown2 mU;simp only[iM,jZ]at hown2))
  have OJ:=hd' hown2;have HG2:=hd' mU;clear hown2 mU;go_wp2_with fail
  go_ret3;refine⟨v2,by rw[HP.o'.1,HP.o'.2.1];rfl,?_,?_⟩
  ·rw[HPL.o'];exact OJ.o'
  ·exact((HB1.o'.drew).alloc HB1.o'.size _).grown HG2.o' hs2 HNB.o'
def dm (T:aB) (n:Int):aB×Int×Int:=if aY T n then qz T (fQ (aX T n) (bq T n) (bW T n))else(T,0,47)
theorem tZ {T:aB} (hat: ∀i (h:i<T.ai.length),T.ai[i].aA.length<=1048576) (n:Int):(bW T n).length<=1048576:=by
 unfold bW;split
 ·by_cases h:n.toNat<T.ai.length
  ·simpa[h] using hat _ h
  ·simp[h]
 ·exact bD _
theorem agN (T:aB) (tb g:Nat) (w:af) (n:Int) (hn:T.ai.length<=1048576) (hat: ∀i (h:i<T.ai.length),T.ai[i].aA.length<=1048576) (h:eH w tb g T) :
 Calls prog 223 #[.pointer (some ⟨tb,0,none⟩),.int .i64 n] w λe w' =>
  ∃g',az (Two tb g) w w'/\(g'=g\/w.heap.size<=g')/\e= .returned (.tuple #[.int .i64 (dm T n).2.1,.int .i64 (dm T n).2.2])/\eH w' tb g' (dm T n).1:=by
 have HC:=hd' (zO T tb g w n h);have HT:=hd' h;cases he:aY T n
 ·have HP:Hid (dm T n=(T,0,47)):=by show _=_;rw[dm,he];rfl
  rw[he]at HC;clear h;go_enter func223,ntmps223
  go_wp2_with (go_at_call 72;refine HC.o'.mono ?_;rintro e w1 ⟨rfl,rfl⟩)
  go_ret2;rw[HP.o'];exact⟨g,az.refl _ _,.inl rfl,rfl,HT.o'⟩
 ·obtain⟨sp,hsp⟩: ∃x,x=aX T n:=⟨_,rfl⟩;obtain⟨nm,hnm⟩: ∃x,x=bq T n:=⟨_,rfl⟩;obtain⟨l,hl⟩: ∃x,x=bW T n:=⟨_,rfl⟩;have HP:Hid (dm T n=qz T (fQ sp nm l)):=by show _=_;rw[dm,he,hsp,hnm,hl];rfl
  have HW:=hd' (He T tb g w n hat h);rw[<-hsp,<-hnm,<-hl]at HW;have hlen:=tZ hat n;rw[<-hl]at hlen;rw[he]at HC;clear h hat hsp hnm hl;go_enter func223,ntmps223
  go_wp2_with (go_at_call 72;refine HC.o'.mono ?_;rintro e w1 ⟨rfl,rfl⟩)
  refine HW.o'.mono ?_;rintro e w1 ⟨v,rfl,ho,hb⟩;obtain⟨a,c,rfl,_,_,ha,afW⟩:=fJ ho;have HB:=hd' hb;have HE:=hd' (WY T tb g w1 sp nm l _ a c rfl ha hlen hn (HT.o'.below hb) afW);clear ho hb ha afW;go_wp2_with fail
  refine HE.o'.mono ?_;rintro e w2 ⟨g',hK,hg,rfl,hT⟩;have HK:=hd' ((az.bC HB.o').trans hK);have HT2:=hd' hT;have hs:=HB.o'.size;have hg2:g'=g\/w.heap.size<=g':=hg.imp id (bY hs);clear hK hT hs hg;go_wp2_with fail
  go_ret2;rw[HP.o'];exact⟨g',HK.o',hg2,rfl,HT2.o'⟩
end Go.Proofs.YtnlbcifhedjbfaaGreatDoor
end
section
namespace Go.Proofs.YtnlbcifhedjbfaaGreatDoor
open Go.RowKit Mem
def pG:Nat->Prop:=λ_=>False
theorem gF {F:Nat->Prop} {W u u':af} {row:Option Nat} (h:az F W u) (hg:u.grownBy u' row) (hr: ∀k,row=some k->W.heap.size<=k):az F W u' :=
 ⟨hg.os.trans h.os,hg.tape.trans h.tape,hg.output.trans h.output,bY h.size hg.size,λk hk hF=>(hg.block k (fA hk h.size) λe=>by have:=hr k e.symm;omega).trans (h.block k hk hF)⟩
theorem iw {W u:af} {p:Addr} {v:ak} (hk:az pG W u) (hc:W.cell? p=some v):u.cell? p=some v:=by
 rw[yz (w:=W) (hk.block p.block (lt_of_cell hc) (λh=>h))];exact hc
theorem EO {W u:af} {p:Addr} (hk:az pG W u) (hc:p.block<W.heap.size):u.frozen? p=W.frozen? p :=
 World.frozen?_of_block (w:=W) (hk.block p.block hc (λh=>h))
theorem RG {W u:af} {p q:Addr} {v x:ak} (hk:az pG W u) (hc:W.cell? p=some v) (hne:p.block≠q.block):(u.setCell q x).cell? p=some v:=by
 rw[yz (w:=u) (Below.heap_setCell u q x p.block hne)];exact iw hk hc
theorem RH {F:Nat->Prop} {W u:af} (hk:az pG W u):az F W u:=hk.mono λ_ _ h=>h.elim
theorem ji {w:af} {base:Nat} {e:TypeId} {size:Nat} {v:ak} {n:Nat} {xs:List ak} (h:w.ownsRow base e size v n xs): ∀k,v.ownBlock=some k->base<=k:=λk hk=>(h.lt k hk).1
theorem aiU {w:af} {b:Nat} {l:List Int} (h:At w (some ⟨b,0,none⟩) (bB l)) (i:Nat):At w (some ⟨b,i,none⟩) (bB (l.drop i)):=by
 intro j u hj
 have:(bB l)[i+j]?=some u:=by
  rw[<-hj];simp[bB,List.getElem?_drop]
 obtain⟨b',o,he,hc⟩:=h (i+j) u this;cases he;exact⟨b,i,rfl,by rw[show i+j=0+(i+j)from by omega];exact hc⟩
theorem KG {w:af} {a:Option Addr} {l:List Int} (h:At w a (bB l)) (i:Nat):At w a (bB (l.take i)):=by
 refine At.left (ys:=bB (l.drop i)) ?_;rw[<-jI,nQ];exact h
theorem ajP {w:af} {b:Nat} {l:List Int} (h:At w (some ⟨b,0,none⟩) (bB l)) (i c:Nat) (hi:l.length<=c):At w (if c=i then some ⟨b,0,none⟩else some ⟨b,i,none⟩) (bB (l.drop i)):=by
 split
 ·rename_i e;have:l.drop i= []:=iZ (by omega);rw[this];intro j u hj;simp[bB]at hj
 ·exact aiU h i
theorem aaN {c i:Nat} {x y:Addr} {k:Nat}:(if c=i then some x else some y)=none->k=0:=by
 split <;>intro h <;>cases h
theorem at_one (w:af) (n:Int) (t:TypeId):At (w.alloc (.cells #[.int .i64 n] t)) (some ⟨w.heap.size,0,none⟩) [.int .i64 n]:=by
 intro j u hj;refine⟨_,_,rfl,?_⟩;rw[lF _ _ _ _ _ _ (eU w _)];simpa using hj
theorem Ha {w w':af} {row:Option Nat} {b o:Nat} {xs:List ak} (h:At w (some ⟨b,o,none⟩) xs) (hg:w.grownBy w' row) (hne:some b≠row):At w' (some ⟨b,o,none⟩) xs:=by
 intro j u hj;obtain⟨b',o',he,hc⟩:=h j u hj;cases he;exact⟨b,o,rfl,cell_grown hc hg hne⟩
theorem qY {F:Nat->Prop} {w u:af} {a:Option Addr} {xs:List ak} (h:rX F w a xs) (hk:az F w u):At u a xs:=(h.kept hk).at
theorem Dg {W u:af} (h:az pG W u):Below W.heap.size W u:=h.below (λ_ _ h=>h) (ay _)
theorem IG {w:af} {tb g:Nat} {T:aB} (h:eH w tb g T) {a:Nat} (ha:a<T.ai.length) {base:Nat} {v:ak} {l:List Int} {m:Nat} (ho:w.ownsRow base 3 1 v m (bB l)) (hb1:tb<base) (hb2:g<base) (hb3: ∀k,T.jV k->k<base) :
 eH (w.setCell ⟨g,a*7+6,none⟩ v) tb g (iK T a (iC l)):=by
 have hm:m=l.length:=by
  have:=ho.1;rw[eu]at this;omega
 subst hm;rw[RJ T a _ ha];refine kM.write h ha 6 (by decide) v _ λcs hcs=> ?_
 obtain⟨aa,ac,ka,kc,rfl,h2,h3,h4,h5,h6,h7,h8,h9⟩:=hcs
 obtain⟨a',c',rfl,k1,k2,k3,k4⟩:=F9 (F:=Dat T.jV tb g) ho (λk hk=>by
  rcases hk with(rfl|rfl)|hk
  ·assumption
  ·assumption
  ·exact hb3 k hk)
 exact⟨aa,ac,a',c',rfl,h2,h3,h4,k1,k2,k3,h8,k4⟩
theorem yc {w:af} {tb g:Nat} {T:aB} (h:eH w tb g T) {n:Nat} (hn:n<T.ai.length) (p:Int):eH (w.setCell ⟨g,n*7+5,none⟩ (.int .i64 p)) tb g (iK T n (fo p)):=by
 rw[RJ T n _ hn];refine kM.write h hn 5 (by decide) _ _ λcs hcs=> ?_
 obtain⟨aa,ac,ka,kc,rfl,h2,h3,h4,h5,h6,h7,h8,h9⟩:=hcs;exact⟨aa,ac,ka,kc,rfl,h2,h3,h4,h5,h6,h7,h8,h9⟩
theorem aby {w:af} {tb g:Nat} {T:aB} (h:eH w tb g T) {n:Nat} (hn:n<T.ai.length) (s:ae):eH (w.setCell ⟨g,n*7+4,none⟩ (.string (T.ai[n].aL++s))) tb g (iK T n (iQ s)):=by
 rw[RJ T n _ hn];refine kM.write h hn 4 (by decide) _ _ λcs hcs=> ?_
 obtain⟨aa,ac,ka,kc,rfl,h2,h3,h4,h5,h6,h7,h8,h9⟩:=hcs;exact⟨aa,ac,ka,kc,rfl,h2,h3,h4,h5,h6,h7,h8,h9⟩
theorem xm {w:af} {tb g:Nat} {T:aB} (h:eH w tb g T) {n:Nat} (hn:n<T.ai.length) :
 (∃cap,T.ai.length<=cap/\cap<=maxLen/\w.cell? ⟨tb,0,none⟩=some (.slice (some ⟨g,0,none⟩) T.ai.length cap))/\w.cell? ⟨g,n*7+5,none⟩=some (.int .i64 T.ai[n].parent)/\w.frozen? ⟨g,n*7+5,none⟩=false:=by
 obtain⟨cap,h1,h2,c0,_⟩:=h.head;obtain⟨aa,ac,ka,kc,_,_,_,_,_,_,_,_,hc,hf⟩:=h.node hn;exact⟨⟨cap,h1,h2,c0⟩,hc 5 _ rfl,hf _⟩
theorem VF (T:aB) (tb g:Nat) (w:af) (a i n:Nat) (ha:a<T.ai.length) (hn:n<T.ai.length) (l:List Int) (hl:l=T.ai[a].aP) (hi:i<=l.length) (hk:l.length<=2097152) (h:eH w tb g T)
 (aa:Option Addr) (ac kb kc:Nat) (hk1:l.length<=kc) (hk2:kc<=maxLen) (za:rX (Dat T.jV tb g) w (some ⟨kb,0,none⟩) (bB l))
 (hc: ∀f v,(AZ T.ai[a] aa ac (some ⟨kb,0,none⟩) kc)[f]?=some v->w.cell? ⟨g,a*7+f,none⟩=some v) (hf: ∀j,w.frozen? ⟨g,j,none⟩=false) :
 Calls prog 194 #[.pointer (some ⟨tb,0,none⟩),.int .i64 a,.int .i64 i,.int .i64 n] w λe w'=>e= .returned (.tuple #[])/\eH w' tb g (eF T a i n)/\az (Two tb g) w w':=by
 obtain⟨cap,h1,h2,c0,_,_,_⟩:=h.head;obtain⟨_,Cs,hne,_⟩:=h.open_;obtain⟨ht1,ht2⟩:=h.lt;have d6:=hc 6 _ rfl;rw[<-hl]at d6;have HF:Hid (iK (iK T a (iC (l.take i++(n:Int)::l.drop i))) n (fo a)=eF T a i n):=hd' (by rw[eF,lS T a ha,<-hl]);have HT:=hd' h;have HK:=hd' (za.other (G:=(· =g)) λb _ hb=> .inl (.inr hb));have f6:=hf (a*7+6);unfold maxLen at h2 hk2;have hi':(i:Int)<=(l.length:Int):=by omega
 have apK:(i:Int)<=(kc:Int):=by omega
 obtain⟨i0,hi0,hz0,hz1,hz2⟩:=lY GG;clear h hc hf za hl;go_enter func194,ntmps194
 go_wp2_with fail
 have K1:=hd' ((az.refl pG w).alloc (.cells #[] 3)).drew;have K2:=hd' (((az.refl pG w).alloc (.cells #[] 3)).alloc (.cells #[.int .i64 n] 3)).drew;have K4:=hd' ((az.refl pG w).alloc (.cells #[.int .i64 n] 3)).drew;have K3:=hd' (((az.refl pG w).alloc (.cells #[.int .i64 n] 3)).alloc (.cells #[] 3)).drew;have O1:Hid ((w.alloc (.cells #[] 3)).drew.ownsRow w.heap.size 3 1 (.slice (some ⟨w.heap.size,0,none⟩) 0 0) 0 []):=hd' (oI w #[] 0 (ay _) (bD _) rfl).drew;have O2:=hd' (((oI (base:=w.heap.size) (e:=3) (size:=1) w #[] 0 (ay _) (bD _) rfl).alloc (.cells #[.int .i64 n] 3)).drew)
 have O3:Hid (((w.alloc (.cells #[.int .i64 n] 3)).alloc (.cells #[] 3)).drew.ownsRow w.heap.size 3 1 (.slice (some ⟨w.heap.size+1,0,none⟩) 0 0) 0 []):=hd' (by
  have:=oI (base:=w.heap.size) (e:=3) (size:=1) (w.alloc (.cells #[.int .i64 n] 3)) #[] 0 (by simp) (bD _) rfl
  exact World.ownsRow.drew (by simpa using this))
 have N2:Hid (At ((w.alloc (.cells #[] 3)).alloc (.cells #[.int .i64 n] 3)).drew (some ⟨w.heap.size+1,0,none⟩) [.int .i64 n]):=hd' (by
  have:=(at_one (w.alloc (.cells #[] 3)) n 3).below (aQ _ _).drew
  simpa using this)
 have N3:Hid (At ((w.alloc (.cells #[.int .i64 n] 3)).alloc (.cells #[] 3)).drew (some ⟨w.heap.size,0,none⟩) [.int .i64 n]):=hd' ((at_one w n 3).below ((aQ _ _).alloc (ay _) _).drew);have b0:0+i<=maxLen:=by unfold maxLen;omega
 have b1:(0+i)*8<=140737488355328:=by omega
 have b2:i+1<=maxLen:=by unfold maxLen;omega
 have b3:(i+1)*8<=140737488355328:=by omega
 have b4:i+1+(l.length-i)<=maxLen:=by unfold maxLen;omega
 have b5:(i+1+(l.length-i))*8<=140737488355328:=by omega
 have L1:Hid ((bB (l.take i)).length=i*1):=hd' (by rw[eu,fV];omega);have L2:Hid ((bB (l.drop i)).length=(l.length-i)*1):=hd' (by rw[eu,dN];omega);have hkc:l.length<=kc:=hk1;have B1:Hid (∀k,(Value.slice (some ⟨w.heap.size,0,none⟩) 0 0).ownBlock=some k->w.heap.size<=k):=hd' (λk e=>by simp only[Value.ownBlock,dQ]at e;omega);have B3:Hid (∀k,(Value.slice (some ⟨w.heap.size+1,0,none⟩) 0 0).ownBlock=some k->w.heap.size<=k):=hd' (λk e=>by simp only[Value.ownBlock,dQ]at e;omega);have E2:Hid (some (w.heap.size+1)≠(Value.slice (some ⟨w.heap.size,0,none⟩) 0 0).ownBlock):=hd' (λe=>by simp only[Value.ownBlock,dQ]at e;omega);have E3:Hid (some w.heap.size≠(Value.slice (some ⟨w.heap.size+1,0,none⟩) 0 0).ownBlock):=hd' (λe=>by simp only[Value.ownBlock,dQ]at e;omega);have HLL:Hid (bB (l.take i)++ [.int .i64 n]++bB (l.drop i)=bB (l.take i++(n:Int)::l.drop i)):=hd' (by rw[jI,vP];rfl);have HKA:=hd' (HK.o'.other (G:=pG) (λb _ hb=>hb.elim));have hSz:w.heap.size<=w.heap.size+1+1:=by omega
 go_region_held3 (λu=>u.cell? ⟨tb,0,none⟩=some (.slice (some ⟨g,0,none⟩) T.ai.length cap))
  (first|exact c0|exact iw K1.o' c0|exact iw K2.o' c0|exact iw K3.o' c0|exact iw K4.o' c0|exact iw TH.o' c0|exact iw (TH.o'.alloc _) c0|exact iw K29.o' c0|exact iw Qv.o' c0|exact RG Qv.o' c0 hne)
  (first
    |(refine fO (by rfl) (.tmp 22) (.tmp 25) _ (by rfl) w.heap.size 3 i0 _ 1 8 oJ hi0 hz0 hz1 hz2 rfl (by decide) _ 0 [] (by rfl) (by first|exact O1.o'|exact O2.o'|exact O3.o') (some ⟨kb,0,none⟩) i kc (bB (l.take i)) (by rfl) L1.o' (λe=>by cases e) (by first|exact KG (qY HKA.o' K1.o') i|exact KG (qY HKA.o' K2.o') i|exact KG (qY HKA.o' K3.o') i) (jl _) b0 b1 (by first|exact K1.o'.size|exact K2.o'.size|exact K3.o'.size) ?_
      intro v26 w26 tV wB;simp only[iM,jZ]at tV;have TH:Hid (az pG w w26):=hd' (by first|exact gF K1.o' wB B1.o'|exact gF K2.o' wB B1.o'|exact gF K3.o' wB B3.o')
      first|have N26:=hd' (Ha N2.o' wB E2.o')|have N26:=hd' (Ha N3.o' wB E3.o')|skip
      obtain⟨a26,c26,rfl,_,_,_,_⟩:=fJ tV;have O26:=hd' tV
      clear tV wB)
    |(refine fO (by rfl) (.tmp 26) (.tmp 28) _ (by rfl) w.heap.size 3 i0 _ 1 8 oJ hi0 hz0 hz1 hz2 rfl (by decide) _ i (bB (l.take i)) (by rfl) (by first|exact O26.o'|exact O26.o'.alloc _) (some ⟨_,0,none⟩) 1 1 [.int .i64 n] (by rfl) (by rfl) (λe=>by cases e) (by first|exact N26.o'|exact at_one _ _ _) (jl [_]) b2 b3 (by first|exact TH.o'.size|exact(TH.o'.alloc _).size) ?_
      intro v29 w29 Cr Ng;have K29:Hid (az pG w w29):=hd' (by first|exact gF TH.o' Ng (ji O26.o')|exact gF (TH.o'.alloc _) Ng (ji O26.o'));obtain⟨a29,c29,rfl,_,_,_,_⟩:=fJ Cr;have O29:=hd' Cr
      clear Cr Ng)
    |(refine fO (by rfl) (.tmp 29) (.tmp 32) _ (by rfl) w.heap.size 3 i0 _ 1 8 oJ hi0 hz0 hz1 hz2 rfl (by decide) _ (i+1) _ (by rfl) O29.o' (if kc=i then some ⟨kb,0,none⟩else some ⟨kb,i,none⟩) (l.length-i) (kc-i) (bB (l.drop i)) (by rfl) L2.o' aaN (ajP (qY HKA.o' K29.o') i kc hkc) (jl _) b4 b5 K29.o'.size ?_
      intro v33 w33 vX J4;have Qv:Hid (az pG w w33):=hd' (gF K29.o' J4 (ji O29.o'));have c33:=iw Qv.o' d6;have f33:=(EO (p:=⟨g,a*7+6,none⟩) Qv.o' ht2).trans f6;obtain⟨a33,ags,rfl,_,_,_,_⟩:=fJ vX;have O33:=hd' vX
      clear vX J4))
 all_goals
  have Nl:=IG (HT.o'.below (Dg Qv.o')) ha (by rw[<-HLL.o'];exact O33.o') ht1 ht2 (λk hk=>(HT.o'.vY k hk).1);obtain⟨⟨cap4,k1,k2,e0⟩,e5,e5'⟩:=xm Nl (n:=n) (by rw[gU];exact hn);have VT:=yc Nl (n:=n) (by rw[gU];exact hn) a;have VU:=((RH (F:=Two tb g) Qv.o').set (p:=⟨g,a*7+6,none⟩) (.inl (.inr rfl)) (.slice a33 (i+1+(l.length-i)) ags)).set (p:=⟨g,n*7+5,none⟩) (.inl (.inr rfl)) (.int .i64 a)
  rw[gU]at k1 e0;have agS:=hd' VT;have ag1:=hd' VU;unfold maxLen at k2;clear Nl VT VU;go_wp2_with fail
  all_goals
   go_end0
   exact⟨rfl,HF.o'▸agS.o',ag1.o'⟩
theorem VG (T:aB) (tb g:Nat) (w:af) (a n:Nat) (ha:a<T.ai.length) (hn:n<T.ai.length) (hl:T.ai[a].aP= []) (h:eH w tb g T)
 (aa:Option Addr) (ac:Nat)
 (hc: ∀f v,(AZ T.ai[a] aa ac none 0)[f]?=some v->w.cell? ⟨g,a*7+f,none⟩=some v) (hf: ∀j,w.frozen? ⟨g,j,none⟩=false) :
 Calls prog 194 #[.pointer (some ⟨tb,0,none⟩),.int .i64 a,.int .i64 0,.int .i64 n] w λe w'=>e= .returned (.tuple #[])/\eH w' tb g (eF T a 0 n)/\az (Two tb g) w w':=by
 obtain⟨cap,h1,h2,c0,_,_,_⟩:=h.head;obtain⟨_,Cs,hne,_⟩:=h.open_;obtain⟨ht1,ht2⟩:=h.lt;have d6:=hc 6 _ rfl;rw[hl]at d6;have HF:Hid (iK (iK T a (iC [(n:Int)])) n (fo a)=eF T a 0 n):=hd' (by rw[eF,lS T a ha,hl];rfl);have HT:=hd' h;have f6:=hf (a*7+6);unfold maxLen at h2;obtain⟨i0,hi0,hz0,hz1,hz2⟩:=lY GG;clear h hc hf hl;go_enter func194,ntmps194
 go_wp2_with fail
 have K1:=hd' ((az.refl pG w).alloc (.cells #[] 3)).drew;have K2:=hd' (((az.refl pG w).alloc (.cells #[] 3)).alloc (.cells #[.int .i64 n] 3)).drew;have K4:=hd' ((az.refl pG w).alloc (.cells #[.int .i64 n] 3)).drew;have K3:=hd' (((az.refl pG w).alloc (.cells #[.int .i64 n] 3)).alloc (.cells #[] 3)).drew;have O1:Hid ((w.alloc (.cells #[] 3)).drew.ownsRow w.heap.size 3 1 (.slice (some ⟨w.heap.size,0,none⟩) 0 0) 0 []):=hd' (oI w #[] 0 (ay _) (bD _) rfl).drew;have O2:=hd' (((oI (base:=w.heap.size) (e:=3) (size:=1) w #[] 0 (ay _) (bD _) rfl).alloc (.cells #[.int .i64 n] 3)).drew)
 have O3:Hid (((w.alloc (.cells #[.int .i64 n] 3)).alloc (.cells #[] 3)).drew.ownsRow w.heap.size 3 1 (.slice (some ⟨w.heap.size+1,0,none⟩) 0 0) 0 []):=hd' (by
  have:=oI (base:=w.heap.size) (e:=3) (size:=1) (w.alloc (.cells #[.int .i64 n] 3)) #[] 0 (by simp) (bD _) rfl
  exact World.ownsRow.drew (by simpa using this))
 have N2:Hid (At ((w.alloc (.cells #[] 3)).alloc (.cells #[.int .i64 n] 3)).drew (some ⟨w.heap.size+1,0,none⟩) [.int .i64 n]):=hd' (by
  have:=(at_one (w.alloc (.cells #[] 3)) n 3).below (aQ _ _).drew
  simpa using this)
 have N3:Hid (At ((w.alloc (.cells #[.int .i64 n] 3)).alloc (.cells #[] 3)).drew (some ⟨w.heap.size,0,none⟩) [.int .i64 n]):=hd' ((at_one w n 3).below ((aQ _ _).alloc (ay _) _).drew);have B1:Hid (∀k,(Value.slice (some ⟨w.heap.size,0,none⟩) 0 0).ownBlock=some k->w.heap.size<=k):=hd' (λk e=>by simp only[Value.ownBlock,dQ]at e;omega);have B3:Hid (∀k,(Value.slice (some ⟨w.heap.size+1,0,none⟩) 0 0).ownBlock=some k->w.heap.size<=k):=hd' (λk e=>by simp only[Value.ownBlock,dQ]at e;omega);have E2:Hid (some (w.heap.size+1)≠(Value.slice (some ⟨w.heap.size,0,none⟩) 0 0).ownBlock):=hd' (λe=>by simp only[Value.ownBlock,dQ]at e;omega);have E3:Hid (some w.heap.size≠(Value.slice (some ⟨w.heap.size+1,0,none⟩) 0 0).ownBlock):=hd' (λe=>by simp only[Value.ownBlock,dQ]at e;omega);have hSz:w.heap.size<=w.heap.size+1+1:=by omega
 go_region_held3 (λu=>u.cell? ⟨tb,0,none⟩=some (.slice (some ⟨g,0,none⟩) T.ai.length cap))
  (first|exact c0|exact iw K1.o' c0|exact iw K2.o' c0|exact iw K3.o' c0|exact iw K4.o' c0|exact iw TH.o' c0|exact iw (TH.o'.alloc _) c0|exact iw K29.o' c0|exact iw Qv.o' c0|exact RG Qv.o' c0 hne)
  (first
    |(refine fO (by rfl) (.tmp 22) (.tmp 25) _ (by rfl) w.heap.size 3 i0 _ 1 8 oJ hi0 hz0 hz1 hz2 rfl (by decide) _ 0 [] (by rfl) (by first|exact O1.o'|exact O2.o'|exact O3.o') none 0 0 [] (by rfl) (by rfl) (λ_=>rfl) (At.nil _ _) (λu hu=>by cases hu) (by decide) (by decide) (by first|exact K1.o'.size|exact K2.o'.size|exact K3.o'.size) ?_
      intro v26 w26 tV wB;simp only[iM,jZ]at tV;have TH:Hid (az pG w w26):=hd' (by first|exact gF K1.o' wB B1.o'|exact gF K2.o' wB B1.o'|exact gF K3.o' wB B3.o')
      first|have N26:=hd' (Ha N2.o' wB E2.o')|have N26:=hd' (Ha N3.o' wB E3.o')|skip
      obtain⟨a26,c26,rfl,_,_,_,_⟩:=fJ tV;have O26:=hd' tV
      clear tV wB)
    |(refine fO (by rfl) (.tmp 26) (.tmp 28) _ (by rfl) w.heap.size 3 i0 _ 1 8 oJ hi0 hz0 hz1 hz2 rfl (by decide) _ 0 [] (by rfl) (by first|exact O26.o'|exact O26.o'.alloc _) (some ⟨_,0,none⟩) 1 1 [.int .i64 n] (by rfl) (by rfl) (λe=>by cases e) (by first|exact N26.o'|exact at_one _ _ _) (jl [_]) (by decide) (by decide) (by first|exact TH.o'.size|exact(TH.o'.alloc _).size) ?_
      intro v29 w29 Cr Ng;simp only[iM,jZ]at Cr;have K29:Hid (az pG w w29):=hd' (by first|exact gF TH.o' Ng (ji O26.o')|exact gF (TH.o'.alloc _) Ng (ji O26.o'));obtain⟨a29,c29,rfl,_,_,_,_⟩:=fJ Cr;have O29:=hd' Cr
      clear Cr Ng)
    |(refine fO (by rfl) (.tmp 29) (.tmp 32) _ (by rfl) w.heap.size 3 i0 _ 1 8 oJ hi0 hz0 hz1 hz2 rfl (by decide) _ 1 _ (by rfl) O29.o' none 0 0 [] (by rfl) (by rfl) (λ_=>rfl) (At.nil _ _) (λu hu=>by cases hu) (by decide) (by decide) K29.o'.size ?_
      intro v33 w33 vX J4;simp only[pM,kI]at vX;have Qv:Hid (az pG w w33):=hd' (gF K29.o' J4 (ji O29.o'));have c33:=iw Qv.o' d6;have f33:=(EO (p:=⟨g,a*7+6,none⟩) Qv.o' ht2).trans f6;obtain⟨a33,ags,rfl,_,_,_,_⟩:=fJ vX;have O33:=hd' vX
      clear vX J4))
 all_goals
  have Nl:=IG (HT.o'.below (Dg Qv.o')) ha (l:= [(n:Int)]) O33.o' ht1 ht2 (λk hk=>(HT.o'.vY k hk).1);obtain⟨⟨cap4,k1,k2,e0⟩,e5,e5'⟩:=xm Nl (n:=n) (by rw[gU];exact hn);have VT:=yc Nl (n:=n) (by rw[gU];exact hn) a;have VU:=((RH (F:=Two tb g) Qv.o').set (p:=⟨g,a*7+6,none⟩) (.inl (.inr rfl)) (.slice a33 1 ags)).set (p:=⟨g,n*7+5,none⟩) (.inl (.inr rfl)) (.int .i64 a)
  rw[gU]at k1 e0;have agS:=hd' VT;have ag1:=hd' VU;unfold maxLen at k2;clear Nl VT VU;go_wp2_with fail
  all_goals
   go_end0
   exact⟨rfl,HF.o'▸agS.o',ag1.o'⟩
theorem EZ (T:aB) (tb g:Nat) (w:af) (a i n:Nat) (ha:a<T.ai.length) (hn:n<T.ai.length) (hi:i<=(aG T a).length) (hk:(aG T a).length<=2097152) (h:eH w tb g T) :
 Calls prog 194 #[.pointer (some ⟨tb,0,none⟩),.int .i64 a,.int .i64 i,.int .i64 n] w λe w'=>e= .returned (.tuple #[])/\eH w' tb g (eF T a i n)/\az (Two tb g) w w':=by
 rw[lS T a ha]at hi hk;obtain⟨aa,ac,ka,kc,_,_,_,hk1,hk2,hk3,_,za,hc,hf⟩:=h.node ha;rcases hk3 with⟨rfl,rfl⟩|⟨kb,rfl⟩
 ·have hl:T.ai[a].aP= []:=rF (by omega);rw[hl]at hi;obtain rfl:i=0:=by simpa using hi
  exact VG T tb g w a n ha hn hl h aa ac hc hf
 ·exact VF T tb g w a i n ha hn _ rfl hi hk h aa ac kb kc hk1 hk2 za hc hf
end Go.Proofs.YtnlbcifhedjbfaaGreatDoor
end
section
namespace Go.Proofs.YtnlbcifhedjbfaaGreatDoor
open Go.RowKit Mem
def O5 (T:aB) (n:Int):aB×Int:=if xF T n then(bG T n,0)else(T,47)
theorem node5 {w:af} {tb g:Nat} {T:aB} (h:eH w tb g T) {n:Nat} (hn:n<T.ai.length):w.cell? ⟨g,n*7+5,none⟩=some (.int .i64 (aJ T n)):=by
 rw[Ao T n hn];exact(xm h hn).2.1
theorem ad7 (T:aB) (tb g:Nat) (w:af) (n a k:Nat) (hn1:1<=n) (hn:n<T.ai.length) (ha:a<T.ai.length) (hp:aJ T n=a) (l:List Int) (hl:l=T.ai[a].aP) (hk:k<l.length) (hkl:l.length<=2097152)
 (hpl:eT T a n=k) (hE:l.take k++l.drop (k+1)=l.filter (· !=(n:Int))) (h:eH w tb g T)
 (aa:Option Addr) (ac kb kc:Nat) (hk1:l.length<=kc) (hk2:kc<=maxLen) (za:rX (Dat T.jV tb g) w (some ⟨kb,0,none⟩) (bB l))
 (hc: ∀f v,(AZ T.ai[a] aa ac (some ⟨kb,0,none⟩) kc)[f]?=some v->w.cell? ⟨g,a*7+f,none⟩=some v) (hf: ∀j,w.frozen? ⟨g,j,none⟩=false) :
 Calls prog 196 #[.pointer (some ⟨tb,0,none⟩),.int .i64 n] w λe w'=>e= .returned (.int .i64 0)/\eH w' tb g (bG T n)/\az (Two tb g) w w':=by
 obtain⟨cap,h1,h2,c0,_,_,_⟩:=h.head;obtain⟨_,Cs,hne,_⟩:=h.open_;obtain⟨ht1,ht2⟩:=h.lt;have HI:=hd' (AB T tb g w n h);have his:xF T n=true:=by simp[xF];omega
 rw[his]at HI;have HP:=hd' (qw T tb g w a n ha h);rw[hpl]at HP;have d5:=node5 h hn;rw[hp]at d5;have d6:=hc 6 _ rfl;rw[<-hl]at d6;have HF:Hid (iK (iK T a (iC (l.filter (· !=(n:Int))))) n (fo (-1))=bG T n):=hd' (by rw[bG,iD,hp,au (by omega),lS T a ha,<-hl]);have HEE:=hd' hE;have HT:=hd' h;have HKA:=hd' (za.other (G:=pG) (λb _ hb=>hb.elim));have f6:=hf (a*7+6);unfold maxLen at h2 hk2;have hi':(k:Int)<=(l.length:Int):=by omega
 have apK:(k:Int)<=(kc:Int):=by omega
 have hw1:IntKind.i64.wrap ((k:Int)+1)=(k:Int)+1:=by rw[qG];omega
 have hi3:(k:Int)+1<=(l.length:Int):=by omega
 have hi4:(k:Int)+1<=(kc:Int):=by omega
 have hi5:(0:Int)<=(k:Int)+1:=by omega
 obtain⟨i0,hi0,hz0,hz1,hz2⟩:=lY GG;clear h hc hf za hl hE hpl his;go_enter func196,ntmps196
 go_wp2_with (first|(go_at_call 40;refine HI.o'.mono ?_;rintro e w1 ⟨rfl,rfl⟩)|(go_at_call 192;refine HP.o'.mono ?_;rintro e w1 ⟨rfl,rfl⟩))
 have K1:=hd' ((az.refl pG w).alloc (.cells #[] 3)).drew;have O1:Hid ((w.alloc (.cells #[] 3)).drew.ownsRow w.heap.size 3 1 (.slice (some ⟨w.heap.size,0,none⟩) 0 0) 0 []):=hd' (oI w #[] 0 (ay _) (bD _) rfl).drew;have b0:0+k<=maxLen:=by unfold maxLen;omega
 have b1:(0+k)*8<=140737488355328:=by omega
 have b4:k+(l.length-(k+1))<=maxLen:=by unfold maxLen;omega
 have b5:(k+(l.length-(k+1)))*8<=140737488355328:=by omega
 have L1:Hid ((bB (l.take k)).length=k*1):=hd' (by rw[eu,fV];omega);have L2:Hid ((bB (l.drop (k+1))).length=(l.length-(k+1))*1):=hd' (by rw[eu,dN];omega);have B1:Hid (∀j,(Value.slice (some ⟨w.heap.size,0,none⟩) 0 0).ownBlock=some j->w.heap.size<=j):=hd' (λj e=>by simp only[Value.ownBlock,dQ]at e;omega);have HLL:Hid (bB (l.take k)++bB (l.drop (k+1))=bB (l.filter (· !=(n:Int)))):=hd' (by rw[<-jI,HEE.o'])
 go_region_held3 (λu=>u.cell? ⟨tb,0,none⟩=some (.slice (some ⟨g,0,none⟩) T.ai.length cap))
  (first|exact c0|exact iw K1.o' c0|exact iw TH.o' c0|exact iw Qv.o' c0|exact RG Qv.o' c0 hne)
  (first
    |(refine fO (by rfl) (.tmp 39) (.tmp 42) _ (by rfl) w.heap.size 3 i0 _ 1 8 oJ hi0 hz0 hz1 hz2 rfl (by decide) _ 0 [] (by rfl) O1.o' (some ⟨kb,0,none⟩) k kc (bB (l.take k)) (by rfl) L1.o' (λe=>by cases e) (KG (qY HKA.o' K1.o') k) (jl _) b0 b1 K1.o'.size ?_
      intro v26 w26 tV wB;simp only[iM,jZ]at tV;have TH:Hid (az pG w w26):=hd' (gF K1.o' wB B1.o');obtain⟨a26,c26,rfl,_,_,_,_⟩:=fJ tV;have O26:=hd' tV
      clear tV wB)
    |(refine fO (by rfl) (.tmp 43) (.tmp 47) _ (by rfl) w.heap.size 3 i0 _ 1 8 oJ hi0 hz0 hz1 hz2 rfl (by decide) _ k _ (by rfl) O26.o' (if kc=k+1 then some ⟨kb,0,none⟩else some ⟨kb,k+1,none⟩) (l.length-(k+1)) (kc-(k+1)) (bB (l.drop (k+1))) (by rfl) L2.o' aaN (ajP (qY HKA.o' TH.o') (k+1) kc hk1) (jl _) b4 b5 TH.o'.size ?_
      intro v33 w33 vX J4;have Qv:Hid (az pG w w33):=hd' (gF TH.o' J4 (ji O26.o'));have c33:=iw Qv.o' d6;have f33:=(EO (p:=⟨g,a*7+6,none⟩) Qv.o' ht2).trans f6;obtain⟨a33,ags,rfl,_,_,_,_⟩:=fJ vX;have O33:=hd' vX
      clear vX J4))
 all_goals
  have Nl:=IG (HT.o'.below (Dg Qv.o')) ha (by rw[<-HLL.o'];exact O33.o') ht1 ht2 (λk hk=>(HT.o'.vY k hk).1);obtain⟨⟨cap4,k1,k2,e0⟩,e5,e5'⟩:=xm Nl (n:=n) (by rw[gU];exact hn);have VT:=yc Nl (n:=n) (by rw[gU];exact hn) (-1);have VU:=((RH (F:=Two tb g) Qv.o').set (p:=⟨g,a*7+6,none⟩) (.inl (.inr rfl)) (.slice a33 (k+(l.length-(k+1))) ags)).set (p:=⟨g,n*7+5,none⟩) (.inl (.inr rfl)) (.int .i64 (-1))
  rw[gU]at k1 e0;have agS:=hd' VT;have ag1:=hd' VU;unfold maxLen at k2;clear Nl VT VU;go_wp2_with fail
  all_goals
   go_ret;exact⟨rfl,HF.o'▸agS.o',ag1.o'⟩
theorem abG (T:aB) (tb g:Nat) (w:af) (n:Nat) (hn1:1<=n) (hn:n<T.ai.length) (hp:aJ T n= -1) (h:eH w tb g T) :
 Calls prog 196 #[.pointer (some ⟨tb,0,none⟩),.int .i64 n] w λe w'=>e= .returned (.int .i64 0)/\eH w' tb g (bG T n)/\az (Two tb g) w w':=by
 obtain⟨cap,h1,h2,c0,_,_,_⟩:=h.head;have HI:=hd' (AB T tb g w n h);have his:xF T n=true:=by simp[xF];omega
 rw[his]at HI;have d5:=node5 h hn;rw[hp]at d5;have f5:=(xm h hn).2.2;have HT:=hd' (yc h hn (-1));have HF:Hid (iK T n (fo (-1))=bG T n):=hd' (by rw[bG,iD,hp,aj (by omega)]);have HK:=hd' ((az.refl (Two tb g) w).set (p:=⟨g,n*7+5,none⟩) (.inl (.inr rfl)) (.int .i64 (-1)));unfold maxLen at h2;clear h his;go_enter func196,ntmps196
 go_wp2_with ((go_at_call 40;refine HI.o'.mono ?_;rintro e w1 ⟨rfl,rfl⟩))
 go_ret;exact⟨rfl,HF.o'▸HT.o',HK.o'⟩
theorem ahz (T:aB) (tb g:Nat) (w:af) (n:Int) (hn:xF T n=false) (h:eH w tb g T) :
 Calls prog 196 #[.pointer (some ⟨tb,0,none⟩),.int .i64 n] w λe w'=>e= .returned (.int .i64 47)/\w=w':=by
 have HI:=hd' (AB T tb g w n h);rw[hn]at HI;clear h;go_enter func196,ntmps196
 go_wp2_with ((go_at_call 40;refine HI.o'.mono ?_;rintro e w1 ⟨rfl,rfl⟩))
 go_ret;exact⟨rfl,rfl⟩
theorem Uj (T:aB) (tb g:Nat) (w:af) (n:Nat) (hn1:1<=n) (hn:n<T.ai.length) (hw:WF T) (hlen:T.ai.length<=2097152) (h:eH w tb g T) :
 Calls prog 196 #[.pointer (some ⟨tb,0,none⟩),.int .i64 n] w λe w'=>e= .returned (.int .i64 0)/\eH w' tb g (bG T n)/\az (Two tb g) w w':=by
 have Ox:=hw.par n hn;by_cases hp:0<=aJ T n
 ·obtain⟨a,ha⟩:=bQ hp;have ha':a<T.ai.length:=by omega
  have hm:=hw.mem n hn hp;rw[ha]at hm;obtain⟨k,k1,k2,k3,_⟩:=xI (aG T a) n 0 hm;have hk:=rQ hw a ha';have hnd:=hw.nodup a ha'
  have hpl:eT T a n=k:=by
   rw[eT,aj (by omega),show(0:Int)=((0:Nat):Int)from rfl,k2];simp
  rw[lS T a ha']at k1 k3 hk hnd;obtain⟨aa,ac,ka,kc,_,_,_,hk1,hk2,hk3,_,za,hc,hf⟩:=h.node ha';rcases hk3 with⟨rfl,rfl⟩|⟨kb,rfl⟩
  ·omega
  ·exact ad7 T tb g w n a k hn1 hn ha' ha _ rfl k1 (by omega) hpl (Ji _ _ k hnd k3).symm h aa ac kb kc hk1 hk2 za hc hf
 ·exact abG T tb g w n hn1 hn (by omega) h
theorem NY (T:aB) (tb g:Nat) (w:af) (n:Int) (hw:WF T) (hlen:T.ai.length<=2097152) (h:eH w tb g T) :
 Calls prog 196 #[.pointer (some ⟨tb,0,none⟩),.int .i64 n] w λe w'=>e= .returned (.int .i64 (O5 T n).2)/\eH w' tb g (O5 T n).1/\az (Two tb g) w w':=by
 cases hi:xF T n
 ·have he:O5 T n=(T,47):=by rw[O5,hi];rfl
  rw[he]
  exact(ahz T tb g w n hi h).mono λe w' ⟨h1,h2⟩=>by
   subst h2;exact⟨h1,h,az.refl _ _⟩
 ·have he:O5 T n=(bG T n,0):=by rw[O5,hi];rfl
  have hb:=Cn hi;obtain⟨i,rfl⟩:=bQ (by omega:0<=n);rw[he];exact Uj T tb g w i (by omega) (by omega) hw hlen h
theorem VK: ∀(l:List Int) (x z:Int),0<=xJ l x z->x∈l
 | [],_,_,h=>by simp[xJ]at h
 |y::r,x,z,h=>by
  unfold xJ at h;split at h
  ·rename_i e;rw[e];exact dR
  ·exact gm _ (VK r x _ h)
theorem EL (T:aB) (a b:Int) (h:0<=eT T a b): ∃k:Nat,eT T a b=k/\k<=(aG T a).length:=by
 obtain⟨k,hk⟩:=bQ h;refine⟨k,hk,?_⟩
 have:eT T a b<=(aG T a).length:=by
  unfold eT;split
  ·exact vQ _
  ·have:=aaO (aG T a) b 0 (by omega);omega
 omega
theorem Yj (T:aB) (a b:Int):0<=eT T a b↔b=0\/b∈aG T a:=by
 unfold eT;split
 ·rename_i e;simp[e]
 ·rename_i e;constructor
  ·exact λh=> .inr (VK _ _ _ h)
  ·rintro(h|h)
   ·exact absurd h e
   ·obtain⟨k,_,h2,_⟩:=xI (aG T a) b 0 h;rw[show(0:Int)=((0:Nat):Int)from rfl,h2];omega
theorem Yi {T:aB} (hw:WF T) {n a:Nat} {b:Int} (hn:n<T.ai.length) (ha:a<T.ai.length) (hb:b≠n) (h:0<=eT T a b):0<=eT (bG T n) a b:=by
 rw[Yj]at h |-;rcases h with h|h
 ·exact .inl h
 ·right;rw[Ak hw hn a ha];split
  ·simp only[qE,jJ];exact⟨h,hb⟩
  ·exact h
noncomputable def fe (T:aB) (a b n:Int):aB×Int:=if nu T a b n then(kr T a b n,0)else(T,47)
theorem akk (T:aB) (tb g:Nat) (w:af) (a b n:Int) (hw:WF T) (h:eH w tb g T) (hno:nu T a b n=false) :
 Calls prog 147 #[.pointer (some ⟨tb,0,none⟩),.int .i64 a,.int .i64 b,.int .i64 n] w λe w'=>e= .returned (.int .i64 47)/\w=w':=by
 have H1:=hd' (nD T tb g w a h);cases h1:dw T a
 ·rw[h1]at H1;clear h hno;go_enter Ij,Ib
  go_wp2_with (first|(go_at_call 191;refine H1.o'.mono ?_;rintro e w1 ⟨rfl,rfl⟩)|(go_at_call 195;refine H5.o'.mono ?_;rintro e w1 ⟨rfl,rfl⟩))
  go_ret;exact⟨rfl,rfl⟩
 have H2:=hd' (AB T tb g w n h);rw[h1]at H1;cases h2:xF T n
 ·rw[h2]at H2;clear h hno;go_enter Ij,Ib
  go_wp2_with (first|(go_at_call 191;refine H1.o'.mono ?_;rintro e w1 ⟨rfl,rfl⟩)|(go_at_call 40;refine H2.o'.mono ?_;rintro e w1 ⟨rfl,rfl⟩)|(go_at_call 195;refine H5.o'.mono ?_;rintro e w1 ⟨rfl,rfl⟩))
  go_ret;exact⟨rfl,rfl⟩
 rw[h2]at H2;cases h3:(b==n)
 rotate_left
 ·clear h hno;go_enter Ij,Ib
  go_wp2_with (first|(go_at_call 191;refine H1.o'.mono ?_;rintro e w1 ⟨rfl,rfl⟩)|(go_at_call 40;refine H2.o'.mono ?_;rintro e w1 ⟨rfl,rfl⟩)|(go_at_call 195;refine H5.o'.mono ?_;rintro e w1 ⟨rfl,rfl⟩))
  go_ret;exact⟨rfl,rfl⟩
 have ha:=jU hw.pos h1;obtain⟨a,rfl⟩:=bQ ha.1;have H4:=hd' (qw T tb g w a b (by omega) h);cases h4:decide (eT T a b<0)
 rotate_left
 ·clear h hno;go_enter Ij,Ib
  go_wp2_with (first|(go_at_call 191;refine H1.o'.mono ?_;rintro e w1 ⟨rfl,rfl⟩)|(go_at_call 40;refine H2.o'.mono ?_;rintro e w1 ⟨rfl,rfl⟩)|(go_at_call 192;refine H4.o'.mono ?_;rintro e w1 ⟨rfl,rfl⟩))
  go_ret;exact⟨rfl,rfl⟩
 have H5:=hd' (Dy T tb g w a n (by omega) hw h);cases h5:gM T a n
 ·exfalso
  have:nu T a b n=true:=by
   simp only[nu,cz,h1,h2,h5,QZ,mX,BD,and_true,bne,h3];have:=of_decide_eq_false h4;omega
  rw[this]at hno;cases hno
 ·rw[h5]at H5;clear h hno;go_enter Ij,Ib
  go_wp2_with (first|(go_at_call 191;refine H1.o'.mono ?_;rintro e w1 ⟨rfl,rfl⟩)|(go_at_call 40;refine H2.o'.mono ?_;rintro e w1 ⟨rfl,rfl⟩)|(go_at_call 192;refine H4.o'.mono ?_;rintro e w1 ⟨rfl,rfl⟩)|(go_at_call 195;refine H5.o'.mono ?_;rintro e w1 ⟨rfl,rfl⟩))
  go_ret;exact⟨rfl,rfl⟩
theorem ahR (T:aB) (tb g:Nat) (w:af) (a b n:Int) (hw:WF T) (hlen:T.ai.length<=2097152) (h:eH w tb g T) (hok:nu T a b n=true) :
 Calls prog 147 #[.pointer (some ⟨tb,0,none⟩),.int .i64 a,.int .i64 b,.int .i64 n] w λe w'=>e= .returned (.int .i64 0)/\eH w' tb g (kr T a b n)/\az (Two tb g) w w':=by
 have hok':=hok;simp only[nu,cz,Af,mX]at hok';obtain⟨⟨⟨⟨h1,h2⟩,h3⟩,h4⟩,h5⟩:=hok';have h3':(b==n)=false:=by simpa[bne] using h3
 have hbn:b≠n:=by simpa using h3
 have ha:=jU hw.pos h1;have hn:=Cn h2;obtain⟨a,rfl⟩:=bQ ha.1;obtain⟨n,rfl⟩:=bQ (by omega:0<=n);have ha':a<T.ai.length:=by omega
 have hn':n<T.ai.length:=by omega
 have H1:=hd' (nD T tb g w a h);have H2:=hd' (AB T tb g w n h);have H4:=hd' (qw T tb g w a b ha' h);have H5:=hd' (Dy T tb g w a n (by omega) hw h);rw[h1]at H1;rw[h2]at H2;rw[h5]at H5;have H6:=hd' (Uj T tb g w n (by omega) hn' hw hlen h);have hk:=rQ (LM hw hn' (by omega)) a (by rw[gL];exact ha');rw[gL]at hk;obtain⟨j,hj,hjk⟩:=EL (bG T n) a b (Yi hw hn' ha' hbn h4);have HF:Hid (eF (bG T n) a j n=kr T a b n):=hd' (by rw[kr,hj];rfl);have HJ:=hd' hj;have h4': ¬(eT T a b<0):=by omega
 clear h hok h3 h4 hbn;go_enter Ij,Ib
 go_wp2_with (first|(go_at_call 191;refine H1.o'.mono ?_;rintro e w1 ⟨rfl,rfl⟩)|(go_at_call 40;refine H2.o'.mono ?_;rintro e w1 ⟨rfl,rfl⟩)|(go_at_call 192;refine H4.o'.mono ?_;rintro e w1 ⟨rfl,rfl⟩)|(go_at_call 195;refine H5.o'.mono ?_;rintro e w1 ⟨rfl,rfl⟩))
 refine H6.o'.mono ?_;rintro e w2 ⟨rfl,WZ,hK2⟩;have HT2:=hd' WZ;have uP:=hd' hK2;have H7:=hd' (qw (bG T n) tb g w2 a b (by rw[gL];exact ha') WZ);rw[HJ.o']at H7;have H8:=hd' (EZ (bG T n) tb g w2 a j n (by rw[gL];exact ha') (by rw[gL];exact hn') hjk (by omega) WZ);rw[HF.o']at H8;clear WZ hK2 H4 HJ;go_wp2_with ((go_at_call 192;refine H7.o'.mono ?_;rintro e w1 ⟨rfl,rfl⟩))
 refine H8.o'.mono ?_;rintro e w3 ⟨rfl,hT3,hK3⟩;have HT3:=hd' hT3;have Qx:=hd' (uP.o'.trans hK3);clear hT3 hK3;go_wp2_with fail
 go_ret;exact⟨rfl,HT3.o',Qx.o'⟩
theorem ai2 (T:aB) (tb g:Nat) (w:af) (a b n:Int) (hw:WF T) (hlen:T.ai.length<=2097152) (h:eH w tb g T) :
 Calls prog 147 #[.pointer (some ⟨tb,0,none⟩),.int .i64 a,.int .i64 b,.int .i64 n] w λe w'=>e= .returned (.int .i64 (fe T a b n).2)/\eH w' tb g (fe T a b n).1/\az (Two tb g) w w':=by
 cases hok:nu T a b n
 ·have he:fe T a b n=(T,47):=by rw[fe,hok];rfl
  rw[he]
  exact(akk T tb g w a b n hw h hok).mono λe w' ⟨h1,h2⟩=>by
   subst h2;exact⟨h1,h,az.refl _ _⟩
 ·have he:fe T a b n=(kr T a b n,0):=by rw[fe,hok];rfl
  rw[he];exact ahR T tb g w a b n hw hlen h hok
theorem aaj {T:aB} (hw:WF T) (a b n:Int):WF (fe T a b n).1/\(fe T a b n).1.ai.length=T.ai.length/\(fe T a b n).1.gy=T.gy:=by
 cases hok:nu T a b n
 ·have he:fe T a b n=(T,47):=by rw[fe,hok];rfl
  rw[he];exact⟨hw,rfl,rfl⟩
 ·have he:fe T a b n=(kr T a b n,0):=by rw[fe,hok];rfl
  rw[he];exact⟨aah hw hok,qa _ _ _ _,IQ _ _ _ _⟩
end Go.Proofs.YtnlbcifhedjbfaaGreatDoor
end
