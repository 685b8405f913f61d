/- oZ joined for a claim: aqI, aqF, RfD, avR: plain laws and contracts. No conditions beyond those that each lemma types. -/
import Derived.Test.YtnlbcifhedjbfaaGreatDoorU02
import Derived.Test.YtnlbcifhedjbfaaGreatDoorU01
import Derived.Lib.BufferMore
import Derived.Deep.RegionLaw
import Derived.StillTactics
import Derived.StillTail
import Derived.StillTailTactics
set_option linter.unusedVariables false
set_option linter.unusedSimpArgs false
set_option maxRecDepth 100000
set_option maxHeartbeats 8000000
open Go.Proofs.Tryz
section
namespace Go.Proofs.YtnlbcifhedjbfaaGreatDoor
open Go.RowKit Mem
def oU (T:aB) (a:Int) (i:Nat):Int:=((aG T a)[i-1]?).getD 0
def vR (T:aB) (a b:Int) (s:ae):aB×Int :=
 if 0<(eT T a b).toNat/\aY T (oU T a (eT T a b).toNat)=false then(iK T (oU T a (eT T a b).toNat) (iQ s),0)
 else if(T.ai.length:Int)-1<T.gy then(eF (bL T (pW s)) a (eT T a b).toNat T.ai.length,0)else(T,43)
def iG (T:aB) (a b:Int) (s:ae):aB×Int :=
 if dw T a&&decide (0<=eT T a b)then(if s.size=0 then(T,0)else vR T a b s)else(T,47)
theorem PZ {tb g g':Nat} {w w1 w2:af} (h1:az (Two tb g) w w1) (h2:az (Two tb g') w1 w2) (hg:g'=g\/w.heap.size<=g'):az (Two tb g) w w2 :=
 ⟨h2.os.trans h1.os,h2.tape.trans h1.tape,h2.output.trans h1.output,bY h1.size h2.size,λk hk hF=>(h2.block k (fA hk h1.size) (by
  rintro(h|h)
  ·exact hF (.inl h)
  ·rcases hg with rfl|hg
   ·exact hF (.inr h)
   ·omega)).trans (h1.block k hk hF)⟩
theorem ahy (T:aB) (tb g:Nat) (w:af) (a b:Int) (s:ae) (hp:0<T.ai.length) (h:eH w tb g T) (hno:(dw T a&&decide (0<=eT T a b))=false) :
 Calls prog 145 #[.pointer (some ⟨tb,0,none⟩),.int .i64 a,.int .i64 b,.string s] w λe w'=>e= .returned (.int .i64 47)/\w=w':=by
 have H1:=hd' (nD T tb g w a h);cases h1:dw T a
 ·rw[h1]at H1;clear h hno;go_enter BK,BH
  go_wp2_with ((go_at_call 191;refine H1.o'.mono ?_;rintro e w1 ⟨rfl,rfl⟩))
  go_ret;exact⟨rfl,rfl⟩
 have ha:=jU hp h1;obtain⟨a,rfl⟩:=bQ ha.1;have H4:=hd' (qw T tb g w a b (by omega) h);rw[h1]at H1 hno;have h4:eT T a b<0:=by simpa using hno
 clear h hno;go_enter BK,BH
 go_wp2_with (first|(go_at_call 191;refine H1.o'.mono ?_;rintro e w1 ⟨rfl,rfl⟩)|(go_at_call 192;refine H4.o'.mono ?_;rintro e w1 ⟨rfl,rfl⟩))
 go_ret;exact⟨rfl,rfl⟩
theorem XC (T:aB) (tb g:Nat) (w:af) (a:Nat) (b:Int) (s:ae) (ha:a<T.ai.length) (h:eH w tb g T) (h1:dw T a=true) (h4:0<=eT T a b) (hs:s.size=0) :
 Calls prog 145 #[.pointer (some ⟨tb,0,none⟩),.int .i64 a,.int .i64 b,.string s] w λe w'=>e= .returned (.int .i64 0)/\w=w':=by
 have H1:=hd' (nD T tb g w a h);have H4:=hd' (qw T tb g w a b ha h);rw[h1]at H1;have h4': ¬(eT T a b<0):=by omega
 obtain rfl:s=⟨#[]⟩:=ByteArray.ext (Array.eq_empty_of_size_eq_zero hs);clear h h4;go_enter BK,BH
 go_wp2_with (first|(go_at_call 191;refine H1.o'.mono ?_;rintro e w1 ⟨rfl,rfl⟩)|(go_at_call 192;refine H4.o'.mono ?_;rintro e w1 ⟨rfl,rfl⟩))
 go_ret;exact⟨rfl,rfl⟩
theorem xu {s:ae} (hs:s.size≠0):(s.toList== [])=false:=by
 rw[aV];intro e;have:=aR s;rw[e]at this;exact hs (by simpa using this.symm)
theorem Uh (T:aB) (tb g:Nat) (w:af) (a j k:Nat) (b:Int) (s:ae) (ha:a<T.ai.length) (hk1:k<T.ai.length) (h:eH w tb g T) (h1:dw T a=true) (h4:eT T a b=(j:Int)+1) (hs:s.size≠0)
 (l:List Int) (hl:l=T.ai[a].aP) (hj:j<l.length) (hlk:l[j]=k) (hkl:l.length<=2097152) (hel:T.ai[k].elem=false) (hts:T.ai[k].aL.size+s.size<=9223372036854775807) :
 Calls prog 145 #[.pointer (some ⟨tb,0,none⟩),.int .i64 a,.int .i64 b,.string s] w λe w'=>e= .returned (.int .i64 0)/\eH w' tb g (iK T k (iQ s))/\az (Two tb g) w w':=by
 have H1:=hd' (nD T tb g w a h);have H4:=hd' (qw T tb g w a b ha h);rw[h1]at H1;rw[h4]at H4;have h4': ¬((j:Int)+1<0):=by omega
 have aiz:(0:Int)<(j:Int)+1:=by omega
 have hw1:IntKind.i64.wrap ((j:Int)+1-1)=(j:Int):=by rw[qG];omega
 have hw2:IntKind.i64.wrap (j:Int)=(j:Int):=by rw[qG];omega
 have hs':=xu hs;obtain⟨cap,p1,p2,c0,_,_,_⟩:=h.head;obtain⟨aa,ac,ka,kc,_,_,_,hk4,hk5,_,_,za,hc,_⟩:=h.node ha;have d6:=hc 6 _ rfl;rw[<-hl]at d6 za hk4;obtain⟨kb,ko,rfl,e1⟩:=za.at _ _ (fw l j hj);rw[hlk]at e1;obtain⟨aa',ac',ka',kc',_,_,_,_,_,_,_,_,hc',hf'⟩:=h.node hk1;have d0:=hc' 0 _ rfl;have d4:=hc' 4 _ rfl;rw[pM]at d0;rw[hel]at d0;have f4:=hf' (k*7+4);have HT:=hd' (aby h hk1 s);have HK:=hd' ((az.refl (Two tb g) w).set (p:=⟨g,k*7+4,none⟩) (.inl (.inr rfl)) (.string (T.ai[k].aL++s)));unfold maxLen at p2 hk5;have auJ: ¬(9223372036854775807<T.ai[k].aL.size+s.size):=by omega
 clear h h4 hs hc hc' hf' za hl hlk;go_enter BK,BH
 go_wp2_with (first|(go_at_call 191;refine H1.o'.mono ?_;rintro e w1 ⟨rfl,rfl⟩)|(go_at_call 192;refine H4.o'.mono ?_;rintro e w1 ⟨rfl,rfl⟩))
 go_ret;exact⟨rfl,HT.o',HK.o'⟩
theorem abD (T:aB) (tb g:Nat) (w:af) (a i:Nat) (b:Int) (s:ae) (ha:a<T.ai.length) (hn:T.ai.length<=1048576) (h:eH w tb g T) (h1:dw T a=true) (h4:eT T a b=i) (hs:s.size≠0)
 (vE:0<i-> ∃(l:List Int) (k:Nat) (hk:k<T.ai.length) (hj:i-1<l.length),l=T.ai[a].aP/\l[i-1]=k/\l.length<=2097152/\T.ai[k].elem=true)
 (hm: ¬((T.ai.length:Int)-1<T.gy)) :
 Calls prog 145 #[.pointer (some ⟨tb,0,none⟩),.int .i64 a,.int .i64 b,.string s] w λe w'=>e= .returned (.int .i64 43)/\ ∃g',eH w' tb g' T/\az (Two tb g) w w'/\(g'=g\/w.heap.size<=g'):=by
 have he:qz T ⟨false,0,⟨#[]⟩,[],s, -1,[]⟩=(T,0,43):=by rw[qz,aj hm]
 have H1:=hd' (nD T tb g w a h);have H4:=hd' (qw T tb g w a b ha h);rw[h1]at H1;have hs':=xu hs;have HM:=hd' (M4 T tb g w false 0 0 ⟨#[]⟩ s [] 0 none 0 rfl (λ_=>rfl) (by decide) hn h (At.nil _ _));rw[he]at HM;rw[h4]at H4;have HT:=hd' h;cases i with
 |zero =>
  have h4': ¬(((0:Nat):Int)<0):=by omega
  have aiz: ¬((0:Int)<((0:Nat):Int)):=by omega
  clear h h4 vE;go_enter BK,BH
  go_wp2_with (first|(go_at_call 191;refine H1.o'.mono ?_;rintro e w1 ⟨rfl,rfl⟩)|(go_at_call 192;refine H4.o'.mono ?_;rintro e w1 ⟨rfl,rfl⟩))
  refine HM.o'.mono ?_;rintro e w2 ⟨g',hK2,hg2,rfl,WZ⟩;have uP:=hd' hK2;have HT2:=hd' WZ;clear hK2 WZ;go_wp2_with fail
  go_ret;exact⟨rfl,g',HT2.o',uP.o',hg2⟩
 |succ j =>
  obtain⟨l,k,hk1,hj,hl,hlk,hkl,hel⟩:=vE (KY _);simp only[Nat.add_sub_cancel]at hj hlk;rw[show((j+1:Nat):Int)=(j:Int)+1 from by omega]at H4;have h4': ¬((j:Int)+1<0):=by omega
  have aiz:(0:Int)<(j:Int)+1:=by omega
  have hw1:IntKind.i64.wrap ((j:Int)+1-1)=(j:Int):=by rw[qG];omega
  have hw2:IntKind.i64.wrap (j:Int)=(j:Int):=by rw[qG];omega
  obtain⟨cap,p1,p2,c0,_,_,_⟩:=h.head;obtain⟨aa,ac,ka,kc,_,_,_,hk4,hk5,_,_,za,hc,_⟩:=h.node ha;have d6:=hc 6 _ rfl;rw[<-hl]at d6 za hk4;obtain⟨kb,ko,rfl,e1⟩:=za.at _ _ (fw l j hj);rw[hlk]at e1;obtain⟨aa',ac',ka',kc',_,_,_,_,_,_,_,_,hc',hf'⟩:=h.node hk1;have d0:=hc' 0 _ rfl;rw[pM]at d0;rw[hel]at d0;unfold maxLen at p2 hk5;clear h h4 hs hc hc' hf' za hl hlk vE;go_enter BK,BH
  go_wp2_with (first|(go_at_call 191;refine H1.o'.mono ?_;rintro e w1 ⟨rfl,rfl⟩)|(go_at_call 192;refine H4.o'.mono ?_;rintro e w1 ⟨rfl,rfl⟩))
  refine HM.o'.mono ?_;rintro e w2 ⟨g',hK2,hg2,rfl,WZ⟩;have uP:=hd' hK2;have HT2:=hd' WZ;clear hK2 WZ;go_wp2_with fail
  go_ret;exact⟨rfl,g',HT2.o',uP.o',hg2⟩
theorem ad2 (T:aB) (tb g:Nat) (w:af) (a i:Nat) (b:Int) (s:ae) (ha:a<T.ai.length) (hn:T.ai.length<=1048576) (h:eH w tb g T) (h1:dw T a=true) (h4:eT T a b=i) (hs:s.size≠0)
 (vE:0<i-> ∃(l:List Int) (k:Nat) (hk:k<T.ai.length) (hj:i-1<l.length),l=T.ai[a].aP/\l[i-1]=k/\l.length<=2097152/\T.ai[k].elem=true)
 (hik:i<=(aG T a).length) (amV:(aG T a).length<=2097152) (hm:(T.ai.length:Int)-1<T.gy) :
 Calls prog 145 #[.pointer (some ⟨tb,0,none⟩),.int .i64 a,.int .i64 b,.string s] w λe w'=>e= .returned (.int .i64 0)/\ ∃g',eH w' tb g' (eF (bL T (pW s)) a i T.ai.length)/\az (Two tb g) w w'/\(g'=g\/w.heap.size<=g'):=by
 have he:qz T ⟨false,0,⟨#[]⟩,[],s, -1,[]⟩=(bL T (pW s),(T.ai.length:Int),0):=by rw[qz,au hm];rfl
 have hal:(bL T (pW s)).ai.length=T.ai.length+1:=by simp[bL]
 have H1:=hd' (nD T tb g w a h);have H4:=hd' (qw T tb g w a b ha h);rw[h1]at H1;have hs':=xu hs;have HM:=hd' (M4 T tb g w false 0 0 ⟨#[]⟩ s [] 0 none 0 rfl (λ_=>rfl) (by decide) hn h (At.nil _ _));rw[he]at HM;rw[h4]at H4;have HT:=hd' h;cases i with
 |zero =>
  have h4': ¬(((0:Nat):Int)<0):=by omega
  have aiz: ¬((0:Int)<((0:Nat):Int)):=by omega
  clear h h4 vE;go_enter BK,BH
  go_wp2_with (first|(go_at_call 191;refine H1.o'.mono ?_;rintro e w1 ⟨rfl,rfl⟩)|(go_at_call 192;refine H4.o'.mono ?_;rintro e w1 ⟨rfl,rfl⟩))
  refine HM.o'.mono ?_;rintro e w2 ⟨g',hK2,hg2,rfl,WZ⟩;have uP:=hd' hK2;have H8:=hd' (EZ (bL T (pW s)) tb g' w2 a _ T.ai.length (by rw[hal];omega) (by rw[hal];omega) (by rw[wU T _ a ha];exact hik) (by rw[wU T _ a ha];exact amV) WZ);clear hK2 WZ;go_wp2_with fail
  refine H8.o'.mono ?_;rintro e w3 ⟨rfl,hT3,hK3⟩;have HT3:=hd' hT3;have Qx:=hd' (PZ uP.o' hK3 hg2);clear hT3 hK3;go_wp2_with fail
  go_ret;exact⟨rfl,g',HT3.o',Qx.o',hg2⟩
 |succ j =>
  obtain⟨l,k,hk1,hj,hl,hlk,hkl,hel⟩:=vE (KY _);simp only[Nat.add_sub_cancel]at hj hlk;rw[show((j+1:Nat):Int)=(j:Int)+1 from by omega]at H4;have h4': ¬((j:Int)+1<0):=by omega
  have aiz:(0:Int)<(j:Int)+1:=by omega
  have hw1:IntKind.i64.wrap ((j:Int)+1-1)=(j:Int):=by rw[qG];omega
  have hw2:IntKind.i64.wrap (j:Int)=(j:Int):=by rw[qG];omega
  obtain⟨cap,p1,p2,c0,_,_,_⟩:=h.head;obtain⟨aa,ac,ka,kc,_,_,_,hk4,hk5,_,_,za,hc,_⟩:=h.node ha;have d6:=hc 6 _ rfl;rw[<-hl]at d6 za hk4;obtain⟨kb,ko,rfl,e1⟩:=za.at _ _ (fw l j hj);rw[hlk]at e1;obtain⟨aa',ac',ka',kc',_,_,_,_,_,_,_,_,hc',hf'⟩:=h.node hk1;have d0:=hc' 0 _ rfl;rw[pM]at d0;rw[hel]at d0;unfold maxLen at p2 hk5;clear h h4 hs hc hc' hf' za hl hlk vE;go_enter BK,BH
  go_wp2_with (first|(go_at_call 191;refine H1.o'.mono ?_;rintro e w1 ⟨rfl,rfl⟩)|(go_at_call 192;refine H4.o'.mono ?_;rintro e w1 ⟨rfl,rfl⟩))
  refine HM.o'.mono ?_;rintro e w2 ⟨g',hK2,hg2,rfl,WZ⟩;have uP:=hd' hK2;have H8:=hd' (EZ (bL T (pW s)) tb g' w2 a _ T.ai.length (by rw[hal];omega) (by rw[hal];omega) (by rw[wU T _ a ha];exact hik) (by rw[wU T _ a ha];exact amV) WZ);clear hK2 WZ;rw[show((j+1:Nat):Int)=(j:Int)+1 from by omega]at H8;go_wp2_with fail
  refine H8.o'.mono ?_;rintro e w3 ⟨rfl,hT3,hK3⟩;have HT3:=hd' hT3;have Qx:=hd' (PZ uP.o' hK3 hg2);clear hT3 hK3;go_wp2_with fail
  go_ret;exact⟨rfl,g',HT3.o',Qx.o',hg2⟩
theorem Dv {T:aB} {n:Int} (h:aY T n=true): ∃k:Nat,∃h:k<T.ai.length,n=k/\1<=k/\T.ai[k].elem=true:=by
 have hi:=Cn (T:=T) (a:=n) (by unfold aY at h;exact(Q3.1 h).1);obtain⟨k,rfl⟩:=bQ (by omega:0<=n);have hk:k<T.ai.length:=by omega
 exact⟨k,hk,rfl,by omega,by rw[<-xO T k (by omega) hk];exact h⟩
theorem Mr {T:aB} (hw:WF T) {a i:Nat} (ha:a<T.ai.length) (hi:0<i) (hik:i<=(aG T a).length) :
 ∃(k:Nat) (hk:k<T.ai.length) (hj:i-1<T.ai[a].aP.length),T.ai[a].aP[i-1]=k/\oU T a i=k/\aY T k=T.ai[k].elem/\1<=k:=by
 have hj:i-1<(aG T a).length:=by omega
 have hm:=hw.kid a ha _ (kH hj);obtain⟨k,hk⟩:=bQ (by omega:0<=(aG T a)[i-1]);have hkl:k<T.ai.length:=by omega
 have hk1:1<=k:=by omega
 have hkk:=lS T a ha;have hj':i-1<T.ai[a].aP.length:=by rw[<-hkk];exact hj
 refine⟨k,hkl,hj',?_,?_,xO T k hk1 hkl,hk1⟩
 ·rw[<-hk];simp only[hkk]
 ·simp[oU,hj,hk]
theorem agF (T:aB) (tb g:Nat) (w:af) (a b:Int) (s:ae) (hw:WF T) (hn:T.ai.length<=1048576) (hts: ∀i (h:i<T.ai.length),T.ai[i].aL.size+s.size<=9223372036854775807) (h:eH w tb g T) :
 Calls prog 145 #[.pointer (some ⟨tb,0,none⟩),.int .i64 a,.int .i64 b,.string s] w λe w'=>e= .returned (.int .i64 (iG T a b s).2)/\ ∃g',eH w' tb g' (iG T a b s).1/\az (Two tb g) w w'/\(g'=g\/w.heap.size<=g'):=by
 cases hok:(dw T a&&decide (0<=eT T a b))
 ·have he:iG T a b s=(T,47):=by rw[iG,hok];rfl
  rw[he]
  exact(ahy T tb g w a b s hw.pos h hok).mono λe w' ⟨h1,h2⟩=>by
   subst h2;exact⟨h1,g,h,az.refl _ _,.inl rfl⟩
 ·have he:iG T a b s=if s.size=0 then(T,0)else vR T a b s:=by rw[iG,hok];rfl
  rw[he];obtain⟨h1,h4⟩:=Q3.1 hok;have h4:=zX h4;have ha:=jU hw.pos h1;obtain⟨a,rfl⟩:=bQ ha.1;have ha':a<T.ai.length:=by omega
  by_cases hs:s.size=0
  ·rw[au hs]
   exact(XC T tb g w a b s ha' h h1 h4 hs).mono λe w' ⟨h1,h2⟩=>by
    subst h2;exact⟨h1,g,h,az.refl _ _,.inl rfl⟩
  ·rw[aj hs];obtain⟨i,hi,hik⟩:=EL T a b h4;have hks:=rQ hw a ha';have hkk:=lS T a ha';have hin:(eT T a b).toNat=i:=by rw[hi];rfl
   rw[vR,hin];by_cases hp:0<i/\aY T (oU T a i)=false
   ·rw[au hp];obtain⟨k,hk,hj,e1,e2,e3,_⟩:=Mr hw ha' hp.1 hik;rw[e2]at hp |-;obtain⟨j,rfl⟩: ∃j,i=j+1:=⟨i-1,by omega⟩;exact(Uh T tb g w a j k b s ha' hk h h1 (by rw[hi];omega) hs _ rfl (by simpa using hj) (by simpa using e1) (by rw[<-hkk];omega) (by rw[<-e3];exact hp.2) (hts k hk)).mono λe w' ⟨h1,h2,h3⟩=>⟨h1,g,h2,h3,.inl rfl⟩
   ·rw[aj hp]
    have vE:0<i-> ∃(l:List Int) (k:Nat) (hk:k<T.ai.length) (hj:i-1<l.length),l=T.ai[a].aP/\l[i-1]=k/\l.length<=2097152/\T.ai[k].elem=true:=by
     intro h0;obtain⟨k,hk,hj,e1,e2,e3,_⟩:=Mr hw ha' h0 hik;refine⟨_,k,hk,hj,rfl,e1,by rw[<-hkk];omega,?_⟩;rw[<-e3,<-e2];cases hh:aY T (oU T a i)
     ·exact absurd ⟨h0,hh⟩ hp
     ·rfl
    by_cases hm:(T.ai.length:Int)-1<T.gy
    ·rw[au hm];exact ad2 T tb g w a i b s ha' hn h h1 hi hs vE hik (by omega) hm
    ·rw[aj hm];exact abD T tb g w a i b s ha' hn h h1 hi hs vE hm
theorem Ov {T:aB} (hw:WF T) (d:ND) (hp:d.parent= -1) (hk:d.aP= []) {a i:Nat} (ha:a<T.ai.length) (hH:dw T a=true):WF (eF (bL T d) a i T.ai.length):=by
 have hl:(bL T d).ai.length=T.ai.length+1:=by simp[bL]
 have hpos:=hw.pos;refine E8 (Bd hw d hp hk) (by omega) (by omega) (by omega) (by rw[Be T d a ha];exact hH) (by simp[bL,aJ,hp]) λhr=> ?_
 have key: ∀m:Int,Reach (bL T d) (T.ai.length:Int) m->m<T.ai.length->False:=by
  intro m hm
  induction hm with
  |here=>intro h;omega
  | @up m h0 _ ih =>
    intro hlt;obtain⟨k,rfl⟩:=bQ (by omega:0<=m);refine ih ?_;rw[yw T d k (by omega)];exact(hw.par k (by omega)).2
 exact key a hr (by omega)
theorem ad5 {T:aB} (hw:WF T) (a b:Int) (s:ae):WF (iG T a b s).1/\(iG T a b s).1.gy=T.gy:=by
 unfold iG;split
 ·rename_i hok;obtain⟨h1,h4⟩:=Q3.1 hok;have ha:=jU hw.pos h1;obtain⟨a,rfl⟩:=bQ ha.1;have ha':a<T.ai.length:=by omega
  obtain⟨i,hi,hik⟩:=EL T a b (zX h4);have hin:(eT T a b).toNat=i:=by rw[hi];rfl
  split
  ·exact⟨hw,rfl⟩
  ·rw[vR,hin];split
   ·rename_i hp;obtain⟨k,hk,hj,e1,e2,e3,_⟩:=Mr hw ha' hp.1 hik;rw[e2];exact⟨NW hw k s,rfl⟩
   ·split
    ·exact⟨Ov hw (pW s) rfl rfl ha' h1,rfl⟩
    ·exact⟨hw,rfl⟩
 ·exact⟨hw,rfl⟩
structure TI (w0:af) (B tb:Nat) (T:aB) (g:Nat) (w:af):Prop where
 tree:eH w tb g T
 wf:WF T
 below:Below w0.heap.size w0 w
 htb:w0.heap.size<=tb
 hg:w0.heap.size<=g
 len:T.ai.length<=1000000
 gy:T.gy<=5000
 Bz: ∀d∈T.ai,d.aA.length<=1048576
 txt: ∀d∈T.ai,d.aL.size<=B
theorem abv {w0 w w':af} {tb g:Nat} (hb:Below w0.heap.size w0 w) (htb:w0.heap.size<=tb) (hg:w0.heap.size<=g) (hk:az (Two tb g) w w'):Below w0.heap.size w0 w' :=
 hb.trans (hk.below (λk hk=>by rintro(h|h) <;>omega) hb.size)
theorem TI.step {w0 w w':af} {B B' tb g g':Nat} {T T':aB} (h:TI w0 B tb T g w) (hk:az (Two tb g) w w') (hT:eH w' tb g' T') (hg:g'=g\/w.heap.size<=g') (hw:WF T') (hl:T'.ai.length<=1000000) (hm:T'.gy=T.gy)
 (ha: ∀d∈T'.ai,d.aA.length<=1048576) (ht: ∀d∈T'.ai,d.aL.size<=B'):TI w0 B' tb T' g' w' where
 tree:=hT
 wf:=hw
 below:=abv h.below h.htb h.hg hk
 htb:=h.htb
 hg:=by
  have:=h.below.size;have:=h.hg;rcases hg with rfl|hg <;>omega
 len:=hl
 gy:=by rw[hm];exact h.gy
 Bz:=ha
 txt:=ht
theorem TI.world {w0 w w':af} {B tb g:Nat} {T:aB} (h:TI w0 B tb T g w) (hb:Below w.heap.size w w'):TI w0 B tb T g w' :=
 h.step (az.bC hb) (h.tree.below hb) (.inl rfl) h.wf h.len rfl h.Bz h.txt
theorem TI.Zz {w0 w:af} {B tb g:Nat} {T:aB} (h:TI w0 B tb T g w): ∀i (h:i<T.ai.length),T.ai[i].aA.length<=1048576:=λ_ _=>h.Bz _ (kH _)
theorem Gp {P:ND->Prop} {T:aB} {f:ND->ND} (n:Int) (h: ∀d∈T.ai,P d) (hf: ∀d,P d->P (f d)): ∀d∈(iK T n f).ai,P d:=by
 intro d hd;obtain⟨i,hi,rfl⟩:=pR hd;simp only[iK,Lg]at hi;simp only[iK,List.getElem_modify];split
 ·exact hf _ (h _ (kH _))
 ·exact h _ (kH _)
theorem WQ {P:ND->Prop} {T:aB} {d:ND} (h: ∀d∈T.ai,P d) (hd:P d): ∀x∈(bL T d).ai,P x:=by
 intro x hx;simp only[bL,fB,dG]at hx;rcases hx with hx|rfl
 ·exact h x hx
 ·exact hd
theorem abH {P:ND->Prop} {T:aB} (n:Int) (h: ∀d∈T.ai,P d) (hk: ∀d l,P d->P (iC l d)) (hp: ∀d p,P d->P (fo p d)): ∀d∈(bG T n).ai,P d:=by
 refine Gp _ ?_ λd hd=>hp d _ hd
 unfold iD;split
 ·exact Gp _ h λd hd=>hk d _ hd
 ·exact h
theorem JZ {P:ND->Prop} {T:aB} (a:Int) (i:Nat) (n:Int) (h: ∀d∈T.ai,P d) (hk: ∀d l,P d->P (iC l d)) (hp: ∀d p,P d->P (fo p d)): ∀d∈(eF T a i n).ai,P d :=
 Gp _ (Gp _ h λd hd=>hk d _ hd) λd hd=>hp d _ hd
theorem UQ {P:ND->Prop} {T:aB} (a b n:Int) (h: ∀d∈T.ai,P d) (hk: ∀d l,P d->P (iC l d)) (hp: ∀d p,P d->P (fo p d)): ∀d∈(fe T a b n).1.ai,P d:=by
 unfold fe;split
 ·exact JZ _ _ _ (abH _ h hk hp) hk hp
 ·exact h
theorem O0 {P Q:ND->Prop} {T:aB} (a b:Int) (s:ae) (h: ∀d∈T.ai,P d) (hPQ: ∀d,P d->Q d) (hs: ∀d,P d->Q (iQ s d)) (hn:Q (pW s)) (hk: ∀d l,Q d->Q (iC l d)) (hp: ∀d p,Q d->Q (fo p d)): ∀d∈(iG T a b s).1.ai,Q d:=by
 have hQ: ∀d∈T.ai,Q d:=λd hd=>hPQ d (h d hd)
 unfold iG;split
 ·split
  ·exact hQ
  ·unfold vR;split
   ·intro d hd;obtain⟨i,hi,rfl⟩:=pR hd;simp only[iK,Lg]at hi;simp only[iK,List.getElem_modify];split
    ·exact hs _ (h _ (kH _))
    ·exact hQ _ (kH _)
   ·split
    ·exact JZ _ _ _ (WQ hQ hn) hk hp
    ·exact hQ
 ·exact hQ
theorem ae5 {T:aB} (hw:WF T) (d:ND) (hp:d.parent= -1) (hk:d.aP= []):WF (qz T d).1/\(qz T d).1.gy=T.gy:=by
 unfold qz;split
 ·exact⟨Bd hw d hp hk,rfl⟩
 ·exact⟨hw,rfl⟩
theorem aax {T:aB} (d:ND) (hl:T.ai.length<=1000000) (hm:T.gy<=5000):(qz T d).1.ai.length<=1000000:=by
 unfold qz;split
 ·rename_i h;simp only[bL,fC,sS];omega
 ·exact hl
theorem Kw {P:ND->Prop} {T:aB} {d:ND} (h: ∀d∈T.ai,P d) (hd:P d): ∀x∈(qz T d).1.ai,P x:=by
 unfold qz;split
 ·exact WQ h hd
 ·exact h
theorem abF {T:aB} (a b:Int) (s:ae) (hl:T.ai.length<=1000000) (hm:T.gy<=5000):(iG T a b s).1.ai.length<=1000000:=by
 unfold iG;split
 ·split
  ·exact hl
  ·unfold vR;split
   ·rw[gU];exact hl
   ·split
    ·rename_i h;rw[nN];simp only[bL,fC,sS];omega
    ·exact hl
 ·exact hl
section
variable {w0 w:af} {B tb g:Nat} {T:aB}
theorem ajq (h:TI w0 B tb T g w) (sp:Int) (nm:ae) (l:List dD) (n:Nat) (a:Option Addr) (c:Nat) (hnl:n=l.length) (hc:a=none->c=0) (hlen:l.length<=1048576) (ha:At w a (bz l)) :
 Calls prog 146 #[.pointer (some ⟨tb,0,none⟩),.int .i64 sp,.string nm,.slice a n c] w λe w' =>
  e= .returned (.tuple #[.int .i64 (qz T (fQ sp nm l)).2.1,.int .i64 (qz T (fQ sp nm l)).2.2])/\az (Two tb g) w w'/\ ∃g',TI w0 B tb (qz T (fQ sp nm l)).1 g' w':=by
 refine(WY T tb g w sp nm l n a c hnl hc hlen (by have:=h.len;omega) h.tree ha).mono ?_;rintro e w' ⟨g',hK,hg,he,hT⟩;have hw:=ae5 h.wf (fQ sp nm l) rfl rfl;exact⟨he,hK,g',h.step hK hT hg hw.1 (aax _ h.len h.gy) hw.2 (Kw h.Bz hlen) (Kw h.txt (bD _))⟩
theorem ajb (h:TI w0 B tb T g w) (n:Int) :
 Calls prog 223 #[.pointer (some ⟨tb,0,none⟩),.int .i64 n] w λe w' =>
  e= .returned (.tuple #[.int .i64 (dm T n).2.1,.int .i64 (dm T n).2.2])/\az (Two tb g) w w'/\ ∃g',TI w0 B tb (dm T n).1 g' w':=by
 refine(agN T tb g w n (by have:=h.len;omega) h.Zz h.tree).mono ?_;rintro e w' ⟨g',hK,hg,he,hT⟩;refine⟨he,hK,g',?_⟩;unfold dm at hT |-;split
 ·rename_i hel;rw[au hel]at hT;have hw:=ae5 h.wf (fQ (aX T n) (bq T n) (bW T n)) rfl rfl;exact h.step hK hT hg hw.1 (aax _ h.len h.gy) hw.2 (Kw h.Bz (tZ h.Zz n)) (Kw h.txt (bD _))
 ·rename_i hel;rw[aj hel]at hT;exact h.step hK hT hg h.wf h.len rfl h.Bz h.txt
theorem agH (h:TI w0 B tb T g w) (a b n:Int) :
 Calls prog 147 #[.pointer (some ⟨tb,0,none⟩),.int .i64 a,.int .i64 b,.int .i64 n] w λe w' =>
  e= .returned (.int .i64 (fe T a b n).2)/\az (Two tb g) w w'/\TI w0 B tb (fe T a b n).1 g w':=by
 refine(ai2 T tb g w a b n h.wf (by have:=h.len;omega) h.tree).mono ?_;rintro e w' ⟨he,hT,hK⟩;have hw:=aaj h.wf a b n;exact⟨he,hK,h.step hK hT (.inl rfl) hw.1 (by rw[hw.2.1];exact h.len) hw.2.2 (UQ _ _ _ h.Bz (λ_ _ h=>h) λ_ _ h=>h) (UQ _ _ _ h.txt (λ_ _ h=>h) λ_ _ h=>h)⟩
theorem aiY (h:TI w0 B tb T g w) (a b:Int) (s:ae) {B':Nat} (hB:B+s.size<=B') (hB':B'<=9223372036854775807) :
 Calls prog 145 #[.pointer (some ⟨tb,0,none⟩),.int .i64 a,.int .i64 b,.string s] w λe w' =>
  e= .returned (.int .i64 (iG T a b s).2)/\az (Two tb g) w w'/\ ∃g',TI w0 B' tb (iG T a b s).1 g' w':=by
 refine(agF T tb g w a b s h.wf (by have:=h.len;omega) (λi hi=>by have:=h.txt _ (kH hi);omega) h.tree).mono ?_;rintro e w' ⟨he,g',hT,hK,hg⟩;have hw:=ad5 h.wf a b s
 refine⟨he,hK,g',h.step hK hT hg hw.1 (abF _ _ _ h.len h.gy) hw.2 (O0 (P:=λd=>d.aA.length<=1048576) _ _ _ h.Bz (λ_ h=>h) (λ_ h=>h) (bD _) (λ_ _ h=>h) λ_ _ h=>h)
  (O0 (P:=λd=>d.aL.size<=B) _ _ _ h.txt (λd hd=>by omega) (λd hd=> ?_) ?_ (λ_ _ h=>h) λ_ _ h=>h)⟩
 ·show(d.aL++s).size<=B';rw[xk];omega
 ·show s.size<=B';omega
end
noncomputable def moveF (T:aB) (b:Int) (l:List Int):aB:=l.foldl (λT k=>(fe T b 0 k).1) T
noncomputable def kD (T:aB) (a b:Int):aB×Int:=if dw T a&&dw T b&& !gM T b a then(moveF T b (aG T a),0)else(T,47)
theorem YB (T:aB) (b:Int) (l:List Int) (k:Nat) (h:k<l.length):moveF T b (l.take (k+1))=(fe (moveF T b (l.take k)) b 0 l[k]).1:=by
 have:l.take (k+1)=l.take k++ [l[k]]:=by rw[QN];simp[h]
 rw[this,moveF,List.foldl_append];rfl
theorem ah1 (T:aB) (tb g:Nat) (w:af) (a b:Int) (hw:WF T) (h:eH w tb g T) (hno:(dw T a&&dw T b&& !gM T b a)=false) :
 Calls prog 228 #[.pointer (some ⟨tb,0,none⟩),.int .i64 a,.int .i64 b] w λe w'=>e= .returned (.int .i64 47)/\w=w':=by
 have H1:=hd' (nD T tb g w a h);have H2:=hd' (nD T tb g w b h);cases h1:dw T a
 ·by_cases hab:a=b
  ·subst hab;rw[h1]at H1;clear h hno;go_enter Ii,Ia
   go_wp2_with ((go_at_call 191;refine H1.o'.mono ?_;rintro e w1 ⟨rfl,rfl⟩))
   go_ret;exact⟨rfl,rfl⟩
  ·rw[h1]at H1;clear h hno;go_enter Ii,Ia
   go_wp2_with ((go_at_call 191;refine H1.o'.mono ?_;rintro e w1 ⟨rfl,rfl⟩))
   go_ret;exact⟨rfl,rfl⟩
 rw[h1]at H1;cases h2:dw T b
 ·have hab:a≠b:=by
   intro e;rw[e,h2]at h1;cases h1
  rw[h2]at H2;clear h hno;go_enter Ii,Ia
  go_wp2_with (first|(go_at_call_of 191 (Value.int .i64 b);refine H2.o'.mono ?_;rintro e w1 ⟨rfl,rfl⟩)|(go_at_call 191;refine H1.o'.mono ?_;rintro e w1 ⟨rfl,rfl⟩))
  go_ret;exact⟨rfl,rfl⟩
 rw[h2]at H2;have hb:=jU hw.pos h2;have H3:=hd' (Dy T tb g w b a (by omega) hw h);cases h3:gM T b a
 ·rw[h1,h2,h3]at hno;cases hno
 ·rw[h3]at H3;clear h hno hb;by_cases hab:a=b
  ·subst hab;go_enter Ii,Ia
   go_wp2_with (first|(go_at_call 191;refine H1.o'.mono ?_;rintro e w1 ⟨rfl,rfl⟩)|(go_at_call 195;refine H3.o'.mono ?_;rintro e w1 ⟨rfl,rfl⟩))
   go_ret;exact⟨rfl,rfl⟩
  ·go_enter Ii,Ia
   go_wp2_with (first|(go_at_call_of 191 (Value.int .i64 b);refine H2.o'.mono ?_;rintro e w1 ⟨rfl,rfl⟩)|(go_at_call 191;refine H1.o'.mono ?_;rintro e w1 ⟨rfl,rfl⟩)|(go_at_call 195;refine H3.o'.mono ?_;rintro e w1 ⟨rfl,rfl⟩))
   go_ret;exact⟨rfl,rfl⟩
theorem ae1 {w0 w:af} {B tb g:Nat} {T:aB} (h:TI w0 B tb T g w) (a b:Int) (hok:(dw T a&&dw T b&& !gM T b a)=true) :
 Calls prog 228 #[.pointer (some ⟨tb,0,none⟩),.int .i64 a,.int .i64 b] w λe w'=>e= .returned (.int .i64 0)/\az (Two tb g) w w'/\TI w0 B tb (moveF T b (aG T a)) g w':=by
 simp only[cz,Af]at hok;obtain⟨⟨h1,h2⟩,h3⟩:=hok;have H1:=hd' (nD T tb g w a h.tree);have H2:=hd' (nD T tb g w b h.tree);have hb:=jU h.wf.pos h2;have ha:=jU h.wf.pos h1;have H3:=hd' (Dy T tb g w b a (by omega) h.wf h.tree)
 have H4:=hd' (Vz T tb g w a h.tree (λi hi=>by
  have:=rQ h.wf i hi;rw[lS T i hi]at this;have:=h.len
  omega))
 have hq:vD T a=aG T a:=by rw[vD,au ha]
 rw[hq]at H4
 have hab:a≠b:=by
  intro e;rw[e]at h3;rw[lX .here]at h3;cases h3
 rw[h1]at H1;rw[h2]at H2;rw[h3]at H3;obtain⟨l,hl⟩: ∃l,l=aG T a:=⟨_,rfl⟩;rw[<-hl]at H4 |-
 have hlen:l.length<=1000000:=by
  obtain⟨i,rfl⟩:=bQ ha.1;rw[hl];have:=rQ h.wf i (by omega);have:=h.len;omega
 have HH:=hd' h;have hlt:=h.tree.lt;clear h hl hq hb ha;go_enter Ii,Ia
 go_wp2_with (first|(go_at_call_of 191 (Value.int .i64 b);refine H2.o'.mono ?_;rintro e w1 ⟨rfl,rfl⟩)|(go_at_call 191;refine H1.o'.mono ?_;rintro e w1 ⟨rfl,rfl⟩)|(go_at_call 195;refine H3.o'.mono ?_;rintro e w1 ⟨rfl,rfl⟩))
 refine H4.o'.mono ?_;rintro e w2 ⟨v,rfl,ho,hb2⟩;obtain⟨a2,c2,rfl,k1,k2,k3,lV⟩:=F9 (F:=Two tb g) ho (λk hk=>by rcases hk with rfl|rfl <;>omega)
 have HT2:=hd' (HH.o'.world hb2);have uP:=hd' (az.bC (F:=Two tb g) hb2);have HAT:=hd' lV;unfold maxLen at k2;clear ho hb2 lV HH H1 H2 H3 H4;go_wp2_with fail
 go_loopw [29] (λi wr=> ∃k:Nat,k<=l.length/\i= .int .i64 k/\TI w0 B tb (moveF T b (l.take k)) g wr/\az (Two tb g) w2 wr) (λi _=>l.length-(intOf i).toNat)
 case atStart=>exact⟨0,bD _,rfl,HT2.o',az.refl _ _⟩
 case round =>
  obtain⟨k,hk,rfl,hT,hK⟩:=hrel;have HT:=hd' hT;have HK:=hd' hK;by_cases hlt2:k<l.length
  ·obtain⟨b',o',rfl,e1⟩:=(HAT.o'.kept hK).at _ _ (fw l k hlt2);have HP:=hd' (agH hT b 0 l[k]);rw[<-YB T b l k hlt2]at HP;clear hT hK k3;go_wp2_with fail
   refine HP.o'.mono ?_;rintro e w3 ⟨rfl,hK3,hT3⟩;have HT3:=hd' hT3;have Qx:=hd' (HK.o'.trans hK3);clear hT3 hK3;go_wp2_with fail
   go_roundw
   case rel=>exact⟨k+1,by omega,by go_num,HT3.o',Qx.o'⟩
   case measure=>simp[intOf];omega
  ·have he:l.take k=l:=iH (by omega);rw[he]at HT;clear hT hK k3;go_wp2_with fail
   go_ret;exact⟨rfl,uP.o'.trans HK.o',HT.o'⟩
theorem ai7 {w0 w:af} {B tb g:Nat} {T:aB} (h:TI w0 B tb T g w) (a b:Int) :
 Calls prog 228 #[.pointer (some ⟨tb,0,none⟩),.int .i64 a,.int .i64 b] w λe w'=>e= .returned (.int .i64 (kD T a b).2)/\az (Two tb g) w w'/\TI w0 B tb (kD T a b).1 g w':=by
 cases hok:(dw T a&&dw T b&& !gM T b a)
 ·have he:kD T a b=(T,47):=by rw[kD,hok];rfl
  rw[he]
  exact(ah1 T tb g w a b h.wf h.tree hok).mono λe w' ⟨h1,h2⟩=>by
   subst h2;exact⟨h1,az.refl _ _,h⟩
 ·have he:kD T a b=(moveF T b (aG T a),0):=by rw[kD,hok];rfl
  rw[he];exact ae1 h a b hok
end Go.Proofs.YtnlbcifhedjbfaaGreatDoor
end
section
namespace Go.Proofs.YtnlbcifhedjbfaaGreatDoor
open Go.RowKit Mem
def Deep:Nat->aB->Int->Prop
 |0,_,_=>False
 |k+1,T,n=> ∀x∈aG T n,Deep k T x
def lu:NT:= .mk 0 0 ⟨#[]⟩ [] ⟨#[]⟩ []
def jg:Nat->aB->Int->NT
 |0,_,_=>lu
 |k+1,T,n=>match T.ai[n.toNat]? with
  |none=>lu
  |some d=>if d.elem then .mk 1 d.aN d.ah d.aA ⟨#[]⟩ ((aG T n).map (jg k T))else .mk 2 0 ⟨#[]⟩ [] d.aL []
theorem EH (k:Nat) (T:aB) (i:Nat) (h:i<T.ai.length) (he:T.ai[i].elem=true) :
 jg (k+1) T i= .mk 1 T.ai[i].aN T.ai[i].ah T.ai[i].aA ⟨#[]⟩ (T.ai[i].aP.map (jg k T)):=by
 simp[jg,h,he,aG]
theorem EG (k:Nat) (T:aB) (i:Nat) (h:i<T.ai.length) (he:T.ai[i].elem=false):jg (k+1) T i= .mk 2 0 ⟨#[]⟩ [] T.ai[i].aL []:=by
 simp[jg,h,he]
theorem VI:(prog.info? 26).map (λi=>(i.zero,i.size,i.bytes))=some (some (.agg #[.int .i64 0,.int .i64 0,.string ⟨#[]⟩,.slice none 0 0,.string ⟨#[]⟩,.slice none 0 0]),6,96):=by kernel_rfl
theorem qQ:(prog.info? 26).map (·.size)=some 6:=by kernel_rfl
theorem abV (T:aB) (tb g:Nat) (w:af) (i:Nat) (h1i:1<=i) (hlt:i<T.ai.length) (he:T.ai[i].elem=false) (h:eH w tb g T) :
 Calls prog 24 #[.pointer (some ⟨tb,0,none⟩),.int .i64 i] w λe w'=> ∃cs,e= .returned (.tuple #[.agg cs.toArray,.int .i64 0])/\gq (· <w.heap.size) w' cs (.mk 2 0 ⟨#[]⟩ [] T.ai[i].aL [])/\Below w.heap.size w w':=by
 obtain⟨cap,h1,h2,c0,_,_,_⟩:=h.head;obtain⟨aa,ac,ka,kc,_,_,hA3,_,_,_,hA,_,hc,_⟩:=h.node hlt;have d0:=hc 0 _ rfl;rw[pM,he]at d0;have d1:=hc 1 _ rfl;have d2:=hc 2 _ rfl;have d3:=hc 3 _ rfl;have d4:=hc 4 _ rfl;have d5:=hc 5 _ rfl;have d6:=hc 6 _ rfl;obtain⟨ht1,ht2⟩:=h.lt;unfold maxLen at h2;have hb:=(aQ w.heap.size w).alloc (ay _) (.cells #[.int .i64 0,.int .i64 0,.string ⟨#[]⟩,.slice none 0 0,.string ⟨#[]⟩,.slice none 0 0] 26);have c0':=aM hb c0;have d0':=aM hb d0;have d1':=aM hb d1;have d2':=aM hb d2;have d3':=aM hb d3;have d4':=aM hb d4;have d5':=aM hb d5;have d6':=aM hb d6;have HI:=hd' (AB T tb g _ i (h.below hb));have hi:xF T i=true:=by simp[xF];omega
 rw[hi]at HI;clear h hc hA hA3 hb hi;go_enter func24,ntmps24
 go_wp2_with (go_at_call 40;refine HI.o'.mono ?_;rintro e w1 ⟨rfl,rfl⟩)
 have hg:((w.alloc (.cells #[.int .i64 2,.int .i64 0,.string ⟨#[]⟩,.slice none 0 0,.string T.ai[i].aL,.slice none 0 0] 26)).alloc (.cells #[.bool false,.int .i64 T.ai[i].aN,.string T.ai[i].ah,.slice aa T.ai[i].aA.length ac,.string T.ai[i].aL,.int .i64 T.ai[i].parent,.slice ka T.ai[i].aP.length kc] 83)).heap[w.heap.size]?=some (.cells #[.int .i64 2,.int .i64 0,.string ⟨#[]⟩,.slice none 0 0,.string T.ai[i].aL,.slice none 0 0] 26 (0,0)) :=
  (pU _ _ _ (by simp)).trans (eU w _)
 refine bU (tu rfl _ _ w.heap.size _ _ _ _ (.int .i64 0) (by rfl) (by rfl) hg yD rfl qQ) rfl ?_;refine⟨iF 2 0 ⟨#[]⟩ none 0 0 T.ai[i].aL none 0 0,rfl,?_,((aQ _ _).alloc (ay _) _).alloc (by simp) _⟩;exact .mk (aA:= []) (aP:= []) [] (ay _) (bD _) (λ_=>rfl) (λj u hj=>by simp[bz]at hj) (ay _) (bD _) (λ_=>rfl) (λj u hj=>by simp at hj) rfl (λi h=>by simp at h)
theorem JX {w2 u:af} {B:Nat} {v1 v2 v3:ak} (hk:az pG w2 u) (hlt:B<w2.heap.size) (x1:w2.cell? ⟨B,1,none⟩=some v1) (x2:w2.cell? ⟨B,2,none⟩=some v2) (x3:w2.cell? ⟨B,3,none⟩=some v3) :
 u.cell? ⟨B,1,none⟩=some v1/\u.cell? ⟨B,2,none⟩=some v2/\u.cell? ⟨B,3,none⟩=some v3:=RZ (hk.block B hlt (λh=>h)) ⟨x1,x2,x3⟩
def Om (w:af) (O:Nat) (u0 u1 u2 u3 u4 u5:ak):af :=
 (((((w.setCell ⟨O,0,none⟩ u0).setCell ⟨O,1,none⟩ u1).setCell ⟨O,2,none⟩ u2).setCell ⟨O,3,none⟩ u3).setCell ⟨O,4,none⟩ u4).setCell ⟨O,5,none⟩ u5
theorem kU {F:Nat->Prop} {w2 w4:af} {O:Nat} (u0 u1 u2 u3 u4 u5:ak) (hk:az F w2 w4) (hO:F O\/w2.heap.size<=O):az F w2 (Om w4 O u0 u1 u2 u3 u4 u5) :=
 (((((hk.set (p:=⟨O,0,none⟩) hO u0).set (p:=⟨O,1,none⟩) hO u1).set (p:=⟨O,2,none⟩) hO u2).set (p:=⟨O,3,none⟩) hO u3).set (p:=⟨O,4,none⟩) hO u4).set (p:=⟨O,5,none⟩) hO u5
theorem qp {w4:af} {O:Nat} {a0 a1 a2 a3 a4 a5:ak} {t:TypeId} (u0 u1 u2 u3 u4 u5:ak) (h:w4.heap[O]?=some (.cells #[a0,a1,a2,a3,a4,a5] t (0,0))) :
 (Om w4 O u0 u1 u2 u3 u4 u5).heap[O]?=some (.cells #[u0,u1,u2,u3,u4,u5] t (0,0)) :=
 mr (i:=5) (mr (i:=4) (mr (i:=3) (mr (i:=2) (mr (i:=1) (mr (i:=0) h u0) u1) u2) u3) u4) u5
theorem Yh {w:af} {O k:Nat} (u0 u1 u2 u3 u4 u5:ak) (h:k≠O):(Om w O u0 u1 u2 u3 u4 u5).heap[k]?=w.heap[k]?:=by
 unfold Om;rw[eG _ _ _ _ h,eG _ _ _ _ h,eG _ _ _ _ h,eG _ _ _ _ h,eG _ _ _ _ h,eG _ _ _ _ h]
theorem UZ {w:af} {base:Nat} {e t:TypeId} {size O:Nat} {v:ak} {n:Nat} {xs:List ak} {cs:Array ak} {fr:Nat×Nat} (h:w.ownsRow base e size v n xs) (hO:w.heap[O]?=some (.cells cs t fr)) (hne:t≠e): ∀k,v.ownBlock=some k->k≠O:=by
 intro k hk e';subst e';rcases h.2 with⟨rfl,_⟩|⟨g,cap,di,rfl,_,hg,_⟩
 ·cases hk
 ·simp only[Value.ownBlock,dQ]at hk;subst hk;rw[hg]at hO;cases hO;exact hne rfl
theorem U0 {w:af} {base:Nat} {e:TypeId} {size O:Nat} {v:ak} {n:Nat} {xs:List ak} (u0 u1 u2 u3 u4 u5:ak) (h:w.ownsRow base e size v n xs) (hne: ∀k,v.ownBlock=some k->k≠O):(Om w O u0 u1 u2 u3 u4 u5).ownsRow base e size v n xs :=
 gH h λk hk=>Yh _ _ _ _ _ _ (hne k hk)
theorem aiT {w5:af} {base O:Nat} {v:ak} {n:Nat} {xs:List ak} (h:w5.ownsRow base 128 2 v n xs) (hne: ∀k,v.ownBlock=some k->k≠O) :
 ∃a c,v= .slice a n c/\n<=c/\c<=maxLen/\Bg a c/\rX (λb=>b=O\/b<base) w5 a xs:=by
 obtain⟨a,c,rfl,h1,h2,h3,h4⟩:=fJ h;refine⟨a,c,rfl,h1,h2,U4 h,rX.yS h4 λb o s ha hb=> ?_⟩;subst ha;rcases h.2 with⟨hv,_⟩|⟨g,cap,di,hv,hg,_⟩
 ·cases hv
 ·cases hv;rcases hb with hb|hb
  ·exact hne b rfl hb
  ·omega
theorem kV {F:Nat->Prop} {w:af} {cs:List ak} {n:NT} (h:gq F w cs n): ∃f0 f1 f2 f3 f4 f5 f6 f7 f8 f9,cs=iF f0 f1 f2 f3 f4 f5 f6 f7 f8 f9:=by
 cases h;exact⟨_,_,_,_,_,_,_,_,_,_,rfl⟩
structure RD (w5:af) (O:Nat) (u0 u1 u2 u3 u4:ak) (d:Nat) (T:aB) (kl:List Int) (k:Nat) (av:Option Addr) (cv:Nat) (css:List (List ak)) (wr:af):Prop where
 cell:wr.heap[O]?=some (.cells #[u0,u1,u2,u3,u4,.slice av k cv] 26 (0,0))
 own:wr.ownsRow w5.heap.size 26 6 (.slice av k cv) k css.flatten
 len:css.length=k
 aP: ∀j (h:j<css.length) (h':j<kl.length),gq (λb=>b<w5.heap.size\/(Value.slice av k cv).ownBlock=some b) wr css[j] (jg d T kl[j])
 keep:az (· =O) w5 wr
section
variable {w5 wr:af} {O:Nat} {u0 u1 u2 u3 u4:ak} {d:Nat} {T:aB} {kl:List Int} {k:Nat} {av:Option Addr} {cv:Nat} {css:List (List ak)}
theorem RD.below {w':af} (h:RD w5 O u0 u1 u2 u3 u4 d T kl k av cv css wr) (hb:Below wr.heap.size wr w'):RD w5 O u0 u1 u2 u3 u4 d T kl k av cv css w' where
 cell:=(hb.block O (fZ h.cell)).trans h.cell
 own:=own_below h.own hb
 len:=h.len
 aP:=λj h1 h2=>(h.aP j h1 h2).kept (az.bC hb)
 keep:=h.keep.trans (az.bC hb)
theorem RD.push {w8:af} {g c:Nat} {cs:List ak} (h:RD w5 O u0 u1 u2 u3 u4 d T kl k av cv css wr) (hO:O<w5.heap.size) (hk:k<kl.length) (hcs:gq (λb=>b<w5.heap.size\/(Value.slice av k cv).ownBlock=some b) wr cs (jg d T kl[k]))
 (hgr:wr.grownBy w8 (Value.slice av k cv).ownBlock) (hat:(Value.slice av k cv).ownBlock=some g\/g=wr.heap.size) (ho:w8.ownsRow w5.heap.size 26 6 (.slice (some ⟨g,0,none⟩) (k+1) c) (k+1) (css.flatten++cs)) :
 RD w5 O u0 u1 u2 u3 u4 d T kl (k+1) (some ⟨g,0,none⟩) c (css++ [cs]) (w8.setCell ⟨O,5,none⟩ (.slice (some ⟨g,0,none⟩) (k+1) c)):=by
 have hbase:=ji h.own;have hgb:w5.heap.size<=g:=(ho.lt g rfl).1;have hOo:some O≠(Value.slice av k cv).ownBlock:=λe=>by have:=hbase O e.symm;omega
 have hc8:=(hgr.block O (fZ h.cell) hOo).trans h.cell
 have hK:az (λb=>b<w5.heap.size\/(Value.slice av k cv).ownBlock=some b\/b=g) wr (w8.setCell ⟨O,5,none⟩ (.slice (some ⟨g,0,none⟩) (k+1) c)):=by
  refine az.set ⟨hgr.os,hgr.tape,hgr.output,hgr.size,λb hb hF=>hgr.block b hb λe=>hF (.inr (.inl e.symm))⟩ (.inl (.inl hO)) _
 have hother: ∀ {x:List ak} {n:NT},gq (λb=>b<w5.heap.size\/(Value.slice av k cv).ownBlock=some b) wr x n->gq (λb=>b<w5.heap.size\/(Value.slice (some ⟨g,0,none⟩) (k+1) c).ownBlock=some b) (w8.setCell ⟨O,5,none⟩ (.slice (some ⟨g,0,none⟩) (k+1) c)) x n:=by
  intro x n hx
  have h1:gq (λb=>b<w5.heap.size\/(Value.slice av k cv).ownBlock=some b\/b=g) wr x n:=hx.other λb hb hF=>by
   rcases hF with hF|hF|hF
   ·exact .inl hF
   ·exact .inr hF
   ·subst hF;rcases hat with hat|hat
    ·exact .inr hat
    ·omega
  exact(h1.kept hK).other λb _ hF=>by
   rcases hF with hF|hF
   ·exact .inl hF
   ·simp only[Value.ownBlock,dQ]at hF;exact .inr (.inr hF.symm)
 refine⟨?_,?_,by simp[h.len],?_,?_⟩
 ·rw[mr (i:=5) hc8];rfl
 ·rw[List.flatten_append];simp only[yL,List.flatten_nil,kI];refine gH ho λb hb=> ?_
  simp only[Value.ownBlock,dQ]at hb;subst hb;exact eG _ _ _ _ (by show g≠O;omega)
 ·intro j hj hj';by_cases hlt:j<css.length
  ·have e1:(css++ [cs])[j]'hj=css[j]:=Li hlt;rw[e1];exact hother (h.aP j hlt hj')
  ·have hjk:j=css.length:=by simp at hj;omega
   subst hjk;have e1:(css++ [cs])[css.length]'hj=cs:=by simp
   rw[e1];have hlen:=h.len;subst hlen;exact hother hcs
 ·exact(gF h.keep hgr hbase).set (.inl rfl) _
end
theorem aer {w5 wr:af} {O B:Nat} {sp:Int} {nm:ae} {a2:Option Addr} {c2:Nat} {l:List dD} {d:Nat} {T:aB} {kl:List Int} {av:Option Addr} {cv:Nat} {css:List (List ak)} {R:Nat} {b2:Nat}
 (h:RD w5 O (.int .i64 1) (.int .i64 sp) (.string nm) (.slice a2 l.length c2) (.string ⟨#[]⟩) d T kl kl.length av cv css wr) (hO:O<w5.heap.size) (hR:R<w5.heap.size) (hRb:R<b2) (hBb:B<=b2) (hBO:B<=O)
 (s1:l.length<=c2) (s2:c2<=maxLen) (s3:a2=none->c2=0) (s4:rX (λb=>b=O\/b<b2) w5 a2 (bz l)) (u0 u1 u2 u3 u4 u5:ak) :
 gq (· <B) (Om wr R u0 u1 u2 u3 u4 u5) (iF 1 sp nm a2 l.length c2 ⟨#[]⟩ av kl.length cv) (.mk 1 sp nm l ⟨#[]⟩ (kl.map (jg d T))):=by
 have hm:kl.length=(kl.map (jg d T)).length:=by simp
 have e:iF 1 sp nm a2 l.length c2 ⟨#[]⟩ av kl.length cv=iF 1 sp nm a2 l.length c2 ⟨#[]⟩ av (kl.map (jg d T)).length cv:=by rw[<-hm]
 rw[e];obtain⟨_,_,hv,p1,p2,p3,p4⟩:=F9 (F:=(· <w5.heap.size)) h.own (λ_ h=>h);obtain⟨rfl,rfl⟩:_/\_:=by simpa only[QB,BD] using hv
 have hk1:az (λb=>b<w5.heap.size) wr (Om wr R u0 u1 u2 u3 u4 u5):=kU _ _ _ _ _ _ (az.refl _ _) (.inl hR);have s5:rX (λb=>b=O\/b<b2) wr a2 (bz l):=s4.kept (h.keep.mono λ_ _ hb=> .inl hb);have s6:rX (λb=>b=O\/b<b2) (Om wr R u0 u1 u2 u3 u4 u5) a2 (bz l):=s5.kept (kU _ _ _ _ _ _ (az.refl _ _) (.inl (.inr hRb)));refine .mk css s1 s2 s3 (s6.other λb _ hb=> .inr (by omega)) (by rw[<-hm];exact p1) p2 p3.nil ((p4.kept hk1).other λb _ hb=>by omega) (by rw[<-hm];exact h.len) ?_;intro j h1 h2;have h3:j<kl.length:=by rw[hm];exact h2
 have hh:=(h.aP j h1 h3).kept (kU u0 u1 u2 u3 u4 u5 (az.refl _ _) (.inl (.inl hR)));have e2:(kl.map (jg d T))[j]'h2=jg d T kl[j]:=by simp
 rw[e2];exact hh.other λb _ hb=> .inl (by omega)
theorem afv {w2 w4:af} {B O:Nat} {u0 u1 u2 u3 u4 u5 v1 v2 v3:ak} (hk:az pG w2 w4) (hlt:B<w2.heap.size) (hO:w2.heap.size<=O) (x1:w2.cell? ⟨B,1,none⟩=some v1) (x2:w2.cell? ⟨B,2,none⟩=some v2) (x3:w2.cell? ⟨B,3,none⟩=some v3) :
 ((((((w4.setCell ⟨O,0,none⟩ u0).setCell ⟨O,1,none⟩ u1).setCell ⟨O,2,none⟩ u2).setCell ⟨O,3,none⟩ u3).setCell ⟨O,4,none⟩ u4).setCell ⟨O,5,none⟩ u5).cell? ⟨B,1,none⟩=some v1 /\
 ((((((w4.setCell ⟨O,0,none⟩ u0).setCell ⟨O,1,none⟩ u1).setCell ⟨O,2,none⟩ u2).setCell ⟨O,3,none⟩ u3).setCell ⟨O,4,none⟩ u4).setCell ⟨O,5,none⟩ u5).cell? ⟨B,2,none⟩=some v2 /\
 ((((((w4.setCell ⟨O,0,none⟩ u0).setCell ⟨O,1,none⟩ u1).setCell ⟨O,2,none⟩ u2).setCell ⟨O,3,none⟩ u3).setCell ⟨O,4,none⟩ u4).setCell ⟨O,5,none⟩ u5).cell? ⟨B,3,none⟩=some v3 :=
 JX (kU u0 u1 u2 u3 u4 u5 hk (.inr hO)) hlt x1 x2 x3
theorem kZ {w:af} {B:Nat} {v0 v1 v2 v3 v4 v5:ak} {t:TypeId} (h:w.heap[B]?=some (.cells #[v0,v1,v2,v3,v4,v5] t (0,0))) :
 (w.cell? ⟨B,0,none⟩=some v0/\w.cell? ⟨B,1,none⟩=some v1/\w.cell? ⟨B,2,none⟩=some v2/\w.cell? ⟨B,3,none⟩=some v3/\w.cell? ⟨B,4,none⟩=some v4/\w.cell? ⟨B,5,none⟩=some v5) /\
   w.frozen? ⟨B,0,none⟩=false/\w.frozen? ⟨B,1,none⟩=false/\w.frozen? ⟨B,2,none⟩=false/\w.frozen? ⟨B,3,none⟩=false/\w.frozen? ⟨B,4,none⟩=false/\w.frozen? ⟨B,5,none⟩=false:=by
 simp only[lF w B _ _ _ _ h,vK w B _ _ _ h];exact⟨⟨rfl,rfl,rfl,rfl,rfl,rfl⟩,trivial,trivial,trivial,trivial,trivial,trivial⟩
theorem abX (T:aB) (tb g:Nat) (w:af) (i:Nat) (h1i:1<=i) (hlt:i<T.ai.length) (he:T.ai[i].elem=true) (h:eH w tb g T) (l:List dD) (hl:l=T.ai[i].aA) (hlen:l.length<=1048576) (d:Nat) (kl:List Int) (hkl:kl=T.ai[i].aP) (hkn:kl.length<=2097152)
 (P6: ∀j (h:j<kl.length),∃x:Nat,kl[j]=x/\1<=x/\x<T.ai.length/\Deep d T x)
 (ih: ∀(u:af) (x:Nat),1<=x->x<T.ai.length->Deep d T x->eH u tb g T->Calls prog 24 #[.pointer (some ⟨tb,0,none⟩),.int .i64 x] u λe u'=> ∃cs,e= .returned (.tuple #[.agg cs.toArray,.int .i64 0])/\gq (· <u.heap.size) u' cs (jg d T x)/\Below u.heap.size u u') :
 Calls prog 24 #[.pointer (some ⟨tb,0,none⟩),.int .i64 i] w λe w'=> ∃cs,e= .returned (.tuple #[.agg cs.toArray,.int .i64 0])/\gq (· <w.heap.size) w' cs (.mk 1 T.ai[i].aN T.ai[i].ah l ⟨#[]⟩ (kl.map (jg d T)))/\Below w.heap.size w w':=by
 obtain⟨cap,h1,h2,c0,_,_,_⟩:=h.head;obtain⟨aa,ac,ka,kc,_,_,hA3,kk1,kk2,_,hA,hKA,hc,_⟩:=h.node hlt;have d0:=hc 0 _ rfl;rw[pM,he]at d0;have d1:=hc 1 _ rfl;have d2:=hc 2 _ rfl;have d3:=hc 3 _ rfl;have d4:=hc 4 _ rfl;have d5:=hc 5 _ rfl;have d6:=hc 6 _ rfl;rw[<-hl]at d3 hA;rw[<-hkl]at d6 hKA kk1;have HKL:=hd' (hKA.other (G:=pG) λb _ hb=>hb.elim);have HIH:=hd' ih;have HKD:=hd' P6;unfold maxLen at kk2;obtain⟨ht1,ht2⟩:=h.lt;unfold maxLen at h2;have hb:=(aQ w.heap.size w).alloc (ay _) (.cells #[.int .i64 0,.int .i64 0,.string ⟨#[]⟩,.slice none 0 0,.string ⟨#[]⟩,.slice none 0 0] 26);have c0':=aM hb c0;have d0':=aM hb d0;have d1':=aM hb d1;have d2':=aM hb d2;have d3':=aM hb d3;have d4':=aM hb d4;have d5':=aM hb d5;have d6':=aM hb d6;have HI:=hd' (AB T tb g _ i (h.below hb));have hi:xF T i=true:=by simp[xF];omega
 rw[hi]at HI;have HA:=hd' hA.at;have H3:=hd' hA3;have HT:=hd' h;clear h hc hA hA3 hb hi hl hKA hkl ih P6;go_enter func24,ntmps24
 go_wp2_with (go_at_call 40;refine HI.o'.mono ?_;rintro e w1 ⟨rfl,rfl⟩)
 generalize hW2:(w.alloc (.cells #[.int .i64 0,.int .i64 0,.string ⟨#[]⟩,.slice none 0 0,.string ⟨#[]⟩,.slice none 0 0] 26)).alloc (.cells #[.bool true,.int .i64 T.ai[i].aN,.string T.ai[i].ah,.slice aa l.length ac,.string T.ai[i].aL,.int .i64 T.ai[i].parent,.slice ka kl.length kc] 83)=w2;have hs2:w2.heap.size=w.heap.size+2:=by rw[<-hW2];simp
 have hX:w2.heap[w.heap.size+1]?=some (.cells #[.bool true,.int .i64 T.ai[i].aN,.string T.ai[i].ah,.slice aa l.length ac,.string T.ai[i].aL,.int .i64 T.ai[i].parent,.slice ka kl.length kc] 83 (0,0)):=by
  rw[<-hW2];exact vF (by simp)
 have hR:w2.heap[w.heap.size]?=some (.cells #[.int .i64 0,.int .i64 0,.string ⟨#[]⟩,.slice none 0 0,.string ⟨#[]⟩,.slice none 0 0] 26 (0,0)):=by
  rw[<-hW2];exact(pU _ _ _ (by simp)).trans (eU w _)
 have hb2:Below w.heap.size w w2:=by
  rw[<-hW2];exact((aQ _ _).alloc (ay _) _).alloc (by simp) _
 obtain⟨_,x1,x2,x3,_,_,x6⟩:=zR hX;have hlX:w.heap.size+1<w2.heap.size:=by omega
 have HS2:=hd' hs2;have HB2:=hd' hb2;have HR:=hd' hR;have HXX:=hd' hX;clear hs2 hb2 hR hX;have K0:=hd' (az.refl pG w2).drew;have K1:=hd' ((az.refl pG w2).alloc (.cells #[] 128)).drew;have K2:=hd' (((az.refl pG w2).alloc (.cells #[] 128)).alloc (.cells #[.int .i64 0,.int .i64 0,.string ⟨#[]⟩,.slice none 0 0,.string ⟨#[]⟩,.slice none 0 0] 26)).drew;have K4:=hd' ((az.refl pG w2).alloc (.cells #[.int .i64 0,.int .i64 0,.string ⟨#[]⟩,.slice none 0 0,.string ⟨#[]⟩,.slice none 0 0] 26)).drew;have K3:=hd' (((az.refl pG w2).alloc (.cells #[.int .i64 0,.int .i64 0,.string ⟨#[]⟩,.slice none 0 0,.string ⟨#[]⟩,.slice none 0 0] 26)).alloc (.cells #[] 128)).drew;have O1:Hid ((w2.alloc (.cells #[] 128)).drew.ownsRow w2.heap.size 128 2 (.slice (some ⟨w2.heap.size,0,none⟩) 0 0) 0 []):=hd' (oI w2 #[] 0 (ay _) (bD _) rfl).drew;have O2:=hd' (((oI (base:=w2.heap.size) (e:=128) (size:=2) w2 #[] 0 (ay _) (bD _) rfl).alloc (.cells #[.int .i64 0,.int .i64 0,.string ⟨#[]⟩,.slice none 0 0,.string ⟨#[]⟩,.slice none 0 0] 26)).drew)
 have O3:Hid (((w2.alloc (.cells #[.int .i64 0,.int .i64 0,.string ⟨#[]⟩,.slice none 0 0,.string ⟨#[]⟩,.slice none 0 0] 26)).alloc (.cells #[] 128)).drew.ownsRow w2.heap.size 128 2 (.slice (some ⟨w2.heap.size+1,0,none⟩) 0 0) 0 []):=hd' (by
  have:=oI (base:=w2.heap.size) (e:=128) (size:=2) (w2.alloc (.cells #[.int .i64 0,.int .i64 0,.string ⟨#[]⟩,.slice none 0 0,.string ⟨#[]⟩,.slice none 0 0] 26)) #[] 0 (by simp) (bD _) rfl
  exact World.ownsRow.drew (by simpa using this))
 have Z2:Hid (((w2.alloc (.cells #[] 128)).alloc (.cells #[.int .i64 0,.int .i64 0,.string ⟨#[]⟩,.slice none 0 0,.string ⟨#[]⟩,.slice none 0 0] 26)).drew.heap[w2.heap.size+1]?=some (.cells #[.int .i64 0,.int .i64 0,.string ⟨#[]⟩,.slice none 0 0,.string ⟨#[]⟩,.slice none 0 0] 26 (0,0))):=hd' (vF (w:=w2.alloc (.cells #[] 128)) (by simp));have Z3:Hid (((w2.alloc (.cells #[.int .i64 0,.int .i64 0,.string ⟨#[]⟩,.slice none 0 0,.string ⟨#[]⟩,.slice none 0 0] 26)).alloc (.cells #[] 128)).drew.heap[w2.heap.size]?=some (.cells #[.int .i64 0,.int .i64 0,.string ⟨#[]⟩,.slice none 0 0,.string ⟨#[]⟩,.slice none 0 0] 26 (0,0))):=hd' ((pU (w2.alloc (.cells #[.int .i64 0,.int .i64 0,.string ⟨#[]⟩,.slice none 0 0,.string ⟨#[]⟩,.slice none 0 0] 26)) _ _ (by simp)).trans (eU w2 _));have B1:Hid (∀k,(Value.slice (some ⟨w2.heap.size,0,none⟩) 0 0).ownBlock=some k->w2.heap.size<=k):=hd' (λk e=>by simp only[Value.ownBlock,dQ]at e;omega);have B3:Hid (∀k,(Value.slice (some ⟨w2.heap.size+1,0,none⟩) 0 0).ownBlock=some k->w2.heap.size<=k):=hd' (λk e=>by simp only[Value.ownBlock,dQ]at e;omega);have E2:Hid (some (w2.heap.size+1)≠(Value.slice (some ⟨w2.heap.size,0,none⟩) 0 0).ownBlock):=hd' (λe=>by simp only[Value.ownBlock,dQ]at e;omega);have E3:Hid (some w2.heap.size≠(Value.slice (some ⟨w2.heap.size+1,0,none⟩) 0 0).ownBlock):=hd' (λe=>by simp only[Value.ownBlock,dQ]at e;omega);have L2:Hid (w2.heap.size<w2.heap.size+1+1/\w2.heap.size+1<w2.heap.size+1+1):=hd' ⟨by omega,by omega⟩;have HA2:=hd' (HA.o'.below HB2.o');have HAF:Hid (rX pG w2 aa (bz l)):=hd' (rX.yS HA2.o' λ_ _ _ _ h=>h);have W9:=hd' (qV l);obtain⟨i0,hi0,hz0,hz1,hz2⟩:=lY Nb;have b0:0+l.length<=maxLen:=by unfold maxLen;omega
 have b1:(0+l.length)*32<=140737488355328:=by omega
 clear hW2 c0' d0' d1' d2' d3' d4' d5' d6' c0 d0 d1 d2 d3 d4 d5 d6 HI HA
 go_region_held3 (λu=>u.cell? ⟨w.heap.size+1,1,none⟩=some (.int .i64 T.ai[i].aN)/\u.cell? ⟨w.heap.size+1,2,none⟩=some (.string T.ai[i].ah)/\u.cell? ⟨w.heap.size+1,3,none⟩=some (.slice aa l.length ac))
  (first|with_reducible exact afv KA.o' hlX (ay _) x1 x2 x3|with_reducible exact afv KA.o' hlX (wY _) x1 x2 x3|with_reducible exact JX K0.o' hlX x1 x2 x3|with_reducible exact JX K1.o' hlX x1 x2 x3|with_reducible exact JX K2.o' hlX x1 x2 x3|with_reducible exact JX K3.o' hlX x1 x2 x3|with_reducible exact JX K4.o' hlX x1 x2 x3|with_reducible exact JX KA.o' hlX x1 x2 x3|with_reducible exact JX (KA.o'.alloc _) hlX x1 x2 x3)
  (first
    |(refine fO (by rfl) _ _ 23 (by rfl) w2.heap.size 128 i0 _ 2 32 BF hi0 hz0 hz1 hz2 rfl (by decide) _ 0 [] (by rfl) (by first|exact O1.o'|exact O2.o'|exact O3.o') aa l.length ac (bz l) (by rfl) W9.o' H3.o' (by first|exact qY HAF.o' K1.o'|exact qY HAF.o' K2.o'|exact qY HAF.o' K3.o') (Ar l) b0 b1 (by first|exact K1.o'.size|exact K2.o'.size|exact K3.o'.size) ?_
      intro v4 w4 aaS acR;simp only[iM,jZ]at aaS;have KA:Hid (az pG w2 w4):=hd' (by first|exact gF K1.o' acR B1.o'|exact gF K2.o' acR B1.o'|exact gF K3.o' acR B3.o')
      first
       |(have ZA:=hd' ((acR.block (w2.heap.size+1) (by simp) E2.o').trans Z2.o');obtain⟨⟨z0,z1,z2,z3,z4,z5⟩,y0,y1,y2,y3,y4,y5⟩:=kZ ZA.o')
       |(have ZA:=hd' ((acR.block w2.heap.size (by simp;omega) E3.o').trans Z3.o');obtain⟨⟨z0,z1,z2,z3,z4,z5⟩,y0,y1,y2,y3,y4,y5⟩:=kZ ZA.o')
       |skip
      obtain⟨a2,c2,rfl,r1,r2,r3,_⟩:=fJ aaS;have OA:=hd' aaS
      clear aaS acR r3))
 all_goals first
  |(have ht5:=qp (O:=w2.heap.size+1) (.int .i64 1) (.int .i64 T.ai[i].aN) (.string T.ai[i].ah) (.slice a2 l.length c2) (.string ⟨#[]⟩) (.slice none 0 0) ZA.o'
    have hne5:=UZ OA.o' ZA.o' (by decide);have ho5:=U0 (.int .i64 1) (.int .i64 T.ai[i].aN) (.string T.ai[i].ah) (.slice a2 l.length c2) (.string ⟨#[]⟩) (.slice none 0 0) OA.o' hne5;have hk5:=kU (.int .i64 1) (.int .i64 T.ai[i].aN) (.string T.ai[i].ah) (.slice a2 l.length c2) (.string ⟨#[]⟩) (.slice none 0 0) KA.o' (.inr (wY _:w2.heap.size<=w2.heap.size+1));have amZ:w2.heap.size<=w2.heap.size+1:=wY _;have Sc:=fZ ht5;unfold Om at ht5 ho5 hk5 Sc;generalize ((((((w4.setCell ⟨w2.heap.size+1,0,none⟩ (.int .i64 1)).setCell ⟨w2.heap.size+1,1,none⟩ (.int .i64 T.ai[i].aN)).setCell ⟨w2.heap.size+1,2,none⟩ (.string T.ai[i].ah)).setCell ⟨w2.heap.size+1,3,none⟩ (.slice a2 l.length c2)).setCell ⟨w2.heap.size+1,4,none⟩ (.string ⟨#[]⟩)).setCell ⟨w2.heap.size+1,5,none⟩ (.slice none 0 0))=w5 at *;clear ZA z0 z1 z2 z3 z4 z5 y0 y1 y2 y3 y4 y5
    generalize w2.heap.size+1=O at *)
  |(have ht5:=qp (O:=w2.heap.size) (.int .i64 1) (.int .i64 T.ai[i].aN) (.string T.ai[i].ah) (.slice a2 l.length c2) (.string ⟨#[]⟩) (.slice none 0 0) ZA.o'
    have hne5:=UZ OA.o' ZA.o' (by decide);have ho5:=U0 (.int .i64 1) (.int .i64 T.ai[i].aN) (.string T.ai[i].ah) (.slice a2 l.length c2) (.string ⟨#[]⟩) (.slice none 0 0) OA.o' hne5;have hk5:=kU (.int .i64 1) (.int .i64 T.ai[i].aN) (.string T.ai[i].ah) (.slice a2 l.length c2) (.string ⟨#[]⟩) (.slice none 0 0) KA.o' (.inr (ay _:w2.heap.size<=w2.heap.size));have Sc:=fZ ht5;unfold Om at ht5 ho5 hk5 Sc;generalize ((((((w4.setCell ⟨w2.heap.size,0,none⟩ (.int .i64 1)).setCell ⟨w2.heap.size,1,none⟩ (.int .i64 T.ai[i].aN)).setCell ⟨w2.heap.size,2,none⟩ (.string T.ai[i].ah)).setCell ⟨w2.heap.size,3,none⟩ (.slice a2 l.length c2)).setCell ⟨w2.heap.size,4,none⟩ (.string ⟨#[]⟩)).setCell ⟨w2.heap.size,5,none⟩ (.slice none 0 0))=w5 at *;clear ZA z0 z1 z2 z3 z4 z5 y0 y1 y2 y3 y4 y5;generalize hOe:w2.heap.size=O at ht5 Sc hne5 |-;have amZ:w2.heap.size<=O:=by omega
    clear hOe)
  |(have ht5:=eU w4 (.cells #[.int .i64 1,.int .i64 T.ai[i].aN,.string T.ai[i].ah,.slice a2 l.length c2,.string ⟨#[]⟩,.slice none 0 0] 26)
    have hne5: ∀k,(Value.slice a2 l.length c2).ownBlock=some k->k≠w4.heap.size:=λk hk=>Nat.ne_of_lt (OA.o'.lt k hk).2
    have ho5:=OA.o'.alloc (.cells #[.int .i64 1,.int .i64 T.ai[i].aN,.string T.ai[i].ah,.slice a2 l.length c2,.string ⟨#[]⟩,.slice none 0 0] 26);have hk5:=KA.o'.alloc (.cells #[.int .i64 1,.int .i64 T.ai[i].aN,.string T.ai[i].ah,.slice a2 l.length c2,.string ⟨#[]⟩,.slice none 0 0] 26);have amZ:w2.heap.size<=w4.heap.size:=KA.o'.size;have Sc:=fZ ht5;generalize w4.alloc (.cells #[.int .i64 1,.int .i64 T.ai[i].aN,.string T.ai[i].ah,.slice a2 l.length c2,.string ⟨#[]⟩,.slice none 0 0] 26)=w5 at *
    generalize w4.heap.size=O at *)
 all_goals
  clear K0 K1 K2 K3 K4 KA O1 O2 O3 Z2 Z3 B1 B3 E2 E3 L2 HA2 HAF W9 i0 hi0 hz0 hz1 hz2 b0 b1 OA;obtain⟨_,_,he2,s1,s2,s3,s4⟩:=aiT ho5 hne5;obtain⟨rfl,rfl⟩:_/\_:=by simpa only[QB,BD] using he2
  have KB:=hd' hk5;have HO5:=hd' ht5;have HA5:=hd' s4;have x6':=iw hk5 x6;have Xb:=hd' (aK HB2.o' (Dg hk5));have HR5:=hd' ((hk5.block w.heap.size (by omega) (λh=>h)).trans HR.o');have S3:=hd' s3.nil;have hOw:w.heap.size+1<O:=by omega
  clear hk5 ht5 ho5 hne5 s3 s4 x1 x2 x3 HR HXX HB2 he2;go_wp2_with fail
  have aq6:Hid (RD w5 O (.int .i64 1) (.int .i64 T.ai[i].aN) (.string T.ai[i].ah) (.slice a2 l.length c2) (.string ⟨#[]⟩) d T kl 0 none 0 [] w5):=hd' ⟨HO5.o',jY _ _ _ _,rfl,λj h=>by simp at h,az.refl _ _⟩;go_loopw [42] (λi' wr=> ∃k:Nat,k<=kl.length/\i'= .int .i64 k/\ ∃av cv css,RD w5 O (.int .i64 1) (.int .i64 T.ai[i].aN) (.string T.ai[i].ah) (.slice a2 l.length c2) (.string ⟨#[]⟩) d T kl k av cv css wr) (λi' _=>kl.length-(intOf i').toNat)
  case atStart=>exact⟨0,bD _,rfl,none,0,[],aq6.o'⟩
  case round =>
   obtain⟨k,hk,rfl,av,cv,css,hrd⟩:=hrel;have HRD:=hd' hrd;have nJ:=hd' (Xb.o'.trans (hrd.keep.below (B:=w.heap.size) (λb hb e=>by omega) Xb.o'.size));by_cases hlt2:k<kl.length
   ·obtain⟨b',o',rfl,e1⟩:=qY HKL.o' (az.bC nJ.o') _ _ (fw kl k hlt2);obtain⟨x,hx,hx1,hx2,hx3⟩:=HKD.o' k hlt2;rw[hx]at e1;have HI:=hd' (HIH.o' wr x hx1 hx2 hx3 (HT.o'.below nJ.o'));have HX:=hd' hx;clear hrd hx hx3;go_wp2_with fail
    refine HI.o'.mono ?_;rintro e w6 ⟨cs,rfl,hcs,hb6⟩;obtain⟨f0,f1,f2,f3,f4,f5,f6,f7,f8,f9,rfl⟩:=kV hcs;have akP:=HRD.o'.below hb6
    have am7:=(hcs.other (G:=λb=>b<w5.heap.size\/(Value.slice av k cv).ownBlock=some b) (λb _ hF=>by
     have h5:=HRD.o'.keep.size;rcases hF with hF|hF
     ·show b<wr.heap.size;omega
     ·exact(HRD.o'.own.lt b hF).2))
    have hb7:=((aQ w6.heap.size w6).alloc (ay _) (.cells (iF f0 f1 f2 f3 f4 f5 f6 f7 f8 f9).toArray 26));have hb8:=hb7.alloc (by simp) (.cells (iF f0 f1 f2 f3 f4 f5 f6 f7 f8 f9).toArray 26)
    have hc5:(w6.alloc (.cells (iF f0 f1 f2 f3 f4 f5 f6 f7 f8 f9).toArray 26)).cell? ⟨O,5,none⟩=some (.slice av k cv):=by
     rw[lF _ _ _ _ _ _ (akP.below hb7).cell];rfl
    have akO:=akP.below hb8
    have am6:gq (λb=>b<w5.heap.size\/(Value.slice av k cv).ownBlock=some b) ((w6.alloc (.cells (iF f0 f1 f2 f3 f4 f5 f6 f7 f8 f9).toArray 26)).alloc (.cells (iF f0 f1 f2 f3 f4 f5 f6 f7 f8 f9).toArray 26)) (iF f0 f1 f2 f3 f4 f5 f6 f7 f8 f9) (jg d T kl[k]):=by
     rw[HX.o'];exact am7.kept (az.bC hb8)
    have hN:((w6.alloc (.cells (iF f0 f1 f2 f3 f4 f5 f6 f7 f8 f9).toArray 26)).alloc (.cells (iF f0 f1 f2 f3 f4 f5 f6 f7 f8 f9).toArray 26)).heap[w6.heap.size+1]?=some (.cells (iF f0 f1 f2 f3 f4 f5 f6 f7 f8 f9).toArray 26 (0,0)):=vF (by simp);have HNW:=hd' (World.news_of_block hN);have adC:=hd' akO;have aoa:=hd' am6;have HBS:Hid (w5.heap.size<=((w6.alloc (.cells (iF f0 f1 f2 f3 f4 f5 f6 f7 f8 f9).toArray 26)).alloc (.cells (iF f0 f1 f2 f3 f4 f5 f6 f7 f8 f9).toArray 26)).heap.size):=hd' akO.keep.size;have g0:k+1<=maxLen:=by unfold maxLen;omega
    have g1:(k+1)*96<=140737488355328:=by omega
    obtain⟨i1,hi1,hy0,hy1,hy2⟩:=lY VI;clear akO am6 am7 hcs hN akP hb7 hb8 hb6 HRD;unfold iF at HNW adC aoa HBS hc5 |-;go_wp2_with (at_builtin;refine Qz _ rfl _ _ 24 rfl w5.heap.size 26 i1 _ 6 96 underlying24 hi1 hy0 hy1 hy2 rfl (by decide) (.slice av k cv) k css.flatten rfl adC.o'.own ⟨w6.heap.size+1,0,none⟩ 1 1 [.int .i64 f0,.int .i64 f1,.string f2,.slice f3 f4 f5,.string f6,.slice f7 f8 f9] rfl rfl HNW.o' (by simp[Value.oneCell']) (by omega) g0 g1 HBS.o' _ rfl ?_;intro gg agr w8 ajI akI anb auT;have aq5:=hd' (adC.o'.push Sc hlt2 aoa.o' akI anb ajI);have hO8:=(akI.block O (fZ adC.o'.cell) (λe=>by have:=ji adC.o'.own O e.symm;omega)).trans adC.o'.cell;have c8:=lF w8 O 5 _ _ _ hO8;have c8f:=vK w8 O 5 _ _ hO8;clear ajI akI anb hO8)
    go_roundw
    case rel=>exact⟨k+1,by omega,by go_num,_,_,_,aq5.o'⟩
    case measure=>simp[intOf];omega
   ·obtain rfl:k=kl.length:=by omega
    have hcell:=hrd.cell;obtain⟨⟨z0,z1,z2,z3,z4,z5⟩,_⟩:=kZ hcell;have hRr:=(hrd.keep.block w.heap.size (by omega) (by omega)).trans HR5.o';obtain⟨⟨t0,t1,t2,t3,t4,t5⟩,y0,y1,y2,y3,y4,y5⟩:=kZ hRr;have HE:=hd' (λu0 u1 u2 u3 u4 u5=>aer (R:=w.heap.size) (B:=w.heap.size) hrd Sc (by omega) (by omega) (by omega) (by omega) s1 s2 S3.o' HA5.o' u0 u1 u2 u3 u4 u5);have HG:=hd' (λu0 u1 u2 u3 u4 u5=>qp u0 u1 u2 u3 u4 u5 hRr);have HK:=hd' (λu0 u1 u2 u3 u4 u5=>kU (O:=w.heap.size) u0 u1 u2 u3 u4 u5 (az.refl (λb=>b=w.heap.size) wr) (.inl rfl));clear hrd hcell hRr;go_wp2_with fail
    refine bU (tu rfl _ _ w.heap.size _ _ _ _ (.int .i64 0) (by rfl) (by rfl) (HG.o' _ _ _ _ _ _) yD rfl qQ) rfl ?_;refine⟨_,rfl,HE.o' _ _ _ _ _ _,nJ.o'.trans ((HK.o' _ _ _ _ _ _).below (λb hb e=>by omega) nJ.o'.size)⟩
theorem Pj: ∀(d:Nat) (T:aB) (tb g:Nat) (w:af) (i:Nat),WF T->T.ai.length<=1000000->(∀d∈T.ai,d.aA.length<=1048576)->1<=i->i<T.ai.length->Deep d T i->eH w tb g T ->
 Calls prog 24 #[.pointer (some ⟨tb,0,none⟩),.int .i64 i] w λe w'=> ∃cs,e= .returned (.tuple #[.agg cs.toArray,.int .i64 0])/\gq (· <w.heap.size) w' cs (jg d T i)/\Below w.heap.size w w'
 |0,_,_,_,_,_,_,_,_,_,_,h,_=>h.elim
 |d+1,T,tb,g,w,i,hw,hl,ha,h1,hi,hd,h=>by
  cases he:T.ai[i].elem
  ·rw[EG d T i hi he];exact abV T tb g w i h1 hi he h
  ·rw[EH d T i hi he];have hk:=lS T i hi;refine abX T tb g w i h1 hi he h _ rfl (ha _ (kH hi)) d _ rfl ?_ ?_ ?_
   ·have:=rQ hw i hi;rw[hk]at this;omega
   ·intro j hj;have hm:T.ai[i].aP[j]∈aG T i:=by rw[hk];exact kH hj
    obtain⟨p1,p2,_⟩:=hw.kid i hi _ hm;obtain⟨x,hx⟩:=bQ (by omega:0<=T.ai[i].aP[j]);refine⟨x,hx,by omega,by omega,?_⟩;rw[<-hx];exact hd _ hm
   ·intro u x hx1 hx2 hx3 hT;exact Pj d T tb g u x hw hl ha hx1 hx2 hx3 hT
end Go.Proofs.YtnlbcifhedjbfaaGreatDoor
namespace Go.Proofs.YtnlbcifhedjbfaaGreatDoor
open Mem
mutual
def fT:NT->Nat
 | .mk _ _ _ _ _ aP=>1+gp aP
def gp:List NT->Nat
 | []=>0
 |x::r=>fT x+gp r
end
theorem uL: ∀(l:List NT) (x:NT),x∈l->fT x<=gp l
 | [],_,h=>by cases h
 |y::r,x,h=>by
  rw[gp];rcases dS.1 h with rfl|h
  ·omega
  ·have:=uL r x h;omega
theorem D6: ∀(l r:List NT),gp (l++r)=gp l+gp r
 | [],r=>by simp[gp]
 |x::l,r=>by
  rw[mq,gp,gp,D6 l r];omega
theorem Nz {α:Type} (f:α->NT): ∀(l:List α),gp (l.map f)=(l.map λx=>fT (f x)).sum
 | []=>rfl
 |x::l=>by
  rw[dX,gp,Nz f l,dX,Ld]
theorem Ml {T:aB} {r:Int->Nat} (hw:WF T) (hr: ∀i:Nat,i<T.ai.length->1<=aJ T i->r (aJ T i)<r i) {x m:Int} (hx:1<=x) (h:Reach T x m):m<T.ai.length->r x<=r m:=by
 induction h with
 |here=>exact λ_=>ay _
 | @up m h0 hh ih =>
   intro hm;obtain⟨i,rfl⟩:=bQ (by omega:0<=m);have hp:=hw.par i (by omega);have h1:=ih hp.2
   have hp1:1<=aJ T i:=by
    rcases mZ (aJ T i) 1 with h|h
    ·have:=(su (T:=T) (top:=x) (n:=aJ T i) (by omega)).1 hh;omega
    ·exact h
   have:=hr i (by omega) hp1;omega
theorem abY {T:aB} {x y m:Int} (hx:Reach T x m) (hy:Reach T y m):Reach T x y\/Reach T y x:=by
 induction hx with
 |here=>exact .inr hy
 | @up m h0 hh ih =>
   cases hy with
   |here=>exact .inl (.up h0 hh)
   |up _ hy'=>exact ih hy'
section
variable {T:aB} (hw:WF T)
include hw
theorem DX {n:Nat} (hn:n<T.ai.length) (h1:1<=n) {x:Int} (hx:x∈aG T n): ¬Reach T x n:=by
 intro h;obtain⟨p1,p2,p3⟩:=hw.kid n hn x hx;obtain⟨r,hr⟩:=hw.rank;obtain⟨i,rfl⟩:=bQ (by omega:0<=x);have h2:=Ml hw hr p1 h (by omega);have h3:=hr i (by omega) (by rw[p3];omega);rw[p3]at h3;omega
theorem abZ {n:Nat} {m:Int} (hm:m<T.ai.length) (hne:m≠n) (h:Reach T n m): ∃x,x∈aG T n/\Reach T x m:=by
 have key: ∀m:Int,Reach T n m->m<T.ai.length->m≠n-> ∃x,x∈aG T n/\Reach T x m:=by
  intro m hm
  induction hm with
  |here=>intro _ h;exact absurd rfl h
  | @up m h0 hh ih =>
    intro hlt _;obtain⟨i,rfl⟩:=bQ (by omega:0<=m);have hp:=hw.par i (by omega);by_cases he:aJ T i=n
    ·have:=hw.mem i (by omega) (by omega);rw[he]at this;exact⟨_,this,.here⟩
    ·obtain⟨x,hx,hr⟩:=ih hp.2 he;exact⟨x,hx,.up h0 hr⟩
 exact key m h hm hne
theorem acE {n:Nat} (hn:n<T.ai.length) {x m:Int} (hx:x∈aG T n) (h:Reach T x m):Reach T n m:=by
 obtain⟨p1,p2,p3⟩:=hw.kid n hn x hx
 induction h with
 |here=>exact .up (by omega) (by rw[p3];exact .here)
 |up h0 _ ih=>exact .up h0 ih
theorem aid {n:Nat} (hn:n<T.ai.length) (h1:1<=n) {x y m:Int} (hx:x∈aG T n) (hy:y∈aG T n) (hxm:Reach T x m) (hym:Reach T y m):x=y:=by
 have key: ∀ {x y:Int},x∈aG T n->y∈aG T n->Reach T x y->x=y:=by
  intro x y hx hy h;cases h with
  |here=>rfl
  |up h0 h =>
   rw[(hw.kid n hn y hy).2.2]at h;exact absurd h (DX hw hn h1 hx)
 rcases abY hxm hym with h|h
 ·exact key hx hy h
 ·exact(key hy hx h).symm
end
theorem Fq {α:Type} (P:α->Bool): ∀(l:List α),l.Nodup->(∀x∈l,∀y∈l,P x=true->P y=true->x=y)->(∃x∈l,P x=true)->l.countP P=1
 | [],_,_,⟨_,h,_⟩=>by cases h
 |a::r,hd,hu,hex=>by
  rw[mh]at hd;rw[Lt];by_cases ha:P a=true
  ·rw[au ha]
   have:r.countP P=0:=by
    rw[QV];intro x hx hp;have:=hu a dR x (gm _ hx) ha hp;subst this;exact hd.1 hx
   omega
  ·rw[aj ha];obtain⟨x,hx,hp⟩:=hex;rcases dS.1 hx with rfl|hx
   ·exact absurd hp ha
   ·have:=Fq P r hd.2 (λx hx y hy=>hu x (gm _ hx) y (gm _ hy)) ⟨x,hx,hp⟩;omega
theorem sum_add {α:Type} (f g:α->Nat): ∀l:List α,(l.map λx=>f x+g x).sum=(l.map f).sum+(l.map g).sum
 | []=>rfl
 |a::r=>by
  rw[dX,dX,dX,Ld,Ld,Ld,sum_add f g r];omega
theorem Z9 {α:Type} (P:α->Bool): ∀l:List α,(l.map λx=>if P x then 1 else 0).sum=l.countP P
 | []=>rfl
 |a::r=>by
  rw[dX,Ld,Z9 P r,Lt];omega
theorem NB {α β:Type} (P:β->α->Bool) (E:α->Bool) (Q:α->Bool) (ks:List β): ∀(M:List α),(∀a∈M,(if Q a then 1 else 0)=(if E a then 1 else 0)+ks.countP (λx=>P x a))->M.countP Q=M.countP E+(ks.map λx=>M.countP (P x)).sum
 | [],_=>by
   have: ∀l:List β,(l.map λ_=>0).sum=0:=by intro l;induction l <;>simp_all
   simp[this]
 |a::M,h=>by
  have ih:=NB P E Q ks M (λb hb=>h b (gm _ hb));have ha:=h a dR
  have hs:(ks.map λx=>(a::M).countP (P x)).sum=(ks.map λx=>M.countP (P x)).sum+ks.countP (λx=>P x a):=by
   have:(λx=>(a::M).countP (P x))=λx=>M.countP (P x)+(if P x a then 1 else 0):=by
    funext x;rw[Lt]
   rw[this,sum_add,Z9]
  rw[Lt,Lt,hs,ih,ha];omega
noncomputable def cntF (T:aB) (n:Int):Nat:=(List.range T.ai.length).countP λm:Nat=>decide (1<=m)&&gM T m n
theorem cntF_step {T:aB} (hw:WF T) {n:Nat} (hn:n<T.ai.length) (h1:1<=n):cntF T n=1+((aG T n).map (cntF T)).sum:=by
 have h:=NB (λ(x:Int) (m:Nat)=>decide (1<=m)&&gM T m x) (λm=>decide (m=n)) (λm=>decide (1<=m)&&gM T m n) (aG T n) (List.range T.ai.length) (by
  intro m hm;have hm':=List.mem_range.1 hm;by_cases hm1:1<=m
  ·have e1:decide (1<=m)=true:=by simpa using hm1
   simp only[e1,nW];by_cases he:m=n
   ·subst he
    have:(aG T m).countP (λx=>gM T m x)=0:=by
     rw[QV];intro x hx hb;exact DX hw hn hm1 hx (by simpa[ky] using hb)
    rw[this,lX .here];simp
   ·rw[aj (by simpa using he: ¬decide (m=n)=true)];by_cases hb:Reach T n m
    ·rw[lX hb,au rfl];obtain⟨x,hx,hxm⟩:=abZ hw (by omega) (by omega) hb;rw[Fq _ _ (hw.nodup n hn) (λx hx y hy p q=>aid hw hn h1 hx hy (by simpa[ky] using p) (by simpa[ky] using q)) ⟨x,hx,lX hxm⟩]
    ·have hb':gM T m n=false:=by simpa[ky] using hb
     rw[hb']
     have:(aG T n).countP (λx=>gM T m x)=0:=by
      rw[QV];intro x hx hh;exact hb (acE hw hn hx (by simpa[ky] using hh))
     rw[this];simp
  ·have e1:decide (1<=m)=false:=by simpa using hm1
   have:(aG T n).countP (λx=>decide (1<=m)&&gM T m x)=0:=by
    rw[QV];intro x _ hh;rw[e1]at hh;cases hh
   rw[this,e1];have:m≠n:=by omega
   simp[this])
 have h2:(List.range T.ai.length).countP (λm=>decide (m=n))=1 :=
  Fq _ _ List.nodup_range (λx _ y _ p q=>(zX p).trans (zX q).symm) ⟨n,List.mem_range.2 hn,by simp⟩
 rw[h2]at h;exact h
theorem Fp: ∀(d:Nat) (T:aB),WF T-> ∀i:Nat,1<=i->i<T.ai.length->Deep d T i->fT (jg d T i)=cntF T i
 |0,_,_,_,_,_,h=>h.elim
 |d+1,T,hw,i,h1,hi,h=>by
  rw[cntF_step hw hi h1];have hk:=lS T i hi;cases he:T.ai[i].elem
  ·rw[EG d T i hi he]
   have:aG T i= []:=by
    cases hc:aG T i with
    |nil=>rfl
    |cons x r =>
     have hh:=hw.holds i hi (by rw[hc];simp);simp only[dw,jD,cO]at hh;rcases hh with hh|hh
     ·omega
     ·rw[xO T i h1 hi,he]at hh;cases hh
   rw[this];rfl
  ·rw[EH d T i hi he,fT,<-hk,Nz];congr 1;congr 1;refine List.map_congr_left λx hx=> ?_
   obtain⟨p1,p2,_⟩:=hw.kid i hi x hx;obtain⟨j,rfl⟩:=bQ (by omega:0<=x);exact Fp d T hw j (by omega) (by omega) (h _ hx)
theorem aiP (T:aB) (n:Int):cntF T n<=T.ai.length:=by
 have:=List.countP_le_length (p:=λm:Nat=>decide (1<=m)&&gM T m n) (l:=List.range T.ai.length);simpa[cntF] using this
end Go.Proofs.YtnlbcifhedjbfaaGreatDoor
namespace Go.Proofs.YtnlbcifhedjbfaaGreatDoor
open Go.RowKit Mem
theorem Wi (l:List NT) (j:Nat) (h:j<l.length):gp (l.take (j+1))=gp (l.take j)+fT l[j]:=by
 have:l.take (j+1)=l.take j++ [l[j]]:=by rw[QN];simp[h]
 rw[this,D6];simp[gp]
theorem CF: ∀(l:List NT) (j:Nat),gp (l.take j)<=gp l
 | [],j=>by simp
 |x::r,0=>by simp[gp]
 |x::r,j+1=>by
  rw[Lc,gp,gp];have:=CF r j;omega
theorem uG {F:Nat->Prop} {w:af} {ka:Option Addr} {css:List (List ak)} {f0 f1:Int} {f2:ae} {f3:Option Addr} {f4 f5:Nat} {f6:ae} {f7:Option Addr} {f8 f9:Nat} (h6: ∀c∈css,c.length=6) (h:rX F w ka css.flatten) {j:Nat} (hj:j<css.length) (hc:css[j]=iF f0 f1 f2 f3 f4 f5 f6 f7 f8 f9) :
 ∃b o,ka=some ⟨b,o,none⟩/\w.cell? ⟨b,o+j*6,none⟩=some (.int .i64 f0)/\w.cell? ⟨b,o+j*6+1,none⟩=some (.int .i64 f1)/\w.cell? ⟨b,o+j*6+2,none⟩=some (.string f2)/\w.cell? ⟨b,o+j*6+3,none⟩=some (.slice f3 f4 f5)/\w.cell? ⟨b,o+j*6+4,none⟩=some (.string f6)/\w.cell? ⟨b,o+j*6+5,none⟩=some (.slice f7 f8 f9):=by
 have key: ∀f u,f<6->(iF f0 f1 f2 f3 f4 f5 f6 f7 f8 f9)[f]?=some u-> ∃b o,ka=some ⟨b,o,none⟩/\w.cell? ⟨b,o+j*6+f,none⟩=some u:=by
  intro f u hf hu;obtain⟨b,o,e,_,hcell⟩:=h (j*6+f) u (by rw[Jg css j f hj h6 hf,hc];exact hu);exact⟨b,o,e,by rw[show o+j*6+f=o+(j*6+f)from by omega];exact hcell⟩
 obtain⟨b,o,rfl,c0⟩:=key 0 _ (by omega) rfl;obtain⟨_,_,e,c1⟩:=key 1 _ (by omega) rfl;cases e;obtain⟨_,_,e,c2⟩:=key 2 _ (by omega) rfl;cases e;obtain⟨_,_,e,c3⟩:=key 3 _ (by omega) rfl;cases e;obtain⟨_,_,e,c4⟩:=key 4 _ (by omega) rfl;cases e;obtain⟨_,_,e,c5⟩:=key 5 _ (by omega) rfl;cases e;exact⟨b,o,rfl,c0,c1,c2,c3,c4,c5⟩
def Lm (m:Int) (T:aB):Prop:=(T.ai.length:Int)<=m+1/\T.gy=m
theorem YF {m:Int} {T:aB} (d:ND) (h:Lm m T):Lm m (qz T d).1:=by
 unfold qz;split
 ·rename_i hh;obtain⟨h1,h2⟩:=h;refine⟨?_,h2⟩;simp only[bL,fC,sS];omega
 ·exact h
theorem Gy {m:Int} {T:aB} (n:Int) (h:Lm m T):Lm m (dm T n).1:=by
 unfold dm;split
 ·exact YF _ h
 ·exact h
theorem F6 {m:Int} {T:aB} (a b n:Int) (h:Lm m T):Lm m (fe T a b n).1:=by
 unfold fe;split
 ·exact⟨by rw[qa];exact h.1,by rw[IQ];exact h.2⟩
 ·exact h
theorem ae3 {m:Int} {T:aB} (a b:Int) (h:Lm m T):Lm m (kD T a b).1:=by
 unfold kD;split
 ·have: ∀(l:List Int) (T:aB),Lm m T->Lm m (moveF T b l):=by
   intro l
   induction l with
   |nil=>exact λ_ h=>h
   |cons x r ih=>exact λT h=>ih _ (F6 _ _ _ h)
  exact this _ _ h
 ·exact h
theorem Ui {m:Int} {T:aB} (a b:Int) (s:ae) (h:Lm m T):Lm m (iG T a b s).1:=by
 unfold iG;split
 ·split
  ·exact h
  ·unfold vR;split
   ·exact⟨by rw[gU];exact h.1,h.2⟩
   ·split
    ·rename_i hh;obtain⟨h1,h2⟩:=h;refine⟨?_,h2⟩;rw[nN];simp only[bL,fC,sS];omega
    ·exact h
 ·exact h
end Go.Proofs.YtnlbcifhedjbfaaGreatDoor
namespace Go.Proofs.YtnlbcifhedjbfaaGreatDoor
open Go Mem
theorem EI {T:aB} {u n:Int} (h:Reach T u n) (h0:0<u):Reach T (aJ T u) n:=by
 induction h with
 |here=>exact .up h0 .here
 |up h1 _ ih=>exact .up h1 ih
end Go.Proofs.YtnlbcifhedjbfaaGreatDoor
end
section
namespace Go.Proofs.YtnlbcifhedjbfaaGreatDoor
open Go.RowKit Mem
def mvN (T:aB) (a b:Int) (P R:List Int) (i:Nat) (d:ND):ND :=
 {d with parent:=if(i:Int)∈P then b else d.parent,aP:=if(i:Int)=b then aG T b++P else if(i:Int)=a then R else d.aP}
def MV (T:aB) (a b:Int) (P R:List Int):aB:=⟨T.ai.mapIdx (mvN T a b P R),T.gy,T.jV⟩
theorem N9 (T:aB) (a b:Int) (P R:List Int):(MV T a b P R).ai.length=T.ai.length:=by simp[MV]
theorem JE (T:aB) (a b:Int) (P R:List Int) (i:Nat):(MV T a b P R).ai[i]?=T.ai[i]?.map (mvN T a b P R i):=by simp[MV]
theorem Tq {T:aB} {a b:Int} {P R:List Int} (i:Nat) (hi:i<T.ai.length):aG (MV T a b P R) i=if(i:Int)=b then aG T b++P else if(i:Int)=a then R else aG T i:=by
 simp only[aG,kg,JE,mi hi];rfl
theorem JD {T:aB} {a b:Int} {P R:List Int} (i:Nat) (hi:i<T.ai.length):aJ (MV T a b P R) i=if(i:Int)∈P then b else aJ T i:=by
 simp only[aJ,kg,JE,mi hi];rfl
theorem abb (T:aB) (a b:Int) (P R:List Int) (i:Int):aY (MV T a b P R) i=aY T i:=by
 have h:xF (MV T a b P R) i=xF T i:=by simp[xF,N9]
 simp only[aY,h,JE];cases T.ai[i.toNat]? <;>rfl
theorem agM (T:aB) (a b:Int) (P R:List Int) (i:Int):dw (MV T a b P R) i=dw T i:=by simp only[dw,abb]
theorem BP {T U:aB} (hm:T.gy=U.gy) (hf:T.jV=U.jV) (h: ∀i:Nat,T.ai[i]?=U.ai[i]?):T=U:=by
 obtain⟨n1,m1,f1⟩:=T;obtain⟨n2,m2,f2⟩:=U;simp only[aB.mk.injEq];exact⟨QR h,hm,hf⟩
theorem aja (T:aB) (a b:Nat):MV T a b [] (aG T a)=T:=by
 refine BP rfl rfl λi=> ?_
 rw[JE];cases h:T.ai[i]? with
 |none=>rfl
 |some d =>
  have hk:aG T i=d.aP:=by simp[aG,h]
  simp only[sP,mvN,mY,dM,kI,dQ];cases d;simp only[ND.mk.injEq,BD];split
  ·rename_i e;rw[<-e,hk]
  ·split
   ·rename_i e;rw[<-e,hk]
   ·rfl
theorem agL {T:aB} (hw:WF T) {a b:Nat} {P R:List Int} (hb:b<T.ai.length) (hP: ∀x∈P,aJ T x=a/\1<=x) (hab:gM T b a=false) {k:Int} (h:Reach (MV T a b P R) k b):Reach T k b:=by
 have hna: ¬Reach T a b:=by
  intro h;rw[lX h]at hab;cases hab
 have key: ∀m:Int,Reach (MV T a b P R) k m->m<T.ai.length->Reach T m b->Reach T k b:=by
  intro m hm
  induction hm with
  |here=>exact λ_ h=>h
  | @up m h0 _ ih =>
    intro hlt hr;obtain⟨i,rfl⟩:=bQ (by omega:0<=m);have hi:i<T.ai.length:=by omega
    have hnP: ¬(i:Int)∈P:=by
     intro hp;have h2:=EI hr h0;rw[(hP _ hp).1]at h2;exact hna h2
    rw[JD i hi,aj hnP]at ih;exact ih (hw.par i hi).2 (EI hr h0)
 exact key b h (by omega) .here
theorem alb {T:aB} (hw:WF T) {a b k:Nat} {P R:List Int} (ha:a<T.ai.length) (hb:b<T.ai.length) (hL:aG T a=P++(k:Int)::R) (TD:dw T b=true) (hab:gM T b a=false) :
 fe (MV T a b P (k::R)) b 0 k=(MV T a b (P++ [(k:Int)]) R,0):=by
 have hne:a≠b:=by
  rintro rfl;rw[lX .here]at hab;cases hab
 have hnd:=hw.nodup a ha;have P6:=hw.kid a ha;rw[hL]at hnd P6;obtain⟨hk1,hk2,hk3⟩:=P6 k (by simp)
 have hkP: ¬(k:Int)∈P:=λh=>by
  have:=(oK.1 hnd).2.2 _ h (k:Int) (by simp);exact this rfl
 have hkR: ¬(k:Int)∈R:=(mh.1 (oK.1 hnd).2.1).1;have hkl:k<T.ai.length:=by omega
 have hkb:k≠b:=by
  rintro rfl;have h:=lX (T:=T) (n:=(k:Int)) (top:=(a:Int)) (.up (by omega) (by rw[hk3];exact .here));rw[hab]at h;cases h
 have ang: ∀x∈P,aJ T x=a/\1<=x:=λx hx=>by
  obtain⟨h1,_,h3⟩:=P6 x (sQ _ hx);exact⟨h3,h1⟩
 have hok:nu (MV T a b P (k::R)) b 0 k=true:=by
  simp only[nu,cz,agM,TD,Af,mX,BD,jJ];refine⟨⟨⟨?_,by omega⟩,?_⟩,?_⟩
  ·simp only[xF,N9,cz,mX];omega
  ·rw[eT,au rfl];omega
  ·cases hbf:gM (MV T a b P (k::R)) b k
   ·rfl
   ·exfalso;have hr:Reach (MV T a b P (k::R)) (k:Int) (b:Int):=by simpa[ky] using hbf
    have h2:=agL hw hb ang hab hr;have h3:=EI h2 (by omega);rw[hk3]at h3;rw[lX h3]at hab;cases hab
 rw[fe,hok,au rfl];have hpk:aJ (MV T a b P (k::R)) k=a:=by rw[JD k hkl,aj hkP,hk3]
 have hka:aG (MV T a b P (k::R)) a=(k:Int)::R:=by rw[Tq a ha,aj (by omega),au rfl]
 have hkb':aG (MV T a b P (k::R)) b=aG T b++P:=by rw[Tq b hb,au rfl]
 have hfil:((k:Int)::R).filter (· !=(k:Int))=R:=by
  rw[Iy (by simp)]
  exact Eo.2 λx hx=>by
   rw[jJ];rintro rfl;exact hkR hx
 have hT1:iD (MV T a b P (k::R)) k=iK (MV T a b P (k::R)) a (iC R):=by
  rw[iD,hpk,au (by omega),hka,hfil]
 have hkb2:aG (bG (MV T a b P (k::R)) k) b=aG T b++P:=by
  rw[bG,hT1,vU _ k _ b (by rw[gU,N9];exact hb),zI _ a _ b (by rw[N9];exact hb),aj hne,hkb']
 have hins:kr (MV T a b P (k::R)) b 0 k=iK (iK (iK (iK (MV T a b P (k::R)) a (iC R)) k (fo (-1))) b (iC (aG T b++P++ [(k:Int)]))) k (fo b):=by
  rw[kr,eF,eT,au rfl,hkb2,kg,QM,Lp,bG,hT1]
 rw[hins];refine Prod.ext ?_ rfl;refine BP rfl rfl λi=> ?_
 simp only[zD,JE];cases hd:T.ai[i]? with
 |none=>simp
 |some d =>
  have e1:((i:Int)=(b:Int))↔b=i:=by omega
  have e2:((i:Int)=(a:Int))↔a=i:=by omega
  have e3:((i:Int)=(k:Int))↔k=i:=by omega
  by_cases hik:k=i
  ·subst hik;rw[au rfl,aj (Ne.symm hkb),au rfl];by_cases hia:a=k
   ·subst hia;simp only[sP,au,mvN,iC,fo,fB,dG,or_true,dQ,ND.mk.injEq,BD];rw[aj (by omega)]
   ·simp[mvN,fo,hia,e1,e2,Ne.symm hkb]
  ·rw[aj hik];by_cases hib:b=i
   ·subst hib;simp[mvN,iC,hik,hne,e3]
   ·rw[aj hib];by_cases hia:a=i
    ·subst hia;simp[mvN,iC,hik,e1,e3,hib]
    ·simp[mvN,hik,hib,hia,e1,e2,e3]
theorem aba {T:aB} (hw:WF T) {a b:Nat} (ha:a<T.ai.length) (hb:b<T.ai.length) (TD:dw T b=true) (hab:gM T b a=false) :
 ∀(R P:List Int),aG T a=P++R->moveF (MV T a b P R) b R=MV T a b (P++R) []
 | [],P,_=>by simp[moveF]
 |x::R,P,hL=>by
  have h1:=hw.kid a ha x (by rw[hL];simp);obtain⟨k,rfl⟩:=bQ (by omega:0<=x);have h2:=alb hw ha hb hL TD hab;have h3:=aba hw ha hb TD hab R (P++ [(k:Int)]) (by rw[hL];simp);have h4:moveF (MV T a b P ((k:Int)::R)) b ((k:Int)::R)=moveF (fe (MV T a b P ((k:Int)::R)) b 0 k).1 b R:=rfl;rw[h4,h2,h3];simp
theorem acr {T:aB} (hw:WF T) {a b:Nat} (ha:a<T.ai.length) (hb:b<T.ai.length) (TD:dw T b=true) (hab:gM T b a=false):moveF T b (aG T a)=MV T a b (aG T a) []:=by
 have h:=aba hw ha hb TD hab (aG T a) [] rfl;rw[aja]at h;exact h
end Go.Proofs.YtnlbcifhedjbfaaGreatDoor
end
section
namespace Go.Proofs.YtnlbcifhedjbfaaGreatDoor
open Go.RowKit Mem
def ja (F:Nat->Prop) (T:aB):aB:=⟨T.ai,T.gy,F⟩
theorem Vp (F:Nat->Prop) (T:aB) (d:ND):qz (ja F T) d=(ja F (qz T d).1,(qz T d).2):=by
 unfold qz;by_cases h:(T.ai.length:Int)-1<T.gy
 ·rw[au h,au (show((ja F T).ai.length:Int)-1<(ja F T).gy from h)];rfl
 ·rw[aj h,aj (show ¬((ja F T).ai.length:Int)-1<(ja F T).gy from h)]
theorem YL (F:Nat->Prop) (T:aB) (n:Int):dm (ja F T) n=(ja F (dm T n).1,(dm T n).2):=by
 unfold dm;have he:aY (ja F T) n=aY T n:=rfl;rw[he];cases aY T n
 ·rfl
 ·exact Vp F T _
theorem Kg (F:Nat->Prop) (T:aB) (n top:Int):gM (ja F T) n top=gM T n top:=by
 rw[rG];simp only[ky,mX,Ye];rfl
theorem RU (F:Nat->Prop) (T:aB) (n:Int):iD (ja F T) n=ja F (iD T n):=by
 unfold iD;have hp:aJ (ja F T) n=aJ T n:=rfl;rw[hp];split <;>rfl
theorem XM (F:Nat->Prop) (T:aB) (n:Int):bG (ja F T) n=ja F (bG T n):=by rw[bG,RU];rfl
theorem Po (F:Nat->Prop) (T:aB) (a b n:Int):fe (ja F T) a b n=(ja F (fe T a b n).1,(fe T a b n).2):=by
 unfold fe
 have he:nu (ja F T) a b n=nu T a b n:=by
  unfold nu;rw[Kg];rfl
 rw[he];split
 ·rw[kr,XM];rfl
 ·rfl
theorem XI (F:Nat->Prop) (T:aB) (a b:Int) (s:ae):iG (ja F T) a b s=(ja F (iG T a b s).1,(iG T a b s).2):=by
 unfold iG;have h1:dw (ja F T) a=dw T a:=rfl;have h2:eT (ja F T) a b=eT T a b:=rfl;rw[h1,h2];split
 ·split
  ·rfl
  ·unfold vR;rw[h2];have h3: ∀i,aY (ja F T) (oU (ja F T) a i)=aY T (oU T a i):=λ_=>rfl
   have h4:(ja F T).ai.length=T.ai.length:=rfl;have h5:(ja F T).gy=T.gy:=rfl;simp only[h3,h4,h5];split
   ·rfl
   ·split <;>rfl
 ·rfl
theorem MQ (F:Nat->Prop) (b:Int): ∀(l:List Int) (T:aB),moveF (ja F T) b l=ja F (moveF T b l)
 | [],_=>rfl
 |x::r,T=>by
  show moveF (fe (ja F T) b 0 x).1 b r=ja F (moveF (fe T b 0 x).1 b r);rw[Po];exact MQ F b r _
theorem YC (F:Nat->Prop) (T:aB) (a b:Int):kD (ja F T) a b=(ja F (kD T a b).1,(kD T a b).2):=by
 unfold kD;have h1: ∀x,dw (ja F T) x=dw T x:=λ_=>rfl
 have h2:aG (ja F T) a=aG T a:=rfl;rw[h1,h1,h2,Kg,MQ];split <;>rfl
def Own (w0:af) (ex:Nat->Prop):Nat->Prop:=λk=>w0.heap.size<=k/\ ¬ex k
def aS:ae:=(⟨#[97]⟩:ae)
def aqg:ae:=(⟨#[98]⟩:ae)
def cS:ae:=(⟨#[99]⟩:ae)
def R3:aB:=⟨[ve,fQ 0 aS [],fQ 0 aqg [],fQ 0 cS []],9,MJ⟩
theorem ahJ (gy:Int):WF ⟨[ve],gy,MJ⟩:=by
 refine⟨Nat.one_pos,rfl,?_,?_,?_,?_,⟨λ_=>0,?_⟩,?_⟩ <;>intro i hi <;>simp at hi <;>subst hi
 ·simp[aJ,ve]
 ·intro k hk;simp[aG,ve]at hk
 ·intro h;simp[aJ,ve]at h
 ·simp[aG,ve]
 ·intro h;simp[aJ,ve]at h
 ·intro h;simp[aG,ve]at h
section
variable {w0 w w':af} {B B' rb gn gk gn' gk':Nat} {ex jV:Nat->Prop} {T T':aB}
theorem Vm (b:Int): ∀(l:List Int) (T:aB),WF T->WF (moveF T b l)/\(moveF T b l).ai.length=T.ai.length/\(moveF T b l).gy=T.gy
 | [],_,h=>⟨h,rfl,rfl⟩
 |x::r,T,h=>by
  have h1:=aaj h b 0 x;have h2:=Vm b r (fe T b 0 x).1 h1.1;exact⟨h2.1,h2.2.1.trans h1.2.1,h2.2.2.trans h1.2.2⟩
theorem ae2 {T:aB} (hw:WF T) (a b:Int):WF (kD T a b).1/\(kD T a b).1.ai.length=T.ai.length/\(kD T a b).1.gy=T.gy:=by
 unfold kD;split
 ·exact Vm b _ T hw
 ·exact⟨hw,rfl,rfl⟩
end
end Go.Proofs.YtnlbcifhedjbfaaGreatDoor
end
