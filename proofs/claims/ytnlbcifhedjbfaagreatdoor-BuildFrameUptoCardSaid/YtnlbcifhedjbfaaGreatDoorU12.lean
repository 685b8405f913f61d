/- oZ joined for a claim: FrK, arG, BuA, CuB, CuC, CuD, CuE, CuF, CuG: plain laws and contracts. No conditions beyond those that each lemma types. -/
import Derived.Test.YtnlbcifhedjbfaaGreatDoorU11
import Derived.Test.YtnlbcifhedjbfaaGreatDoorU08
import Derived.Laws.RangeAny
import Derived.Shelf.Strings.Prefix
import Derived.Shelf.Strings.SlTrimAscii
set_option linter.unusedVariables false
set_option linter.unusedSimpArgs false
set_option maxRecDepth 100000
set_option maxHeartbeats 8000000
open Go.Proofs.Tryz
namespace Go.Proofs.YtnlbcifhedjbfaaGreatDoor
section
open Go.RowKit Mem
structure GM (H:List Int) (V:ae) (c:Bool) (b:aC):Prop where
 jf:JF H false V c b
 md:(4<=b.aD/\b.aD≠5/\(b.aD=11->c=true))\/(b.aD=5/\4<=b.mV/\b.mV≠5/\(b.mV=11->c=true)/\R5 b/\V=⟨#[]⟩)
def GPk (H:List Int) (k:Int) (b:aC):Prop:= ∃V c,GM H V c b/\(k≠1->V=⟨#[]⟩)
structure SG (H:List Int) (k:Int) (r:aC×aO×Bool):Prop where
 pg:GPk H k r.1
 kd:r.2.1.aH=k
section
variable {b:aC} {m:aO} {H:List Int} {o c:Bool} {V nm:ae} {names N S:List ae} {x n k:Int} {t:Bool}
theorem JF.GX (h:JF H o V c b) {s:List Int} (hk:b.dJ=0-> ∃A,b.S.l.reverse=A++s/\s≠ []/\(c=true-> ∀y∈A,nI b.S.T y=false)):JF H o V c (b.oP s.reverse):=by
 refine⟨h.hH,h.on,h.wt,λhb=> ?_,λhb hc=> ?_,h.er,h.lm⟩
 ·obtain⟨A,e1,hne, -⟩:=hk hb;have hs:s <:+b.S.l.reverse:=⟨A,e1.symm⟩;obtain⟨m,hm⟩:=aaa hs;have hf:=(h.fa hb).fr;have hd:=afT hf.hd hs hne;rw[hm]at hf;exact⟨hf.pre hd,(h.fa hb).en⟩
 ·obtain⟨A,e1, -,hcl⟩:=hk hb;obtain⟨y,hy,hcy⟩:=h.ce hb hc;refine⟨y,?_,hcy⟩;show y∈s.reverse;have hy':=jM.2 hy;rw[e1]at hy';rcases fB.1 hy' with hy'|hy'
  ·rw[hcl hc y hy']at hcy;cases hcy
  ·exact jM.2 hy'
theorem Jm (T:aB) (names:List ae): ∀r,lh T names r <:+r
 | []=>wZ _
 |x::r=>by
  rw[lh];split
  ·exact wZ _
  ·exact(Jm T names r).trans (vL _ _)
theorem Jn {T:aB} (hx:aI T x names=true): ∀r:List Int,x∈r->x∈lh T names r
 | [],h=>by cases h
 |y::r,h=>by
  rw[lh];split
  ·exact h
  ·rename_i hy;rcases dS.1 h with rfl|h
   ·exact absurd hx hy
   ·exact Jn hx r h
theorem Wo {T:aB}: ∀r:List Int,lh T names r≠ []-> ∃y s,lh T names r=y::s/\aI T y names=true
 | [],h=>absurd rfl h
 |y::r,h=>by
  rw[lh]at h |-;by_cases hy:aI T y names=true
  ·rw[au hy];exact⟨y,r,rfl,hy⟩
  ·rw[aj hy]at h |-;exact Wo r h
theorem acb {T:aB} {l:List Int} (h:FR H T l) (hn:fU names (⟨#[104,116,109,108]⟩:ae)=true):aI T 1 names=true:=by
 unfold aI;rw[h.tr.e1,h.tr.s1,h.tr.n1,hn];rfl
theorem JF.clear (h:JF H o V c b) (hn:fU names (⟨#[104,116,109,108]⟩:ae)=true):JF H o V false (b.clear' names)/\(b.dJ=0->aI b.S.T (b.clear' names).top names=true/\ ∀x∈b.S.l,aI b.S.T x names=true->x≠1->(b.clear' names).top≠1):=by
 have hne:b.dJ=0->lh b.S.T names b.S.l.reverse≠ []:=λhb e=>by
  obtain⟨r,hr⟩:=(h.fa hb).fr.hd;have:=Jn (acb (h.fa hb).fr hn) b.S.l.reverse (by rw[hr];simp);rw[e]at this;cases this
 refine⟨h.less.GX λhb=> ?_,λhb=> ?_⟩
 ·obtain⟨A,e⟩:=Jm b.S.T names b.S.l.reverse;exact⟨A,e.symm,hne hb,λhh=>by cases hh⟩
 ·obtain⟨y,s,e,hy⟩:=Wo _ (hne hb)
  have ht:(b.clear' names).top=y:=by
   show(lh b.S.T names b.S.l.reverse).reverse.getLast?.getD 0=y;rw[e];simp
  rw[ht];refine⟨hy,λx hx hxn hx1 hy1=>hx1 ?_⟩;subst hy1;have hxs:=Jn hxn b.S.l.reverse (jM.2 hx);obtain⟨A,e2⟩:=Jm b.S.T names b.S.l.reverse;rw[e]at hxs e2;obtain⟨r,hr⟩:=(h.fa hb).fr.hd;have hnd:=uD (h.fa hb).fr.pt
  have e3:b.S.l=s.reverse++1::A.reverse:=by
   rw[<-vM b.S.l,<-e2];simp
  have hs:s.reverse= []:=(sw (L':= []) (M':=r) (by rw[<-e3];exact hnd) (by rw[<-e3,hr];rfl));rw[Xc]at hs;rw[hs]at hxs;exact dG.1 hxs
theorem akm (h:JF H o V c b) (hb:b.dJ=0) (hx:aI b.S.T x [⟨#[104,116,109,108]⟩]=true):x=1:=(h.fa hb).fr.tr.nh x hx
theorem JF.row (h:JF H false V c b) (ht:b.dJ=0->aI b.S.T b.top N=true) (hN:(N.all λy=>fU lC y||fU [⟨#[104,116,109,108]⟩] y)=true) (h2:fU [⟨#[104,101,97,100]⟩,⟨#[98,111,100,121]⟩,⟨#[104,116,109,108]⟩] nm=false) (at':List dD):JF H false V c (b.ins nm at'):=by
 refine(h.jv 0 at' (λ_ _ hb=>⟨rfl,?_⟩) (λ_ _=>rfl) λ_=>h2).1;obtain⟨k1,k2,k3⟩:=kC (ht hb);obtain⟨y,hy,he⟩:=nU.1 k3;have:=qF.1 hN y hy;rw[jD]at this;rcases this with q|q
 ·left;unfold aI;rw[k1,k2,og (eq_of_beq he),q];rfl
 ·right;refine akm h hb ?_;unfold aI;rw[k1,k2,og (eq_of_beq he),q];rfl
theorem JF.pg (h:JF H false V c b) (hV:k≠1->V=⟨#[]⟩) (h4:4<=b.aD/\b.aD≠5/\(b.aD=11->c=true)):GPk H k b:=⟨V,c,⟨h,.inl h4⟩,hV⟩
theorem JM.pg (h:JM H false V c n b) (hV:k≠1->V=⟨#[]⟩) (hk:k=1->b.aD=n) (hn:4<=n/\n≠5/\(n=11->c=true)):GPk H k b:=by
 refine⟨V,c,⟨h.jf,?_⟩,hV⟩;rcases h.mx with e|e|e|⟨e,e2,e3⟩
 ·rw[e];exact .inl hn
 ·rw[e];exact .inl ⟨by decide,by decide,λh=>absurd h (by decide)⟩
 ·rw[e];exact .inl ⟨by decide,by decide,λh=>absurd h (by decide)⟩
 ·refine .inr ⟨e,by rw[e2];exact hn.1,by rw[e2];exact hn.2.1,by rw[e2];exact hn.2.2,e3,hV λh1=> ?_⟩;have:=hk h1;rw[e]at this;exact hn.2.1 this.symm
theorem SG.eX {p:Prop} [Decidable p] {r q:aC×aO×Bool} (h1:p->SG H k r) (h2: ¬p->SG H k q):SG H k (if p then r else q):=by
 by_cases h:p
 ·rw[au h];exact h1 h
 ·rw[aj h];exact h2 h
theorem Yr (b:aC) (m:aO):(b.opens m).2.aH=m.aH:=by
 have hi: ∀ {p:Prop} [Decidable p] {r q:aC×aO},r.2.aH=m.aH->q.2.aH=m.aH->(if p then r else q).2.aH=m.aH:=fun {p _ r q} h1 h2=>by
  by_cases h:p
  ·rw[au h];exact h1
  ·rw[aj h];exact h2
 rw[aC.opens.eq_1];refine hi rfl (hi rfl (hi rfl (hi rfl (hi rfl (hi rfl (hi rfl (hi ?_ (hi rfl (hi rfl rfl)))))))));show(if m.ah.toList==([105,109,97,103,101]:List ax)then {m with ah:=(⟨#[105,109,103]⟩:ae)}else m:aO).aH=m.aH;split <;>rfl
theorem uM (m:aO):(aC.bR m).aH=m.aH:=by
 unfold aC.bR;split <;>rfl
theorem J3 (b:aC) (m:aO):(b.eO m).2.1.aH=m.aH:=by
 rw[aC.eO.eq_1];split
 ·rfl
 ·split
  ·exact Yr b m
  ·split <;>rfl
theorem J2 (b:aC) (m:aO) (hk:m.aH=1):(b.eO m).1.aD=b.aD:=by
 rw[aC.eO.eq_1,au (by rw[hk];rfl)];exact(vT _ _).trans (gI b)
theorem JF.body (h:JF H false V c b) (hV:m.aH≠1->V=⟨#[]⟩) (hn:4<=b.aD/\b.aD≠5/\(b.aD=11->c=true)) (h3:c=true->m.aH=3->fU oW m.ah=false):SG H m.aH (b.eO m) :=
 ⟨(h.eO rfl m (λ_ _=>rfl) h3).pg hV (J2 b m) hn,J3 b m⟩
theorem JF.sg (h:JF H false V c b) (hV:m.aH≠1->V=⟨#[]⟩) (hn:4<=b.aD/\b.aD≠5/\(b.aD=11->c=true)):SG H m.aH (b,m,t):=⟨h.pg hV hn,rfl⟩
theorem ae' {b r:aC} (h:4<=b.aD/\b.aD≠5/\(b.aD=11->c=true)) (e:r.aD=b.aD):4<=r.aD/\r.aD≠5/\(r.aD=11->c=true):=by rw[e];exact h
theorem I5 {k:Int} (h:(4<=k/\k≠5/\k≠11)):4<=k/\k≠5/\(k=11->c=true):=⟨h.1,h.2.1,λe=>absurd e h.2.2⟩
theorem uz (h:cB m S=true) (hN:(N.all λy=> !fU S y)=true):fU N m.ah=false:=jq (rY h) hN
theorem PN {T:aB}: ∀r:List Int,(∀x∈r,aY T x=true)->(4<=aC.jO T r/\aC.jO T r≠5)/\(aC.jO T r=11-> ∃x∈r,nI T x=true)
 | [],_=>⟨⟨show(4:Int)<=4 by decide,show(4:Int)≠5 by decide⟩,λh=>absurd (show(4:Int)=11 from h) (by decide)⟩
 |x::r,he=>by
  have ih:=PN r λy hy=>he y (gm _ hy)
  have up:(4<=aC.jO T r/\aC.jO T r≠5)/\(aC.jO T r=11-> ∃y∈x::r,nI T y=true):=⟨ih.1,λh=>by
   obtain⟨y,hy,hc⟩:=ih.2 h
   exact⟨y,gm _ hy,hc⟩⟩
  rw[aC.jO];split
  ·exact up
  ·rename_i h0;split
   ·rename_i hn;refine⟨⟨by decide,by decide⟩,λ_=>⟨x,dR,?_⟩⟩
    have hw:fU oW (bq T x)=true:=by
     rw[jD]at hn;rcases hn with hn|hn
     ·exact(Dm hn (w:=(⟨#[116,100]⟩:ae)) (by kernel_rfl)).trans (by kernel_rfl)
     ·exact(Dm hn (w:=(⟨#[116,104]⟩:ae)) (by kernel_rfl)).trans (by kernel_rfl)
    unfold nI aI;rw[he x dR,hw,show aX T x=0 from Decidable.not_not.1 h0];rfl
   ·split
    ·exact⟨⟨by decide,by decide⟩,λh=>absurd h (by decide)⟩
    ·split
     ·exact⟨⟨by decide,by decide⟩,λh=>absurd h (by decide)⟩
     ·split
      ·exact⟨⟨by decide,by decide⟩,λh=>absurd h (by decide)⟩
      ·split
       ·exact⟨⟨by decide,by decide⟩,λh=>absurd h (by decide)⟩
       ·split
        ·exact⟨⟨by decide,by decide⟩,λh=>absurd h (by decide)⟩
        ·split
         ·exact⟨⟨by decide,by decide⟩,λh=>absurd h (by decide)⟩
         ·exact up
theorem PM (T:aB): ∀r:List Int,4<=aC.jO T r/\aC.jO T r≠5
 | []=>⟨show(4:Int)<=4 by decide,show(4:Int)≠5 by decide⟩
 |x::r=>by
  rw[aC.jO]
  repeat' split
  all_goals first|exact PM T r|exact⟨by decide,by decide⟩
theorem JF.reset (h:JF H false V false b) (hV:k≠1->V=⟨#[]⟩):GPk H k b.reset:=by
 have h0:=PM b.S.T b.S.l.reverse;by_cases hm:aC.jO b.S.T b.S.l.reverse=11
 ·refine⟨V,true,⟨⟨h.hH,h.on,h.wt,h.fa,λhb _=> ?_,h.er,h.lm⟩,.inl ⟨h0.1,h0.2,λ_=>rfl⟩⟩,hV⟩;obtain⟨x,hx,hc⟩:=(PN b.S.l.reverse λx hx=>(h.fa hb).fr.el x (jM.1 hx)).2 hm;exact⟨x,jM.1 hx,hc⟩
 ·exact(h.goto _).pg hV ⟨h0.1,h0.2,λe=>absurd e hm⟩
theorem JF.iJ (h:JF H o V c b) (W:ae):JF H o W c {b with iJ:=W}:=⟨h.hH,h.on,rfl,h.fa,h.ce,h.er,h.lm⟩
theorem JF.set (h:JF H o V c b) (q:Bool):JF H q V c {b with on:=q}:=⟨h.hH,rfl,h.wt,h.fa,h.ce,h.er,h.lm⟩
theorem aeh (hk:m.aH=2) (h:fU S m.ah=true) (hS:(S.all λy=> !y.toList.isEmpty)=true):cB m S=true:=by
 unfold cB;rw[hk];cases e:dh S m.ah with
 |true=>rfl
 |false=>rw[RF e hS]at h;cases h
theorem JF.uf (h:JF H false V c b) (hV:m.aH≠1->V=⟨#[]⟩) (hn:4<=b.aD/\b.aD≠5/\b.aD≠11) (ht: ¬cB m [⟨#[116,97,98,108,101]⟩]=true):SG H m.aH (b.uf m):=by
 have k:=(h.less.set true).eO (n:=b.aD) rfl m (λk2 q=>absurd (aeh k2 q (by kernel_rfl)) ht) λhh=>by cases hh
 have hmo:m.aH=1->(({b with on:=true}:aC).eO m).1.aD=b.aD:=J2 _ m;have hki:(({b with on:=true}:aC).eO m).2.1.aH=m.aH:=J3 _ m;show SG H m.aH ({(({b with on:=true}:aC).eO m).1 with on:=false},(({b with on:=true}:aC).eO m).2.1,(({b with on:=true}:aC).eO m).2.2);generalize (({b with on:=true}:aC).eO m)=r at k hmo hki;refine⟨?_,hki⟩;have k2:JM H false V false b.aD {r.1 with on:=false}:=⟨k.jf.set false,k.mx⟩;exact k2.pg hV hmo (I5 hn)
theorem JF.iE (h:JF H false V c b) (hV:m.aH≠1->V=⟨#[]⟩) (hn:4<=b.aD/\b.aD≠5/\b.aD≠11):SG H m.aH (b.iE m):=by
 rw[aC.iE.eq_1];obtain⟨hc,hct⟩:=h.clear (names:= [⟨#[116,97,98,108,101]⟩,⟨#[104,116,109,108]⟩]) (by kernel_rfl);have hs: ∀ {r:aC},JF H false V false r->4<=r.aD/\r.aD≠5/\r.aD≠11-> ∀t,SG H m.aH (r,m,t):=λhr hm t=>hr.sg hV (I5 hm)
 have hg: ∀ {r:aC},JF H false V false r-> ∀k:Int,4<=k/\k≠5/\k≠11-> ∀t,SG H m.aH (r.goto k,m,t):=λhr k hk t=>(hr.goto k).sg hV (I5 hk)
 refine .eX (λq=> ?_) λ_=> .eX (λ_=>hg (hc.vz.ins (by kernel_rfl) _) 7 (by decide) _) λ_=> .eX (λ_=>hg (hc.ins (by kernel_rfl) _) 8 (by decide) _) λ_=> .eX (λ_=>hg (hc.ins (by kernel_rfl) _) 8 (by decide) _) λ_=> .eX (λq=>hg (hc.row (λhb=>(hct hb).1) (by kernel_rfl) (uz q (by kernel_rfl)) _) 9 (by decide) _) λ_=> .eX (λ_=>hg (hc.row (λhb=>(hct hb).1) (by kernel_rfl) (by kernel_rfl) _) 9 (by decide) _) λ_=> .eX (λ_=> .eX (λq=>⟨JF.reset ?_ hV,rfl⟩) λ_=>hs h.less hn _) λnt=> .eX (λ_=>hs h.less hn _) λ_=> .eX (λq=>⟨(h.less.gV rfl m).pg hV (λk1=> ?_) (I5 hn),rfl⟩) λ_=> .eX (λ_=>hs h.less hn _) λ_=>h.uf hV hn λq=>nt (by rw[q];rfl)
 ·rw[cz]at q;exact(h.less.iJ (b.iJ++m.aL)).sg (λhk=>absurd (eq_of_beq q.1) hk) (I5 hn)
 ·refine h.less.cut (IE _ _ _) λhb=> ?_
  obtain⟨A,x,B,e1,e2, -⟩:=Da _ q;obtain⟨p,hp⟩:=Ex e2 B A;exact⟨A,x,B,p,e1,h.no1 hb (by kernel_rfl) e2,by rw[e1,hp],λhh=>by cases hh⟩
 ·rw[cz]at q;have:=q.1;unfold cB at this;rw[k1]at this;cases this
theorem JF.iW (h:JF H false V c b) (hV:m.aH≠1->V=⟨#[]⟩) (hn:b.aD=7):SG H m.aH (b.iW m):=by
 rw[aC.iW.eq_1];have hm:4<=b.aD/\b.aD≠5/\(b.aD=11->false=true):=by rw[hn];decide
 exact .eX (λ_=> .eX (λq=>((h.shut q (by kernel_rfl) (.inr (Hd (by kernel_rfl)))).tK.goto 6).sg hV (I5 (show(4:Int)<=6/\(6:Int)≠5/\(6:Int)≠11 by decide))) λ_=>h.less.sg hV hm) λ_=> .eX (λ_=>h.less.sg hV hm) λ_=>h.less.body hV hm λhh=>by cases hh
theorem JF.blank (h:JF H o V c b) (m:aO):JF H o V c (b.eQ m):=by
 unfold aC.eQ;exact .eX (λ_=> .eX (λ_=>h) λ_=>h.put _) λ_=>h
theorem JF.iV (h:JF H false V c b) (hV:m.aH≠1->V=⟨#[]⟩) (hn:b.aD=8):SG H m.aH (b.iV m):=by
 rw[aC.iV.eq_1];have h1:=h.less.blank m;have hm1:(b.eQ m).aD=8:=(zH b m).trans hn;generalize b.eQ m=b1 at h1 hm1 |-;have hk:=uM m;have hm:4<=b1.aD/\b1.aD≠5/\(b1.aD=11->false=true):=by rw[hm1];decide
 have hs: ∀ {r:aC},JF H false V false r->r.aD=8\/r.aD=6-> ∀t,SG H m.aH (r,aC.bR m,t):=λhr he t=>⟨hr.pg hV (by rcases he with he|he <;>rw[he] <;>decide),hk⟩
 exact .eX (λ_=>hs h1 (.inl hm1) _) λ_=> .eX (λ_=>hs h1 (.inl hm1) _) λ_=> .eX (λ_=>hs (h1.single (by kernel_rfl) (by kernel_rfl) _) (.inl ((iB b1 _ _).trans hm1)) _) λ_=> .eX (λ_=>hs h1 (.inl hm1) _) λq=>hs ((h1.akl (names:= [⟨#[99,111,108,103,114,111,117,112]⟩]) (by simpa using q) (by kernel_rfl) (by kernel_rfl)).goto 6) (.inr rfl) _
theorem akL (h:JF H o V c b) {sc:Int} (q:b.has sc names=true) (hb:b.dJ=0) (h1:fU names (⟨#[104,116,109,108]⟩:ae)=false): ∃x∈b.S.l,aI b.S.T x names=true/\x≠1:=by
 obtain⟨x,hx,hn⟩:=aaU q;exact⟨x,hx,hn,h.no1 hb h1 hn⟩
theorem aeZ {T:aB} (h:aI T x S=true) (hS: ∀y∈S,fU N y=true):aI T x N=true:=by
 obtain⟨h1,h2,h3⟩:=kC h;obtain⟨y,hy,he⟩:=nU.1 h3;unfold aI;rw[h1,h2,og (eq_of_beq he),hS y hy];rfl
theorem JF.NC (h:JF H false V c b) {sc:Int} (hn:fU N (⟨#[104,116,109,108]⟩:ae)=true) (q:b.has sc names=true) (h1:fU names (⟨#[104,116,109,108]⟩:ae)=false) (hS: ∀y∈names,fU N y=true):JF H false V false (b.clear' N).pop:=by
 obtain⟨k1,k2⟩:=h.clear hn;refine k1.pop λhb=>⟨?_,λhh=>by cases hh⟩
 obtain⟨x,hx,hxn,hx1⟩:=akL h q hb h1;exact(k2 hb).2 x hx (aeZ hxn hS) hx1
theorem akU (h:iO m S=true) (hS:(S.all λy=>fU N y)=true): ∀y∈ [m.ah],fU N y=true:=λy hy=>by rw[dG.1 hy];exact yU hS (Au (Sy h))
theorem V5 (h:iO m S=true) (hS:fU S (⟨#[104,116,109,108]⟩:ae)=false):fU [m.ah] (⟨#[104,116,109,108]⟩:ae)=false:=Dq (U7 (Sy h) hS)
theorem JF.oM (h:JF H false V c b) (hV:m.aH≠1->V=⟨#[]⟩) (hn:b.aD=9):SG H m.aH (b.oM m):=by
 rw[aC.oM.eq_1];obtain⟨hc,hct⟩:=h.clear (names:= [⟨#[116,98,111,100,121]⟩,⟨#[116,102,111,111,116]⟩,⟨#[116,104,101,97,100]⟩,⟨#[104,116,109,108]⟩]) (by kernel_rfl);have hm:4<=b.aD/\b.aD≠5/\b.aD≠11:=by rw[hn];decide
 have hs: ∀ {r:aC},JF H false V false r->4<=r.aD/\r.aD≠5/\r.aD≠11-> ∀t,SG H m.aH (r,m,t):=λhr hm t=>hr.sg hV (I5 hm)
 have hg: ∀ {r:aC},JF H false V false r-> ∀k:Int,4<=k/\k≠5/\k≠11-> ∀t,SG H m.aH (r.goto k,m,t):=λhr k hk t=>(hr.goto k).sg hV (I5 hk)
 have hr: ∀at',JF H false V false (((b.clear' [⟨#[116,98,111,100,121]⟩,⟨#[116,102,111,111,116]⟩,⟨#[116,104,101,97,100]⟩,⟨#[104,116,109,108]⟩]).goto 10).ins (⟨#[116,114]⟩:ae) at'):=λat'=>(hc.goto 10).row (λhb=>(hct hb).1) (by kernel_rfl) (by kernel_rfl) at'
 have hrm: ∀at',(((b.clear' [⟨#[116,98,111,100,121]⟩,⟨#[116,102,111,111,116]⟩,⟨#[116,104,101,97,100]⟩,⟨#[104,116,109,108]⟩]).goto 10).ins (⟨#[116,114]⟩:ae) at').aD=10:=λat'=>iB _ _ _
 have amK: ∀at',4<=(((b.clear' [⟨#[116,98,111,100,121]⟩,⟨#[116,102,111,111,116]⟩,⟨#[116,104,101,97,100]⟩,⟨#[104,116,109,108]⟩]).goto 10).ins (⟨#[116,114]⟩:ae) at').aD/\(((b.clear' [⟨#[116,98,111,100,121]⟩,⟨#[116,102,111,111,116]⟩,⟨#[116,104,101,97,100]⟩,⟨#[104,116,109,108]⟩]).goto 10).ins (⟨#[116,114]⟩:ae) at').aD≠5/\(((b.clear' [⟨#[116,98,111,100,121]⟩,⟨#[116,102,111,111,116]⟩,⟨#[116,104,101,97,100]⟩,⟨#[104,116,109,108]⟩]).goto 10).ins (⟨#[116,114]⟩:ae) at').aD≠11:=λat'=>by rw[hrm];decide
 exact .eX (λ_=> .eX (λ_=>hs (hr _) (amK _) _) λ_=>hs (hr _) (amK _) _) λ_=> .eX (λq=> .eX (λq2=>hg (h.NC (by kernel_rfl) q2 (V5 q (by kernel_rfl)) (akU q (by kernel_rfl))) 6 (by decide) _) λ_=>hs h.less hm _) λ_=> .eX (λ_=> .eX (λq2=>hg (h.NC (by kernel_rfl) q2 (by kernel_rfl) (λy hy=>qF.1 (show(([⟨#[116,98,111,100,121]⟩,⟨#[116,102,111,111,116]⟩,⟨#[116,104,101,97,100]⟩]:List ae).all λy=>fU [⟨#[116,98,111,100,121]⟩,⟨#[116,102,111,111,116]⟩,⟨#[116,104,101,97,100]⟩,⟨#[104,116,109,108]⟩] y)=true by kernel_rfl) y hy)) 6 (by decide) _) λ_=>hs h.less hm _) λ_=> .eX (λ_=>hs h.less hm _) λ_=>h.iE hV hm
theorem JF.uj (h:JF H false V c b) (hV:m.aH≠1->V=⟨#[]⟩) (hn:b.aD=10):SG H m.aH (b.uj m):=by
 rw[aC.uj.eq_1];obtain⟨hc,hct⟩:=h.clear (names:= [⟨#[116,114]⟩,⟨#[104,116,109,108]⟩]) (by kernel_rfl);have hm:4<=b.aD/\b.aD≠5/\b.aD≠11:=by rw[hn];decide
 have hs: ∀ {r:aC},JF H false V false r->4<=r.aD/\r.aD≠5/\r.aD≠11-> ∀t,SG H m.aH (r,m,t):=λhr hm t=>hr.sg hV (I5 hm)
 have hg: ∀ {r:aC},JF H false V false r-> ∀k:Int,4<=k/\k≠5/\k≠11-> ∀t,SG H m.aH (r.goto k,m,t):=λhr k hk t=>(hr.goto k).sg hV (I5 hk)
 refine .eX (λq=> ?_) λ_=> .eX (λ_=>hs h.less hm _) λ_=> .eX (λ_=> .eX (λq2=>hg (h.NC (by kernel_rfl) q2 (by kernel_rfl) (λy hy=>qF.1 (show(([⟨#[116,114]⟩]:List ae).all λy=>fU [⟨#[116,114]⟩,⟨#[104,116,109,108]⟩] y)=true by kernel_rfl) y hy)) 9 (by decide) _) λ_=>hs h.less hm _) λ_=> .eX (λ_=>hs h.less hm _) λ_=>h.iE hV hm
 obtain⟨k1,k2⟩:=hc.R8 (nm:=m.ah) 0 m.aA λ_=>uz q (by kernel_rfl)
 have k3:JF H false V true ((b.clear' [⟨#[116,114]⟩,⟨#[104,116,109,108]⟩]).ins m.ah m.aA):=⟨k1.hH,k1.on,k1.wt,k1.fa,λhb _=>by
  obtain⟨n,e1, -, -,e4,e5,e6⟩:=k2 hb;refine⟨n,?_,?_⟩
  ·show n∈((b.clear' [⟨#[116,114]⟩,⟨#[104,116,109,108]⟩]).jv 0 m.ah m.aA).1.S.l;rw[e1];simp
  ·have e4':aY ((b.clear' [⟨#[116,114]⟩,⟨#[104,116,109,108]⟩]).ins m.ah m.aA).S.T n=true:=e4;have e5':aX ((b.clear' [⟨#[116,114]⟩,⟨#[104,116,109,108]⟩]).ins m.ah m.aA).S.T n=0:=e5;have e6':bq ((b.clear' [⟨#[116,114]⟩,⟨#[104,116,109,108]⟩]).ins m.ah m.aA).S.T n=m.ah:=e6;unfold nI aI;rw[e4',e5',e6',yU (S:= [⟨#[116,104]⟩,⟨#[116,100]⟩]) (by kernel_rfl) (Au (rY q))]
   rfl,k1.er,k1.lm⟩
 exact((k3.goto 11).vz).sg hV ⟨show(4:Int)<=11 by decide,show(11:Int)≠5 by decide,λ_=>rfl⟩
theorem JF.leave (h:JF H false V c b) (hx:b.dJ=0-> ∃x∈b.S.l,aI b.S.T x names=true) (h1:fU names (⟨#[104,116,109,108]⟩:ae)=false) (h2: ∀y∈names,fU DL y=false):JF H false V false (b.leave names):=by
 refine((h.less.close (but:=⟨#[]⟩) (λhb=> ?_) h1 (.inr h2) λhh=>by cases hh).tK).goto 10;obtain⟨x,hx,hn⟩:=hx hb;obtain⟨A,B,e⟩:=vO (jM.2 hx);exact⟨A,x,B,e,hn,λhh=>by cases hh⟩
theorem JF.oN (h:JF H false V true b) (hV:m.aH≠1->V=⟨#[]⟩) (hn:b.aD=11):SG H m.aH (b.oN m):=by
 rw[aC.oN.eq_1];have hm:4<=b.aD/\b.aD≠5/\(b.aD=11->true=true):=by rw[hn];decide
 have hs: ∀ {r:aC},JF H false V false r->4<=r.aD/\r.aD≠5/\r.aD≠11-> ∀t,SG H m.aH (r,m,t):=λhr hm t=>hr.sg hV (I5 hm)
 have hg: ∀ {r:aC},JF H false V false r-> ∀k:Int,4<=k/\k≠5/\k≠11-> ∀t,SG H m.aH (r.goto k,m,t):=λhr k hk t=>(hr.goto k).sg hV (I5 hk)
 have ten:4<=(10:Int)/\(10:Int)≠5/\(10:Int)≠11:=by decide
 have hl:=h.leave (names:=oW) (λhb=>h.ce hb rfl) (by kernel_rfl) (Hd (by kernel_rfl));refine .eX (λq=> .eX (λq2=>hs (h.leave (λhb=>aaU q2) (V5 q (by kernel_rfl)) ?_) ten _) λ_=>h.sg hV hm) λn1=> .eX (λ_=> .eX (λ_=>hs hl ten _) λ_=>h.sg hV hm) λ_=> .eX (λ_=>h.sg hV hm) λ_=> .eX (λ_=> .eX (λ_=>hs hl ten _) λ_=>h.sg hV hm) λ_=>h.body hV hm λ_ k3=> ?_
 ·exact λy hy=>by rw[dG.1 hy];exact jq (Sy q) (by kernel_rfl)
 ·refine RF (S:=oW) ?_ (by kernel_rfl);cases e:dh oW m.ah with
  |false=>rfl
  |true=>exact absurd (show iO m oW=true by unfold iO;rw[k3,e];rfl) n1
theorem JF.lU (h:JF H false V c b) (hV:m.aH≠1->V=⟨#[]⟩) (hn:4<=b.aD/\b.aD≠5/\b.aD≠11):SG H m.aH (b.lU m):=by
 rw[aC.lU.eq_1];have h1:JF H false V false (if(m.aH==1)&& !(gz m.aL).toList.isEmpty then(b.eO ⟨1,⟨#[]⟩,[],false,gz m.aL⟩).1 else b):= .eX (λ_=>h.less.dx.put (gz m.aL)) λ_=>h.less
 have hm1:(if(m.aH==1)&& !(gz m.aL).toList.isEmpty then(b.eO ⟨1,⟨#[]⟩,[],false,gz m.aL⟩).1 else b).aD=b.aD:=iT (PQ b _) rfl;generalize (if(m.aH==1)&& !(gz m.aL).toList.isEmpty then(b.eO ⟨1,⟨#[]⟩,[],false,gz m.aL⟩).1 else b)=b1 at h1 hm1 |-;have hs: ∀ {r:aC},JF H false V false r->4<=r.aD/\r.aD≠5/\r.aD≠11-> ∀t,SG H m.aH (r,aC.bR m,t):=λhr he t=>⟨hr.pg hV (I5 he),uM m⟩
 exact .eX (λ_=>hs h1 (by rw[hm1];exact hn) _) λ_=> .eX (λ_=>hs h1 (by rw[hm1];exact hn) _) λ_=>hs (h1.goto 4) (show(4:Int)<=4/\(4:Int)≠5/\(4:Int)≠11 by decide) _
theorem GM.fE (h:GM H V c b) (hV:m.aH≠1->V=⟨#[]⟩) (h5:b.aD≠5):SG H m.aH (b.fE m):=by
 obtain⟨hj,hm⟩:=h;have hm:=hm.resolve_right λq=>h5 q.1
 rw[aC.fE.eq_1];refine .eX (λq=>by omega) λ_=> .eX (λq=>by omega) λ_=> .eX (λq=>by omega) λ_=> .eX (λq=>by omega) λ_=> .eX (λq=>hj.less.body hV (by rw[q];decide) λhh=>by cases hh) λ_=> .eX (λq=>absurd q h5) λ_=> .eX (λq=>hj.iE hV (by rw[q];decide)) λ_=> .eX (λq=>hj.iW hV q) λ_=> .eX (λq=>hj.iV hV q) λ_=> .eX (λq=>hj.oM hV q) λ_=> .eX (λq=>hj.uj hV q) λ_=> .eX (λq=> ?_) λq=>hj.lU hV ⟨hm.1,hm.2.1,q⟩
 have:=hm.2.2 q;subst this;exact hj.oN hV q
end
end
section
open Go.RowKit Mem
structure BE where
 w0:af
 tb:Nat
 sb:Nat
 lb:Nat
 bb:Nat
 mb:Nat
 ex:Nat->Prop
 pg:List ak
 a:Option Addr
 ac:Nat
def OM (E:BE):Nat->Prop:=λk=>Own E.w0 E.ex k\/k=E.bb\/k=E.mb
def buV (E:BE) (b:aC):List ak :=
 .pointer (some ⟨E.tb,0,none⟩):: .pointer (some ⟨E.sb,0,none⟩):: .pointer (some ⟨E.lb,0,none⟩):: .int .i64 b.aD:: .int .i64 b.mV:: .int .i64 b.head:: .string b.iJ:: .bool b.skip:: .int .i64 b.raw:: .string b.ah:: .int .i64 b.dJ::E.pg
def bmV (E:BE) (m:aO):List ak:= [.int .i64 m.aH,.string m.ah,.slice E.a m.aA.length E.ac,.bool m.self,.string m.aL]
structure BM (E:BE) (b:aC) (w:af):Prop where
 li:LI E.w0 b.used E.tb E.sb E.lb E.ex b.S.T b.S.l b.S.aF b.on w
 row:Row w E.bb (buV E b)
 exb:E.ex E.bb
 b0:E.w0.heap.size<=E.bb
structure MO (E:BE) (m:aO) (w:af):Prop where
 row:Row w E.mb (bmV E m)
 exm:E.ex E.mb
 m0:E.w0.heap.size<=E.mb
 ne:E.bb≠E.mb
 Bz:rX (OM E) w E.a (bz m.aA)
 nil:E.a=none->E.ac=0
 Tf:m.aA.length<=1048576
 ash: ∀p∈m.aA,NZ p
 Uf:m.aL.size<=4611686018427387904
 Cf:m.ah.size<=maxLen
structure SX (E:BE) (ws:af) (b:aC) (m:aO) (w:af):Prop where
 bm:BM E b w
 mo:MO E m w
 keep:az (OM E) ws w
structure SM (E:BE) (ws:af) (c:Nat) (s:Int) (b:aC) (m:aO) (w:af):Prop where
 sx:SX E ws b m w
 ok:Ok c s b
section
variable {E:BE} {ws w w':af} {c:Nat} {s:Int} {b b':aC} {m m':aO}
theorem SX.call (h:SX E ws b m w) (hl:LI E.w0 b'.used E.tb E.sb E.lb E.ex b'.S.T b'.S.l b'.S.aF b'.on w') (hk:az (Own E.w0 E.ex) w w') (hv:buV E b'=buV E b):SX E ws b' m w':=by
 obtain⟨⟨h1,h2,h3,h4⟩,⟨k1,k2,k3,k4,k5,k6,k7,k8,k9,kA⟩,h5⟩:=h;have hb:w'.heap[E.bb]?=w.heap[E.bb]?:=hk.block _ h2.lt λhx=>hx.2 h3
 have hm:w'.heap[E.mb]?=w.heap[E.mb]?:=hk.block _ k1.lt λhx=>hx.2 k2
 have hko:az (OM E) w w':=hk.mono λ_ _ hx=> .inl hx
 exact⟨⟨hl,hv▸h2.kept hb,h3,h4⟩,⟨k1.kept hm,k2,k3,k4,k5.kept hko,k6,k7,k8,k9,kA⟩,h5.trans hko⟩
theorem SX.world (h:SX E ws b m w) (hb:Below w.heap.size w w'):SX E ws b m w':=h.call (h.bm.li.world hb) (az.bC hb) rfl
theorem SX.alloc (h:SX E ws b m w) (o:Obj):SX E ws b m (w.alloc o):=h.world ((aQ _ w).alloc (ay _) _)
theorem SX.Ut (h:SX E ws b m w) (j:Nat) (v:ak) (hv:(buV E b).set j v=buV E b') (hu:b'.used=b.used) (hS:b'.S=b.S) (ho:b'.on=b.on):SX E ws b' m (w.setCell ⟨E.bb,j,none⟩ v):=by
 obtain⟨⟨h1,h2,h3,h4⟩,⟨k1,k2,k3,k4,k5,k6,k7,k8,k9,kA⟩,h5⟩:=h;have hk1:az (λk=>k=E.bb) w (w.setCell ⟨E.bb,j,none⟩ v):=az.set (F:=λk=>k=E.bb) (az.refl _ w) (p:=⟨E.bb,j,none⟩) (.inl rfl) _;have hko:az (OM E) w (w.setCell ⟨E.bb,j,none⟩ v):=hk1.mono λ_ _ hx=> .inr (.inl hx)
 have hli:=h1.dE (ex':=E.ex) hk1 (λk hx=>by subst hx;exact⟨h3,h4⟩) λk hx=>⟨.inl hx,fA (h1.Bu k hx) hk1.size⟩
 refine⟨⟨?_,hv▸h2.set j v,h3,h4⟩,⟨k1.kept (eG _ _ _ _ λe=>k4 e.symm),k2,k3,k4,k5.kept hko,k6,k7,k8,k9,kA⟩,h5.trans hko⟩;rw[hu,hS,ho];exact hli
theorem SX.amt (h:SX E ws b m w) (j:Nat) (v:ak) (hv:(bmV E m).set j v=bmV E m') (ha:m'.aA=m.aA) (ht:m'.aL.size<=m.aL.size) (hn:m'.ah.size<=maxLen):SX E ws b m' (w.setCell ⟨E.mb,j,none⟩ v):=by
 obtain⟨⟨h1,h2,h3,h4⟩,⟨k1,k2,k3,k4,k5,k6,k7,k8,k9,kA⟩,h5⟩:=h;have hk1:az (λk=>k=E.mb) w (w.setCell ⟨E.mb,j,none⟩ v):=az.set (F:=λk=>k=E.mb) (az.refl _ w) (p:=⟨E.mb,j,none⟩) (.inl rfl) _;have hko:az (OM E) w (w.setCell ⟨E.mb,j,none⟩ v):=hk1.mono λ_ _ hx=> .inr (.inr hx)
 have hli:=h1.dE (ex':=E.ex) hk1 (λk hx=>by subst hx;exact⟨k2,k3⟩) λk hx=>⟨.inl hx,fA (h1.Bu k hx) hk1.size⟩
 refine⟨⟨hli,h2.kept (eG _ _ _ _ λe=>k4 e),h3,h4⟩,⟨hv▸k1.set j v,k2,k3,k4,?_,k6,?_,?_,bY ht k9,hn⟩,h5.trans hko⟩
 ·rw[ha];exact k5.kept hko
 ·rw[ha];exact k7
 ·rw[ha];exact k8
theorem SX.aD (h:SX E ws b m w) (v:Int):SX E ws (b.goto v) m (w.setCell ⟨E.bb,3,none⟩ (.int .i64 v)):=h.Ut 3 _ rfl rfl rfl rfl
theorem SX.mV (h:SX E ws b m w) (v:Int):SX E ws {b with mV:=v} m (w.setCell ⟨E.bb,4,none⟩ (.int .i64 v)):=h.Ut 4 _ rfl rfl rfl rfl
theorem SX.head (h:SX E ws b m w) (v:Int):SX E ws {b with head:=v} m (w.setCell ⟨E.bb,5,none⟩ (.int .i64 v)):=h.Ut 5 _ rfl rfl rfl rfl
theorem SX.iJ (h:SX E ws b m w) (v:ae):SX E ws {b with iJ:=v} m (w.setCell ⟨E.bb,6,none⟩ (.string v)):=h.Ut 6 _ rfl rfl rfl rfl
theorem SX.skip (h:SX E ws b m w) (v:Bool):SX E ws {b with skip:=v} m (w.setCell ⟨E.bb,7,none⟩ (.bool v)):=h.Ut 7 _ rfl rfl rfl rfl
theorem SX.raw (h:SX E ws b m w) (v:Int):SX E ws {b with raw:=v} m (w.setCell ⟨E.bb,8,none⟩ (.int .i64 v)):=h.Ut 8 _ rfl rfl rfl rfl
theorem SX.ah (h:SX E ws b m w) (v:ae):SX E ws {b with ah:=v} m (w.setCell ⟨E.bb,9,none⟩ (.string v)):=h.Ut 9 _ rfl rfl rfl rfl
theorem SX.dJ (h:SX E ws b m w) (v:Int):SX E ws {b with dJ:=v} m (w.setCell ⟨E.bb,10,none⟩ (.int .i64 v)):=h.Ut 10 _ rfl rfl rfl rfl
theorem SX.aL (h:SX E ws b m w) (v:ae) (hv:v.size<=m.aL.size):SX E ws b {m with aL:=v} (w.setCell ⟨E.mb,4,none⟩ (.string v)):=h.amt 4 _ rfl rfl hv h.mo.Cf
theorem SX.fP (h:SX E ws b m w) (v:ae) (hv:v.size<=maxLen):SX E ws b {m with ah:=v} (w.setCell ⟨E.mb,1,none⟩ (.string v)):=h.amt 1 _ rfl rfl (ay _) hv
theorem SX.bc (h:SX E ws b m w):w.cell? ⟨E.bb,0,none⟩=some (.pointer (some ⟨E.tb,0,none⟩))/\w.cell? ⟨E.bb,1,none⟩=some (.pointer (some ⟨E.sb,0,none⟩))/\w.cell? ⟨E.bb,2,none⟩=some (.pointer (some ⟨E.lb,0,none⟩))/\w.cell? ⟨E.bb,3,none⟩=some (.int .i64 b.aD) /\
 w.cell? ⟨E.bb,4,none⟩=some (.int .i64 b.mV)/\w.cell? ⟨E.bb,5,none⟩=some (.int .i64 b.head)/\w.cell? ⟨E.bb,6,none⟩=some (.string b.iJ)/\w.cell? ⟨E.bb,7,none⟩=some (.bool b.skip)/\w.cell? ⟨E.bb,8,none⟩=some (.int .i64 b.raw)/\w.cell? ⟨E.bb,9,none⟩=some (.string b.ah)/\w.cell? ⟨E.bb,10,none⟩=some (.int .i64 b.dJ):=by
 have hr:=h.bm.row;exact⟨hr.cell (j:=0) rfl,hr.cell (j:=1) rfl,hr.cell (j:=2) rfl,hr.cell (j:=3) rfl,hr.cell (j:=4) rfl,hr.cell (j:=5) rfl,hr.cell (j:=6) rfl,hr.cell (j:=7) rfl,hr.cell (j:=8) rfl,hr.cell (j:=9) rfl,hr.cell (j:=10) rfl⟩
theorem SX.bf (h:SX E ws b m w): ∀j,j<11->w.frozen? ⟨E.bb,j,none⟩=false:=λj hj=>h.bm.row.frozen (by simp[buV];omega)
theorem SX.mc (h:SX E ws b m w):w.cell? ⟨E.mb,0,none⟩=some (.int .i64 m.aH)/\w.cell? ⟨E.mb,1,none⟩=some (.string m.ah)/\w.cell? ⟨E.mb,2,none⟩=some (.slice E.a m.aA.length E.ac)/\w.cell? ⟨E.mb,3,none⟩=some (.bool m.self)/\w.cell? ⟨E.mb,4,none⟩=some (.string m.aL):=by
 have hr:=h.mo.row;exact⟨hr.cell (j:=0) rfl,hr.cell (j:=1) rfl,hr.cell (j:=2) rfl,hr.cell (j:=3) rfl,hr.cell (j:=4) rfl⟩
theorem SX.mf (h:SX E ws b m w):w.frozen? ⟨E.mb,1,none⟩=false/\w.frozen? ⟨E.mb,4,none⟩=false:=⟨h.mo.row.frozen (by simp[bmV]),h.mo.row.frozen (by simp[bmV])⟩
theorem MO.fits {E:BE} {m:aO} {w:af} (h:MO E m w):Fits m.ah m.aA:=⟨h.Cf,h.ash⟩
theorem SX.at (h:SX E ws b m w):At w E.a (bz m.aA):=h.mo.Bz.at
theorem SM.world (h:SM E ws c s b m w) (hb:Below w.heap.size w w'):SM E ws c s b m w':=⟨h.sx.world hb,h.ok⟩
theorem SM.alloc (h:SM E ws c s b m w) (o:Obj):SM E ws c s b m (w.alloc o):=⟨h.sx.alloc o,h.ok⟩
theorem SM.more {c':Nat} {s':Int} (h:SM E ws c s b m w) (hc:c<=c') (hs:s<=s'):SM E ws c' s' b m w:=⟨h.sx,h.ok.more hc hs⟩
theorem SM.aD (h:SM E ws c s b m w) (v:Int):SM E ws c s (b.goto v) m (w.setCell ⟨E.bb,3,none⟩ (.int .i64 v)):=⟨h.sx.aD v,h.ok.of rfl id⟩
theorem SM.head (h:SM E ws c s b m w) (v:Int):SM E ws c s {b with head:=v} m (w.setCell ⟨E.bb,5,none⟩ (.int .i64 v)):=⟨h.sx.head v,h.ok.of rfl id⟩
theorem SM.iJ (h:SM E ws c s b m w) (v:ae):SM E ws c s {b with iJ:=v} m (w.setCell ⟨E.bb,6,none⟩ (.string v)):=⟨h.sx.iJ v,h.ok.of rfl id⟩
theorem SM.skip (h:SM E ws c s b m w) (v:Bool):SM E ws c s {b with skip:=v} m (w.setCell ⟨E.bb,7,none⟩ (.bool v)):=⟨h.sx.skip v,h.ok.of rfl id⟩
theorem SM.raw (h:SM E ws c s b m w) (v:Int):SM E ws c s {b with raw:=v} m (w.setCell ⟨E.bb,8,none⟩ (.int .i64 v)):=⟨h.sx.raw v,h.ok.of rfl id⟩
theorem SM.ah (h:SM E ws c s b m w) (v:ae):SM E ws c s {b with ah:=v} m (w.setCell ⟨E.bb,9,none⟩ (.string v)):=⟨h.sx.ah v,h.ok.of rfl id⟩
theorem SM.aL (h:SM E ws c s b m w) (v:ae) (hv:v.size<=m.aL.size):SM E ws c s b {m with aL:=v} (w.setCell ⟨E.mb,4,none⟩ (.string v)):=⟨h.sx.aL v hv,h.ok⟩
theorem SM.fP (h:SM E ws c s b m w) (v:ae) (hv:v.size<=maxLen):SM E ws c s b {m with ah:=v} (w.setCell ⟨E.mb,1,none⟩ (.string v)):=⟨h.sx.fP v hv,h.ok⟩
theorem LI.lay {w0:af} {B tb sb lb:Nat} {ex:Nat->Prop} {T:aB} {l aF:List Int} {on:Bool} (h:LI w0 B tb sb lb ex T l aF on w) (o:Obj):LI w0 B tb sb lb (λk=>ex k\/k=w.heap.size) T l aF on (w.alloc o):=by
 have hk:az (λ_=>False) w (w.alloc o):=(az.refl _ _).alloc o;refine h.dE hk (λ_ hx=>hx.elim) λk hx=> ?_
 have hs:=zY w o;rcases hx with hx|hx
 ·exact⟨.inl hx,by have:=h.Bu k hx;omega⟩
 ·exact⟨.inr (by omega),by omega⟩
end
def strOf:ak->ae
 | .string s=>s
 |_=>⟨#[]⟩
def ed (di:Array ak):List ae:=di.toList.map strOf
theorem tH {w:af} {di:Array ak} {e:TypeId} (hc:jo (ed di)=di.toList):At (w.alloc (.cells di e)) (some ⟨w.heap.size,0,none⟩) (jo (ed di)):=jy rfl hc.symm
theorem aeJ {w:af} {base base':Nat} {t:TypeId} {size:Nat} {v:ak} {n:Nat} {xs:List ak} (h:w.ownsRow base t size v n xs) (hb:base'<=base):w.ownsRow base' t size v n xs :=
 ⟨h.1,h.2.imp id λ⟨g,cap,di,h1,h2,r⟩=>⟨g,cap,di,h1,bY hb h2,r⟩⟩
end
section
open Go.RowKit Mem
section
variable {E:BE} {ws w w':af} {c:Nat} {s:Int} {b b':aC} {m m':aO}
theorem GK (h:SX E ws b m w) (e:Int):Calls prog 26 #[.pointer (some ⟨E.bb,0,none⟩),.int .i64 e] w λr w'=>r= .returned (.tuple #[])/\SX E ws (b.fail e) m w':=by
 have HS:=hd' h;obtain⟨-, -, -, -, -, -, -, -, -, -,d10⟩:=h.bc;have f10:=h.bf 10 (by omega);have HF:Hid (b.fail e=if b.dJ=0 then {b with dJ:=e}else b):=hd' rfl;clear h;obtain⟨er,her⟩: ∃er,er=b.dJ:=⟨_,rfl⟩;rw[<-her]at d10 HF;clear her;by_cases he:er=0
 ·rw[au he]at HF;subst he;go_enter func26,ntmps26
  go_wp2_with fail
  go_end0
  rw[HF.o'];exact⟨rfl,HS.o'.dJ e⟩
 ·rw[aj he]at HF;have he':(er==0)=false:=by simpa using he
  clear he;go_enter func26,ntmps26
  go_wp2_with fail
  go_end0
  rw[HF.o'];exact⟨rfl,HS.o'⟩
theorem ace (l:List ae) (x:ae) (k:Nat) (h:k<l.length):dh (l.drop k) x=(((x.toList==l[k].toList)&& !x.toList.isEmpty)||dh (l.drop (k+1)) x):=by
 unfold dh;rw[VC l x k h];cases (x.toList==l[k].toList) <;>cases x.toList.isEmpty <;>simp
theorem uS (x:ae) (l:List ae) (a:Option Addr) (c:Nat) (w:af) (hl:l.length<=maxLen) (ha:At w a (jo l)) :
 Calls prog 150 #[.string x,.slice a l.length c] w λe w'=>e= .returned (.bool (dh l x))/\w=w':=by
 unfold maxLen at hl;have HA:=hd' ha;clear ha;go_enter func150,ntmps150
 go_wp2
 go_loop [9] (λi=> ∃k:Nat,k<=l.length/\i= .int .i64 k/\Hid (dh l x=dh (l.drop k) x)) (λi=>l.length-(intOf i).toNat)
 case atStart=>exact⟨0,bD _,rfl,hd' rfl⟩
 case round =>
  obtain⟨k,hk,rfl,HV⟩:=hrel;by_cases hlt:k<l.length
  ·obtain⟨b,o,rfl,hlb,h1⟩:=LU HA.o' hlt;have HD:=hd' (ace l x k hlt);go_wp2
   ·go_ret;refine⟨bJ ?_,rfl⟩;rw[HV.o',HD.o'];simp[*]
   ·go_round
    case rel=>exact⟨k+1,by omega,by go_num,hd' (by rw[HV.o',HD.o'];simp[*])⟩
    case measure=>simp[intOf];omega
   ·go_round
    case rel=>exact⟨k+1,by omega,by go_num,hd' (by
     have hne: ¬x.toList=l[k].toList:=λe=>(by assumption: ¬l[k].toList=x.toList) e.symm
     rw[HV.o',HD.o'];simp[hne])⟩
    case measure=>simp[intOf];omega
  ·go_wp2
   go_ret;refine⟨bJ ?_,rfl⟩;rw[HV.o',iZ (by omega)];rfl
end
end
section
open Go.RowKit Mem
structure Lay (g:Nat) (w:af) (di:Array ak) (n:Nat):Prop where
 hg:g=w.heap.size
 hc:jo (ed di)=di.toList
 hn:n=(ed di).length
 hl:(ed di).length<=1048576
def BE.lay (E:BE) (g:Nat):BE:= {E with ex:=λk=>E.ex k\/k=g}
section
variable {E:BE} {ws w w':af} {c:Nat} {s:Int} {b b':aC} {m m':aO}
theorem OM.lay {g:Nat}: ∀k,OM (E.lay g) k->OM E k:=λ_ hx=>hx.imp (λh=>⟨h.1,λhe=>h.2 (.inl he)⟩) id
theorem SX.lay (h:SX E ws b m w) (o:Obj):SX (E.lay w.heap.size) (w.alloc o) b m (w.alloc o):=by
 have h':=h.alloc o;obtain⟨⟨h1,h2,h3,h4⟩,⟨k1,k2,k3,k4,k5,k6,k7,k8,k9,kA⟩,h5⟩:=h';exact⟨⟨h.bm.li.lay o,h2,.inl h3,h4⟩,⟨k1,.inl k2,k3,k4,k5.other λk _ hx=>OM.lay k hx,k6,k7,k8,k9,kA⟩,az.refl _ _⟩
theorem SX.less (h0:SX E ws b' m' w) {o:Obj} (h:SX (E.lay w.heap.size) (w.alloc o) b m w') (hm:m.aA=m'.aA):SX E ws b m w':=by
 obtain⟨⟨h1,h2,h3,h4⟩,⟨k1,k2,k3,k4,k5,k6,k7,k8,k9,kA⟩,h5⟩:=h;have hk:az (OM E) w w':=((az.refl _ w).alloc o).trans (h5.mono λk _ hx=>OM.lay k hx);refine⟨⟨h1.less λk hx=> .inl hx,h2,h0.bm.exb,h4⟩,⟨k1,h0.mo.exm,k3,k4,?_,k6,k7,k8,k9,kA⟩,h0.keep.trans hk⟩;rw[hm];exact h0.mo.Bz.kept hk
theorem SM.lay (h:SM E ws c s b m w) (o:Obj):SM (E.lay w.heap.size) (w.alloc o) c s b m (w.alloc o):=⟨h.sx.lay o,h.ok⟩
theorem SM.less {c':Nat} {s':Int} (h0:SM E ws c s b' m' w) {o:Obj} (h:SM (E.lay w.heap.size) (w.alloc o) c' s' b m w') (hm:m.aA=m'.aA):SM E ws c' s' b m w':=⟨h0.sx.less h.sx hm,h.ok⟩
theorem PI {di:Array ak} {e:TypeId} (hc:jo (ed di)=di.toList):rX (Own E.w0 (E.lay w.heap.size).ex) (w.alloc (.cells di e)) (some ⟨w.heap.size,0,none⟩) (jo (ed di)) :=
 rX.yS (tH hc) λb' o' s' e' hx=>hx.2 (.inr (by cases e';rfl))
theorem Rz (h:SX E ws b m w):Calls prog 56 #[.pointer (some ⟨E.sb,0,none⟩)] w λr w'=>r= .returned (.int .i64 b.top)/\SX E ws b.pop m w' :=
 (Tk h.bm.li).mono λ_ _ ⟨hr,hl,hk⟩=>⟨hr,h.call (b':=b.pop) hl hk rfl⟩
theorem vS (h:SM E ws c s b m w):Calls prog 56 #[.pointer (some ⟨E.sb,0,none⟩)] w λr w'=>r= .returned (.int .i64 b.top)/\SM E ws c s b.pop m w' :=
 (Rz h.sx).mono λ_ _ ⟨hr,hs⟩=>⟨hr,hs,h.ok.pop⟩
theorem ahT (h:SX E ws b m w) (hl:b.S.l.length<1000000) (n:Int):Calls prog 105 #[.pointer (some ⟨E.sb,0,none⟩),.int .i64 n] w λr w'=>r= .returned (.tuple #[])/\SX E ws (b.push n) m w' :=
 (WS h.bm.li n hl).mono λ_ _ ⟨hr,hl,hk⟩=>⟨hr,h.call (b':=b.push n) hl hk rfl⟩
theorem LW (h:SX E ws b m w) (n:Int):Calls prog 106 #[.pointer (some ⟨E.sb,0,none⟩),.int .i64 n] w λr w'=>r= .returned (.tuple #[])/\SX E ws (b.ll n) m w' :=
 (Bf h.bm.li n).mono λ_ _ ⟨hr,hl,hk⟩=>⟨hr,h.call (b':=b.ll n) hl hk rfl⟩
theorem XX (h:SM E ws c s b m w) (n:Int):Calls prog 106 #[.pointer (some ⟨E.sb,0,none⟩),.int .i64 n] w λr w'=>r= .returned (.tuple #[])/\SM E ws c s (b.ll n) m w' :=
 (LW h.sx n).mono λ_ _ ⟨hr,hs⟩=>⟨hr,hs,h.ok.ll n⟩
theorem xH (h:SM E ws c s b m w) (but:ae):Calls prog 117 #[.pointer (some ⟨E.sb,0,none⟩),.string but] w λr w'=>r= .returned (.tuple #[])/\SM E ws c s (b.jw but) m w':=by
 obtain⟨ge,h1,h2,h3,h4⟩:=h.sx.bm.li
 exact(agO h2 but).mono λ_ _ ⟨hr,hs,hk⟩=>by
  obtain⟨hl,hk'⟩:=LI.qo h1 h3 h4 hs hk;exact⟨hr,h.sx.call (b':=b.jw but) hl hk' rfl,h.ok.jw but⟩
theorem LF (h:SM E ws c s b m w) (names:List ae) (a:Option Addr) (n ca:Nat) (hn:n=names.length) (ha:rX (Own E.w0 E.ex) w a (jo names)) (hl:names.length<=1048576) :
 Calls prog 114 #[.pointer (some ⟨E.sb,0,none⟩),.slice a n ca] w λr w'=>r= .returned (.tuple #[])/\SM E ws c s (b.mG names) m w':=by
 subst hn;obtain⟨ge,h1,h2,h3,h4⟩:=h.sx.bm.li
 exact(agE h2 names a ca (rX.other ha λb _ hx=>⟨hx.1,λhy=>hx.2 (.inl hy)⟩) hl).mono λ_ _ ⟨hr,hs,hk⟩=>by
  obtain⟨hl,hk'⟩:=LI.qo h1 h3 h4 hs hk;exact⟨hr,h.sx.call (b':=b.mG names) hl hk' rfl,h.ok.mG names⟩
theorem agp (h:SM E ws c s b m w) (names:List ae) (a:Option Addr) (n ca:Nat) (hn:n=names.length) (ha:rX (Own E.w0 E.ex) w a (jo names)) (hl:names.length<=1048576) :
 Calls prog 111 #[.pointer (some ⟨E.sb,0,none⟩),.slice a n ca] w λr w'=>r= .returned (.tuple #[])/\SM E ws c s (b.clear' names) m w':=by
 subst hn;obtain⟨ge,h1,h2,h3,h4⟩:=h.sx.bm.li
 exact(ag9 h2 names a ca (rX.other ha λb _ hx=>⟨hx.1,λhy=>hx.2 (.inl hy)⟩) hl).mono λ_ _ ⟨hr,hs,hk⟩=>by
  obtain⟨hl,hk'⟩:=LI.qo h1 h3 h4 hs hk;exact⟨hr,h.sx.call (b':=b.clear' names) hl hk' rfl,h.ok.clear' names⟩
theorem afX (h:SX E ws b m w) (scope:Int) (names:List ae) (a:Option Addr) (n ca:Nat) (hn:n=names.length) (ha:At w a (jo names)) (hl:names.length<=1048576) :
 Calls prog 113 #[.pointer (some ⟨E.sb,0,none⟩),.int .i64 scope,.slice a n ca] w λr w'=>r= .returned (.bool (b.has scope names))/\Below w.heap.size w w':=by
 subst hn;obtain⟨ge,h1,h2,h3,h4⟩:=h.bm.li;exact ald h2 scope names a ca ha hl
theorem zn (h:SM E ws c s b m w) {g:Nat} {di:Array ak} {e:TypeId} {n ca:Nat} (L:Lay g w di n) :
 Calls prog 114 #[.pointer (some ⟨E.sb,0,none⟩),.slice (some ⟨g,0,none⟩) n ca] (w.alloc (.cells di e)) λr w'=>r= .returned (.tuple #[])/\SM E ws c s (b.mG (ed di)) m w':=by
 obtain⟨hg,hc,hn,hl⟩:=L;subst hg;exact(LF (h.lay (.cells di e)) (ed di) _ n ca hn (PI (E:=E) (w:=w) hc) hl).mono λ_ _ ⟨hr,hs⟩=>⟨hr,h.less hs rfl⟩
theorem zP (h:SM E ws c s b m w) {g:Nat} {di:Array ak} {e:TypeId} {n ca:Nat} (L:Lay g w di n) :
 Calls prog 111 #[.pointer (some ⟨E.sb,0,none⟩),.slice (some ⟨g,0,none⟩) n ca] (w.alloc (.cells di e)) λr w'=>r= .returned (.tuple #[])/\SM E ws c s (b.clear' (ed di)) m w':=by
 obtain⟨hg,hc,hn,hl⟩:=L;subst hg;exact(agp (h.lay (.cells di e)) (ed di) _ n ca hn (PI (E:=E) (w:=w) hc) hl).mono λ_ _ ⟨hr,hs⟩=>⟨hr,h.less hs rfl⟩
theorem uH (h:SM E ws c s b m w) {g:Nat} {scope:Int} {di:Array ak} {e:TypeId} {n ca:Nat} (L:Lay g w di n) :
 Calls prog 113 #[.pointer (some ⟨E.sb,0,none⟩),.int .i64 scope,.slice (some ⟨g,0,none⟩) n ca] (w.alloc (.cells di e)) λr w'=>r= .returned (.bool (b.has scope (ed di)))/\SM E ws c s b m w':=by
 obtain⟨hg,hc,hn,hl⟩:=L;subst hg;exact(afX (h.sx.alloc (.cells di e)) scope (ed di) _ n ca hn (tH hc) hl).mono λ_ _ ⟨hr,hb⟩=>⟨hr,(h.alloc _).world hb⟩
theorem Te (h:SM E ws c s b m w):Calls prog 97 #[.pointer (some ⟨E.sb,0,none⟩)] w λr w'=> ∃v,r= .returned v/\w'.ownsRow w.heap.size 3 1 v b.S.l.length (bB b.S.l)/\Below w.heap.size w w'/\SM E ws c s b m w' :=
 (KI h.sx.bm.li).mono λ_ _ ⟨v,hr,ho,hb⟩=>⟨v,hr,ho,hb,h.world hb⟩
theorem Ku (h:SM E ws c s b m w) (n:Int):Calls prog 41 #[.pointer (some ⟨E.tb,0,none⟩),.int .i64 n] w λr w'=> ∃v,r= .returned (.tuple #[.int .i64 (aX b.S.T n),.string (bq b.S.T n),v]) /\
 w'.ownsRow w.heap.size 128 2 v (bW b.S.T n).length (bz (bW b.S.T n))/\Below w.heap.size w w'/\SM E ws c s b m w' :=
 (yx h.sx.bm.li n).mono λ_ _ ⟨v,hr,ho,hb⟩=>⟨v,hr,ho,hb,h.world hb⟩
theorem Gx (h:SM E ws c s b m w) (hc:c<=100000):Calls prog 112 #[.pointer (some ⟨E.lb,0,none⟩)] w λr w'=>r= .returned (.tuple #[])/\SM E ws (c+1) (s+1) b.vz m w' :=
 (ai' h.sx.bm.li (by have:=h.ok.len;omega)).mono λ_ _ ⟨hr,hl,hk⟩=>⟨hr,h.sx.call (b':=b.vz) hl hk rfl,h.ok.vz⟩
theorem I7 (h:SM E ws c s b m w):Calls prog 118 #[.pointer (some ⟨E.lb,0,none⟩)] w λr w'=>r= .returned (.tuple #[])/\SM E ws c s b.tK m w' :=
 (ag' h.sx.bm.li).mono λ_ _ ⟨hr,hl,hk⟩=>⟨hr,h.sx.call (b':=b.tK) hl hk rfl,h.ok.tK⟩
theorem afh (h:SM E ws c s b m w) (hc:c<=100000) {n:Int} (hel:aY b.S.T n=true) (hn: ¬n∈b.S.aF):Calls prog 202 #[.pointer (some ⟨E.lb,0,none⟩),.int .i64 n] w λr w'=>r= .returned (.tuple #[])/\SM E ws c s (b.PS n) m w' :=
 (ai4 h.sx.bm.li (by have:=h.ok.len;omega) n).mono λ_ _ ⟨hr,hl,hk⟩=>⟨hr,h.sx.call (b':=b.PS n) hl hk rfl,h.ok.PS hel hn⟩
theorem YJ (h:SM E ws c s b m w) (n:Int):Calls prog 160 #[.pointer (some ⟨E.lb,0,none⟩),.int .i64 n] w λr w'=>r= .returned (.tuple #[])/\SM E ws c s (b.Ay n) m w' :=
 (JB h.sx.bm.li n).mono λ_ _ ⟨hr,hl,hk⟩=>⟨hr,h.sx.call (b':=b.Ay n) hl hk rfl,h.ok.Ay n⟩
theorem aiB (h:SM E ws c s b m w) (ah:ae):Calls prog 158 #[.pointer (some ⟨E.lb,0,none⟩),.string ah] w λr w'=>r= .returned (.int .i64 (b.find ah))/\SM E ws c s b m w' :=
 (abk h.sx.bm.li ah).mono λ_ _ ⟨hr,hb⟩=>⟨hr,h.world hb⟩
theorem Qa (h:SM E ws c s b m w) (v:Bool):Calls prog 91 #[.pointer (some ⟨E.lb,0,none⟩),.bool v] w λr w'=>r= .returned (.tuple #[])/\SM E ws c s {b with on:=v} m w' :=
 (adG h.sx.bm.li v).mono λ_ _ ⟨hr,hl,hk⟩=>⟨hr,h.sx.call (b':= {b with on:=v}) hl hk rfl,h.ok.of rfl id⟩
end
end
section
open Go.RowKit Mem
section
variable {E:BE} {ws w w':af} {c:Nat} {s:Int} {b b':aC} {m m':aO}
theorem Pb (aH:Int) (ah:ae) (mb:Nat) (names:List ae) (a:Option Addr) (ca:Nat) (w:af) (hl:names.length<=1048576) (c0:w.cell? ⟨mb,0,none⟩=some (.int .i64 aH)) (c1:w.cell? ⟨mb,1,none⟩=some (.string ah)) (ha:At w a (jo names)) :
 Calls prog 101 #[.pointer (some ⟨mb,0,none⟩),.slice a names.length ca] w λr w'=>r= .returned (.bool ((aH==2)&&dh names ah))/\w=w':=by
 have HO:=hd' (uS ah names a ca w (by unfold maxLen;omega) ha);clear ha;by_cases hk:aH=2
 ·subst hk;go_enter func101,ntmps101
  go_wp2_with (go_at_call 150;refine HO.o'.mono ?_;rintro e w1 ⟨rfl,rfl⟩)
  go_ret;exact⟨rfl,rfl⟩
 ·have hk':(aH==2)=false:=by simpa using hk
  clear hk;go_enter func101,ntmps101
  go_wp2_with fail
  go_ret;rw[hk'];exact⟨rfl,rfl⟩
theorem aiE (aH:Int) (ah:ae) (mb:Nat) (names:List ae) (a:Option Addr) (ca:Nat) (w:af) (hl:names.length<=1048576) (c0:w.cell? ⟨mb,0,none⟩=some (.int .i64 aH)) (c1:w.cell? ⟨mb,1,none⟩=some (.string ah)) (ha:At w a (jo names)) :
 Calls prog 100 #[.pointer (some ⟨mb,0,none⟩),.slice a names.length ca] w λr w'=>r= .returned (.bool ((aH==3)&&dh names ah))/\w=w':=by
 have HO:=hd' (uS ah names a ca w (by unfold maxLen;omega) ha);clear ha;by_cases hk:aH=3
 ·subst hk;go_enter func100,ntmps100
  go_wp2_with (go_at_call 150;refine HO.o'.mono ?_;rintro e w1 ⟨rfl,rfl⟩)
  go_ret;exact⟨rfl,rfl⟩
 ·have hk':(aH==3)=false:=by simpa using hk
  clear hk;go_enter func100,ntmps100
  go_wp2_with fail
  go_ret;rw[hk'];exact⟨rfl,rfl⟩
theorem aeg (h:SX E ws b m w) {g:Nat} {di:Array ak} {e:TypeId} {n ca:Nat} (L:Lay g w di n) :
 Calls prog 101 #[.pointer (some ⟨E.mb,0,none⟩),.slice (some ⟨g,0,none⟩) n ca] (w.alloc (.cells di e)) λr w'=>r= .returned (.bool (cB m (ed di)))/\SX E ws b m w':=by
 obtain⟨hg,hc,hn,hl⟩:=L;subst hg;subst hn;have h':=h.alloc (.cells di e);obtain⟨c0,c1, -⟩:=h'.mc;exact(Pb m.aH m.ah E.mb (ed di) _ ca _ hl c0 c1 (tH hc)).mono λ_ _ ⟨hr,hw⟩=>⟨hr,hw▸h'⟩
theorem pX (h:SM E ws c s b m w) {g:Nat} {di:Array ak} {e:TypeId} {n ca:Nat} (L:Lay g w di n) :
 Calls prog 101 #[.pointer (some ⟨E.mb,0,none⟩),.slice (some ⟨g,0,none⟩) n ca] (w.alloc (.cells di e)) λr w'=>r= .returned (.bool (cB m (ed di)))/\SM E ws c s b m w':=by
 obtain⟨hg,hc,hn,hl⟩:=L;subst hg;subst hn;have h':=h.alloc (.cells di e);obtain⟨c0,c1, -⟩:=h'.sx.mc;exact(Pb m.aH m.ah E.mb (ed di) _ ca _ hl c0 c1 (tH hc)).mono λ_ _ ⟨hr,hw⟩=>⟨hr,hw▸h'⟩
theorem uJ (h:SM E ws c s b m w) {g:Nat} {di:Array ak} {e:TypeId} {n ca:Nat} (L:Lay g w di n) :
 Calls prog 100 #[.pointer (some ⟨E.mb,0,none⟩),.slice (some ⟨g,0,none⟩) n ca] (w.alloc (.cells di e)) λr w'=>r= .returned (.bool (iO m (ed di)))/\SM E ws c s b m w':=by
 obtain⟨hg,hc,hn,hl⟩:=L;subst hg;subst hn;have h':=h.alloc (.cells di e);obtain⟨c0,c1, -⟩:=h'.sx.mc;exact(aiE m.aH m.ah E.mb (ed di) _ ca _ hl c0 c1 (tH hc)).mono λ_ _ ⟨hr,hw⟩=>⟨hr,hw▸h'⟩
theorem Yt (h:SM E ws c s b m w) {g:Nat} {x:ae} {di:Array ak} {e:TypeId} {n ca:Nat} (L:Lay g w di n) :
 Calls prog 150 #[.string x,.slice (some ⟨g,0,none⟩) n ca] (w.alloc (.cells di e)) λr w'=>r= .returned (.bool (dh (ed di) x))/\SM E ws c s b m w':=by
 obtain⟨hg,hc,hn,hl⟩:=L;subst hg;subst hn;exact(uS x (ed di) _ ca _ (by unfold maxLen;omega) (tH hc)).mono λ_ _ ⟨hr,hw⟩=>⟨hr,hw▸h.alloc _⟩
theorem Mc (h:SM E ws c s b m w):Calls prog 116 #[.pointer (some ⟨E.mb,0,none⟩)] w λr w'=>r= .returned (.bool (BZ m))/\SM E ws c s b m w':=by
 have H:=hd' h;clear h;go_enter func116,ntmps116
 go_wp2_with (go_at_call 101;refine(pX H.o' ⟨rfl,by rfl,by rfl,by decide⟩).mono ?_;rintro e w1 ⟨rfl,h1⟩;have H1:=hd' h1;clear h1)
 go_ret;exact⟨rfl,H1.o'⟩
theorem ade (x:ae) (w:af):Calls prog 155 #[.string x] w λr w'=>r= .returned (.bool (SL x))/\Below w.heap.size w w':=by
 go_enter func155,ntmps155
 go_wp2_with (go_at_call 150;refine(uS x agx _ _ _ (by decide) (jy rfl rfl)).mono ?_;rintro e w1 ⟨rfl,rfl⟩)
 go_ret;exact⟨rfl,(aQ _ _).alloc (ay _) _⟩
theorem VP (x:ae) (w:af):Calls prog 156 #[.string x] w λr w'=>r= .returned (.bool (kY x))/\Below w.heap.size w w':=by
 go_enter func156,ntmps156
 go_wp2_with (go_at_call 150;refine(uS x kN _ _ _ (by decide) (jy rfl rfl)).mono ?_;rintro e w1 ⟨rfl,rfl⟩)
 go_ret;exact⟨rfl,(aQ _ _).alloc (ay _) _⟩
theorem Y5 (x:ae) (w:af):Calls prog 162 #[.string x] w λr w'=>r= .returned (.bool (Kz x))/\Below w.heap.size w w':=by
 go_enter func162,ntmps162
 go_wp2_with (go_at_call 150;refine(uS x ajN _ _ _ (by decide) (jy rfl rfl)).mono ?_;rintro e w1 ⟨rfl,rfl⟩)
 go_ret;exact⟨rfl,(aQ _ _).alloc (ay _) _⟩
theorem LJ (h:SX E ws b m w):Calls prog 28 #[.pointer (some ⟨E.bb,0,none⟩)] w λr w'=> ∃v,r= .returned (.tuple #[.int .i64 b.qm,.string b.DK,v]) /\
 w'.ownsRow w.heap.size 128 2 v (bW b.S.T b.top).length (bz (bW b.S.T b.top))/\Below w.heap.size w w'/\SX E ws b m w':=by
 have HS:=hd' h;have HSd:=hd' (h.world (aQ w.heap.size w).drew);have HT:=hd' (KH HSd.o'.bm.li);obtain⟨d0,d1, -⟩:=h.bc;clear h;have HX:Hid (b.S.l.getLast?.getD 0=b.top):=hd' rfl;rw[HX.o']at HT;obtain⟨x,hx⟩: ∃x,x=b.top:=⟨_,rfl⟩;have HW:=hd' λu (hu:Below w.heap.size w u)=>yx (HS.o'.bm.li.world hu) x
 have Oc:Hid (b.qm=aX b.S.T x/\b.DK=bq b.S.T x):=hd' (by rw[hx];exact⟨rfl,rfl⟩);rw[Oc.o'.1,Oc.o'.2,<-hx];rw[<-hx]at HT;clear hx HX Oc;go_enter func28,ntmps28
 go_wp2_with fail
 go_region_law (first
  |(go_simp;go_at_call 42;refine HT.o'.mono ?_
    rintro e w2 ⟨rfl,q,rfl⟩
    have HB2:=hd' (fM w (1+q)))
  |(go_simp;go_at_call 41;refine(HW.o' _ HB2.o').mono ?_
    rintro e w3 ⟨v,rfl,ho,hb⟩;have HO:=hd' ho;have HB3:=hd' (aK HB2.o' hb)
    clear ho hb))
 all_goals
  simp only[Act.put,jA,jC,jB,dV,dF,dK];go_wp2_with fail
  go_ret3;exact⟨_,rfl,aeJ HO.o' HB2.o'.size,HB3.o',HS.o'.world HB3.o'⟩
end
end
section
open Go.RowKit Mem
section
variable {E:BE} {ws w w':af} {c:Nat} {s:Int} {b b':aC} {m m':aO}
theorem WG (h:SM E ws c s b m w) {g:Nat} {di:Array ak} {e:TypeId} {n ca:Nat} (L:Lay g w di n) :
 Calls prog 110 #[.pointer (some ⟨E.bb,0,none⟩),.slice (some ⟨g,0,none⟩) n ca] (w.alloc (.cells di e)) λr w'=>r= .returned (.bool (b.at' (ed di)))/\SM E ws c s b m w':=by
 obtain⟨hg,hc,hn,hl⟩:=L;subst hg;subst hn;have HT:=hd' (LJ (h.sx.alloc (.cells di e)));have HA:=hd' (tH (w:=w) (e:=e) hc);have HV:Hid (b.at' (ed di)=((b.qm==0)&&dh (ed di) b.DK)):=hd' rfl;have HK:=hd' h.ok;generalize b.qm=sp at *;generalize b.DK=nm at *;generalize ed di=names at *;generalize w.alloc (.cells di e)=wa at *;generalize (some ⟨w.heap.size,0,none⟩:Option Addr)=ad at *;clear h hc;by_cases hs:sp=0
 ·subst hs;go_enter func110,ntmps110
  go_wp2_with (first
   |(go_at_call 28;refine HT.o'.mono ?_;rintro e w1 ⟨v,rfl, -,hb,h1⟩;have HO:=hd' (uS nm names ad ca w1 (by unfold maxLen;omega) (HA.o'.below hb));have H1:=hd' h1;clear hb h1)
   |(go_at_call 150;refine HO.o'.mono ?_;rintro e w2 ⟨rfl,rfl⟩))
  go_ret;rw[HV.o'];exact⟨rfl,H1.o',HK.o'⟩
 ·have hs':(sp==0)=false:=by simpa using hs
  clear hs;go_enter func110,ntmps110
  go_wp2_with (first
   |(go_at_call 28;refine HT.o'.mono ?_;rintro e w1 ⟨v,rfl, -,hb,h1⟩;have H1:=hd' h1;clear hb h1))
  go_ret;rw[HV.o',hs'];exact⟨rfl,H1.o',HK.o'⟩
theorem P5 (h:SX E ws b m w) (hl:b.S.l.length<1000000) (ah:ae) (aA:List dD) (n:Nat) (a:Option Addr) (ca:Nat) (hn:n=aA.length) (hc:a=none->ca=0) (hlen:aA.length<=1048576) (ha:At w a (bz aA)) :
 Calls prog 102 #[.pointer (some ⟨E.bb,0,none⟩),.string ah,.slice a n ca] w λr w'=>r= .returned (.int .i64 (b.yX ah aA))/\SX E ws (b.ins ah aA) m w':=by
 have HI:=hd' (JG h.bm.li hl 0 ah aA n a ca hn hc hlen ha);have HN:Hid (b.yX ah aA=(aU b.S.T b.S.l b.on 0 ah aA).2.2.1):=hd' rfl;have HB:Hid (b.ins ah aA=({b with S:=⟨(aU b.S.T b.S.l b.on 0 ah aA).1,(aU b.S.T b.S.l b.on 0 ah aA).2.1,b.S.aF⟩}:aC).keep (aU b.S.T b.S.l b.on 0 ah aA).2.2.2):=hd' rfl;obtain⟨-, -,d2, -⟩:=h.bc;have HS:=hd' h;clear h ha hc hn;generalize aU b.S.T b.S.l b.on 0 ah aA=q at *;obtain⟨U,l,x,er⟩:=q;dsimp only at HI HN HB;by_cases he:er=0
 ·subst he;go_enter func102,ntmps102
  go_wp2_with (go_at_call 94;refine HI.o'.mono ?_;rintro e w1 ⟨rfl,h1,k1⟩;have H1:=hd' (HS.o'.call (b':= {b with S:=⟨U,l,b.S.aF⟩}) h1 k1 rfl);clear h1 k1)
  go_ret;rw[HN.o',HB.o',aC.wR];exact⟨rfl,H1.o'⟩
 ·have he':(er !=0)=true:=by simpa using he
  have HE:=hd' he;clear he;go_enter func102,ntmps102
  go_wp2_with (first
   |(go_at_call 94;refine HI.o'.mono ?_;rintro e w1 ⟨rfl,h1,k1⟩;have H1:=hd' (HS.o'.call (b':= {b with S:=⟨U,l,b.S.aF⟩}) h1 k1 rfl);clear h1 k1)
   |(go_at_call 26;refine(GK H1.o' er).mono ?_;rintro e w2 ⟨rfl,h2⟩;have H2:=hd' h2;clear h2))
  go_ret;rw[HN.o',HB.o',aC.keep,aj HE.o'];exact⟨rfl,H2.o'⟩
theorem I9 (h:SM E ws c s b m w) (ah:ae) (aA:List dD) (n:Nat) (a:Option Addr) (ca:Nat) (hn:n=aA.length) (hc:a=none->ca=0) (hlen:aA.length<=1048576) (ha:At w a (bz aA)) (hs:Fits ah aA) :
 Calls prog 102 #[.pointer (some ⟨E.bb,0,none⟩),.string ah,.slice a n ca] w λr w'=>r= .returned (.int .i64 (b.yX ah aA))/\SM E ws c (s-1) (b.ins ah aA) m w' :=
 (P5 h.sx (by have:=h.ok.len;omega) ah aA n a ca hn hc hlen ha).mono λ_ _ ⟨hr,hw⟩=>⟨hr,hw,h.ok.ins ah hs⟩
theorem rT (h:SM E ws c s b m w) (ah:ae) (hn:ah.size<=maxLen):Calls prog 102 #[.pointer (some ⟨E.bb,0,none⟩),.string ah,.slice none 0 0] w λr w'=>r= .returned (.int .i64 (b.yX ah []))/\SM E ws c (s-1) (b.ins ah []) m w' :=
 I9 h ah [] 0 none 0 rfl (λ_=>rfl) (by simp) (At.nil _ _) (Du hn)
theorem kX (h:SM E ws c s b m w) (ah:ae) (hnm:ah.size<=maxLen) {n:Nat} (hn:n=m.aA.length):Calls prog 102 #[.pointer (some ⟨E.bb,0,none⟩),.string ah,.slice E.a n E.ac] w λr w'=>r= .returned (.int .i64 (b.yX ah m.aA))/\SM E ws c (s-1) (b.ins ah m.aA) m w' :=
 I9 h ah m.aA _ _ _ hn h.sx.mo.nil h.sx.mo.Tf h.sx.at ⟨hnm,h.sx.mo.ash⟩
theorem FM (h:SM E ws c s b m w) (t:ae) (ht:b.used+t.size<=9223372036854775807):Calls prog 52 #[.pointer (some ⟨E.bb,0,none⟩),.string t] w λr w'=>r= .returned (.tuple #[])/\SM E ws c s (b.iq t) m w':=by
 have HK:=hd' (h.ok.iq t);have HI:=hd' (ai0 h.sx.bm.li t (ay _) ht);have HB:Hid (b.iq t=({b with S:=⟨(iG b.S.T (aZ b.S.T b.S.l b.on 0).1 (aZ b.S.T b.S.l b.on 0).2 t).1,b.S.l,b.S.aF⟩,used:=b.used+t.size}:aC).keep (iG b.S.T (aZ b.S.T b.S.l b.on 0).1 (aZ b.S.T b.S.l b.on 0).2 t).2):=hd' rfl;obtain⟨-, -,d2, -⟩:=h.sx.bc;have HS:=hd' h.sx;clear h;generalize iG b.S.T (aZ b.S.T b.S.l b.on 0).1 (aZ b.S.T b.S.l b.on 0).2 t=q at *;obtain⟨U,er⟩:=q;dsimp only at HI HB;by_cases he:er=0
 ·subst he;go_enter func52,ntmps52
  go_wp2_with (go_at_call 90;refine HI.o'.mono ?_;rintro e w1 ⟨rfl,h1,k1⟩;have H1:=hd' (HS.o'.call (b':= {b with S:=⟨U,b.S.l,b.S.aF⟩,used:=b.used+t.size}) h1 k1 rfl);clear h1 k1)
  go_end0
  refine⟨rfl,?_,HK.o'⟩;rw[HB.o',aC.wR];exact H1.o'
 ·have he':(er !=0)=true:=by simpa using he
  have HE:=hd' he;clear he;go_enter func52,ntmps52
  go_wp2_with (first
   |(go_at_call 90;refine HI.o'.mono ?_;rintro e w1 ⟨rfl,h1,k1⟩;have H1:=hd' (HS.o'.call (b':= {b with S:=⟨U,b.S.l,b.S.aF⟩,used:=b.used+t.size}) h1 k1 rfl);clear h1 k1)
   |(go_at_call 26;refine(GK H1.o' er).mono ?_;rintro e w2 ⟨rfl,h2⟩;have H2:=hd' h2;clear h2))
  go_end0
  refine⟨rfl,?_,HK.o'⟩;rw[HB.o',aC.keep,aj HE.o'];exact H2.o'
theorem uC (h:SM E ws c s b m w) (hc:c<=100000):Calls prog 107 #[.pointer (some ⟨E.bb,0,none⟩)] w λr w'=>r= .returned (.tuple #[])/\SM E ws c s b.dx m w':=by
 have HK:=hd' h.ok.dx;have HI:=hd' (ZF h.sx.bm.li (by have:=h.ok.len;omega));have HB:Hid (b.dx=({b with S:=(mP b.on ⟨b.S.T,b.S.l,b.S.aF⟩).1}:aC).keep (mP b.on ⟨b.S.T,b.S.l,b.S.aF⟩).2):=hd' rfl;obtain⟨-, -,d2, -⟩:=h.sx.bc;have HS:=hd' h.sx;clear h;generalize mP b.on ⟨b.S.T,b.S.l,b.S.aF⟩=q at *;obtain⟨U,er⟩:=q;dsimp only at HI HB;by_cases he:er=0
 ·subst he;go_enter func107,ntmps107
  go_wp2_with (go_at_call 154;refine HI.o'.mono ?_;rintro e w1 ⟨rfl,h1,k1⟩;have H1:=hd' (HS.o'.call (b':= {b with S:=U}) h1 k1 rfl);clear h1 k1)
  go_end0
  refine⟨rfl,?_,HK.o'⟩;rw[HB.o',aC.wR];exact H1.o'
 ·have he':(er !=0)=true:=by simpa using he
  have HE:=hd' he;clear he;go_enter func107,ntmps107
  go_wp2_with (first
   |(go_at_call 154;refine HI.o'.mono ?_;rintro e w1 ⟨rfl,h1,k1⟩;have H1:=hd' (HS.o'.call (b':= {b with S:=U}) h1 k1 rfl);clear h1 k1)
   |(go_at_call 26;refine(GK H1.o' er).mono ?_;rintro e w2 ⟨rfl,h2⟩;have H2:=hd' h2;clear h2))
  go_end0
  refine⟨rfl,?_,HK.o'⟩;rw[HB.o',aC.keep,aj HE.o'];exact H2.o'
theorem WM (h:SM E ws c s b m w) (hc:c<=100000) (ah:ae):Calls prog 159 #[.pointer (some ⟨E.bb,0,none⟩),.string ah] w λr w'=>r= .returned (.bool (b.Tg ah))/\SM E ws c s (b.ow ah) m w':=by
 have HK:=hd' (h.ok.ow ah);have HI:=hd' (aha h.sx.bm.li ah (by have:=h.ok.len;omega) (by have:=h.ok.len;omega));have HB:Hid (b.ow ah=({b with S:=(gW b.on ah ⟨b.S.T,b.S.l,b.S.aF⟩).1}:aC).keep (gW b.on ah ⟨b.S.T,b.S.l,b.S.aF⟩).2.2):=hd' rfl;have HA:Hid (b.Tg ah=(gW b.on ah ⟨b.S.T,b.S.l,b.S.aF⟩).2.1):=hd' rfl;obtain⟨-, -,d2, -⟩:=h.sx.bc;have HS:=hd' h.sx;clear h;generalize gW b.on ah ⟨b.S.T,b.S.l,b.S.aF⟩=q at *;obtain⟨U,dn,er⟩:=q;dsimp only at HI HB HA;by_cases he:er=0
 ·subst he;go_enter func159,ntmps159
  go_wp2_with (go_at_call 199;refine HI.o'.mono ?_;rintro e w1 ⟨rfl,h1,k1⟩;have H1:=hd' (HS.o'.call (b':= {b with S:=U}) h1 k1 rfl);clear h1 k1)
  go_ret;refine⟨by rw[HA.o'];rfl,?_,HK.o'⟩;rw[HB.o',aC.wR];exact H1.o'
 ·have he':(er !=0)=true:=by simpa using he
  have HE:=hd' he;clear he;go_enter func159,ntmps159
  go_wp2_with (first
   |(go_at_call 199;refine HI.o'.mono ?_;rintro e w1 ⟨rfl,h1,k1⟩;have H1:=hd' (HS.o'.call (b':= {b with S:=U}) h1 k1 rfl);clear h1 k1)
   |(go_at_call 26;refine(GK H1.o' er).mono ?_;rintro e w2 ⟨rfl,h2⟩;have H2:=hd' h2;clear h2))
  go_ret;refine⟨by rw[HA.o'];rfl,?_,HK.o'⟩;rw[HB.o',aC.keep,aj HE.o'];exact H2.o'
end
end
section
open Go Go.Proofs Go.Shelf Go.RowKit Go.Lib Mem
def IP:Go.Shelf.Ren:=⟨fun|101=>35|119=>175|120=>188|137=>45|151=>142|152=>123|160=>51|161=>149|197=>141|206=>82|208=>50|217=>76|224=>173|225=>172|227=>85|228=>125|231=>83|232=>84|233=>86|234=>87|235=>88|236=>89|260=>187|266=>122|271=>143|n=>n,fun|0=>0|3=>3|4=>4|5=>5|9=>9|21=>21|46=>177|72=>75|105=>161|116=>119|117=>120|119=>204|124=>123|138=>206|139=>207|n=>n,fun|3=>1|4=>2|n=>n⟩
theorem afn:Lays.n161 prog IP:= {
 mixed:=by kernel_rfl
 f119:=func175.trans (aW some (by kernel_rfl))
 f137:=func45.trans (aW some (by kernel_rfl))
 f151:=func142.trans (aW some (by kernel_rfl))
 f152:=func123.trans (aW some (by kernel_rfl))
 f161:=func149.trans (aW some (by kernel_rfl))
 f197:=func141.trans (aW some (by kernel_rfl))
 f217:=func76.trans (aW some (by kernel_rfl))
 f224:=func173.trans (aW some (by kernel_rfl))
 f225:=func172.trans (aW some (by kernel_rfl))
 f227:=func85.trans (aW some (by kernel_rfl))
 f228:=func125.trans (aW some (by kernel_rfl))
 f231:=func83.trans (aW some (by kernel_rfl))
 f233:=func86.trans (aW some (by kernel_rfl))
 f235:=func88.trans (aW some (by kernel_rfl))
 f260:=func187.trans (aW some (by kernel_rfl))
 f266:=func122.trans (aW some (by kernel_rfl))
 t0:=yE
 a0:=yJ
 z0:=yG
 v0:=yB
 t3:=qD
 a3:=rD
 z3:=rC
 v3:=rz
 t4:=rA
 a4:=sO
 z4:=sM
 v4:=sJ
 t5:=qC
 a5:=yI
 z5:=yF
 v5:=yA
 t9:=jK
 a9:=sN
 z9:=sK
 v9:=sI
 t21:=Hu
 a21:=KU
 z21:=KQ
 v21:=KO
 t46:=Hw
 a46:=Ie
 z46:=Hy
 v46:=Ht
 t105:=underlying161
 a105:=Tryz.isAgg161
 z105:=Tryz.sizeOf161
 v105:=Tryz.zeroValue161
 t116:=underlying119
 a116:=Tryz.isAgg119
 z116:=Tryz.sizeOf119
 t117:=underlying120
 a117:=Tryz.isAgg120
 z117:=Tryz.sizeOf120
 v117:=Tryz.zeroValue120
 t119:=underlying204
 a119:=Tryz.isAgg204
 z119:=Tryz.sizeOf204
 t124:=underlying123
 a124:=Tryz.isAgg123
 z124:=Tryz.sizeOf123
 v124:=Tryz.zeroValue123
 t138:=underlying206
 a138:=Tryz.isAgg206
 z138:=Tryz.sizeOf206
 v138:=Tryz.zeroValue206
 t139:=underlying207
 a139:=Tryz.isAgg207
 z139:=Tryz.sizeOf207
 v139:=Tryz.zeroValue207
 g3:=by kernel_rfl
 g4:=by kernel_rfl}
theorem afo:Lays.n160 prog IP:= {
 mixed:=by kernel_rfl
 f119:=func175.trans (aW some (by kernel_rfl))
 f120:=func188.trans (aW some (by kernel_rfl))
 f137:=func45.trans (aW some (by kernel_rfl))
 f151:=func142.trans (aW some (by kernel_rfl))
 f152:=func123.trans (aW some (by kernel_rfl))
 f160:=func51.trans (aW some (by kernel_rfl))
 f197:=func141.trans (aW some (by kernel_rfl))
 f217:=func76.trans (aW some (by kernel_rfl))
 f224:=func173.trans (aW some (by kernel_rfl))
 f225:=func172.trans (aW some (by kernel_rfl))
 f227:=func85.trans (aW some (by kernel_rfl))
 f228:=func125.trans (aW some (by kernel_rfl))
 f231:=func83.trans (aW some (by kernel_rfl))
 f232:=func84.trans (aW some (by kernel_rfl))
 f233:=func86.trans (aW some (by kernel_rfl))
 f234:=func87.trans (aW some (by kernel_rfl))
 f235:=func88.trans (aW some (by kernel_rfl))
 f236:=func89.trans (aW some (by kernel_rfl))
 f260:=func187.trans (aW some (by kernel_rfl))
 f266:=func122.trans (aW some (by kernel_rfl))
 f271:=func143.trans (aW some (by kernel_rfl))
 t0:=yE
 a0:=yJ
 z0:=yG
 v0:=yB
 t3:=qD
 a3:=rD
 z3:=rC
 v3:=rz
 t4:=rA
 a4:=sO
 z4:=sM
 v4:=sJ
 t5:=qC
 a5:=yI
 z5:=yF
 v5:=yA
 t9:=jK
 a9:=sN
 z9:=sK
 v9:=sI
 t21:=Hu
 a21:=KU
 z21:=KQ
 v21:=KO
 t46:=Hw
 a46:=Ie
 z46:=Hy
 v46:=Ht
 t105:=underlying161
 a105:=Tryz.isAgg161
 z105:=Tryz.sizeOf161
 v105:=Tryz.zeroValue161
 t116:=underlying119
 a116:=Tryz.isAgg119
 z116:=Tryz.sizeOf119
 t117:=underlying120
 a117:=Tryz.isAgg120
 z117:=Tryz.sizeOf120
 v117:=Tryz.zeroValue120
 t119:=underlying204
 a119:=Tryz.isAgg204
 z119:=Tryz.sizeOf204
 t124:=underlying123
 a124:=Tryz.isAgg123
 z124:=Tryz.sizeOf123
 v124:=Tryz.zeroValue123
 t138:=underlying206
 a138:=Tryz.isAgg206
 z138:=Tryz.sizeOf206
 v138:=Tryz.zeroValue206
 t139:=underlying207
 a139:=Tryz.isAgg207
 z139:=Tryz.sizeOf207
 v139:=Tryz.zeroValue207
 g3:=by kernel_rfl
 g4:=by kernel_rfl}
theorem afp:Lays.n101 prog IP:= {
 mixed:=by kernel_rfl
 f101:=func35.trans (aW some (by kernel_rfl))
 f206:=func82.trans (aW some (by kernel_rfl))
 f208:=func50.trans (aW some (by kernel_rfl))
 t3:=qD
 a3:=rD
 z3:=rC
 v3:=rz
 t4:=rA
 a4:=sO
 z4:=sM
 v4:=sJ
 t9:=jK
 a9:=sN
 z9:=sK
 v9:=sI}
theorem Rb (s:ae) (w:af):Calls prog 149 #[.string s,.string ⟨#[9,10,12,13,32]⟩] w λe w'=>e= .returned (.string ⟨(Lib.trimLeftS s.data.toList [9,10,12,13,32]).toArray⟩)/\Below w.heap.size w w' :=
 Any.strings_TrimLeft_laid afn (by kernel_rfl) s ⟨#[9,10,12,13,32]⟩ w (by decide) (ascii_of_all (by decide))
theorem ad1 (s:ae) (w:af) (hs:s.size<=9223372036854775807):Calls prog 51 #[.string s,.string ⟨#[9,10,12,13,32]⟩] w λe w'=>e= .returned (.string ⟨(Lib.trimS s.data.toList [9,10,12,13,32]).toArray⟩)/\Below w.heap.size w w' :=
 Any.strings_Trim_laid afo (by kernel_rfl) s ⟨#[9,10,12,13,32]⟩ w hs (by decide) (ascii_of_all (by decide))
theorem BO (s p:ae) (w:af):Calls prog 35 #[.string s,.string p] w λe w'=>e= .returned (.string ⟨(Lib.trimPrefix s.data.toList p.data.toList).toArray⟩)/\w'=w :=
 Any.strings_TrimPrefix afp s p w
theorem aeq (s:ae):(⟨(Lib.trimLeftS s.data.toList [9,10,12,13,32]).toArray⟩:ae)=mQ s:=by
 unfold mQ Lib.trimLeftS Vq;rw[dZ];rfl
theorem MU (l:List ax):(Vq l).size=l.length:=Lib.size_mk l
theorem uY (s:ae):(gz s).size+(mQ s).size=s.size:=by
 unfold gz mQ;rw[MU,MU,<-fC,Io,aR]
theorem UC (s:ae):(mQ s).size<=s.size:=by have:=uY s;omega
theorem OC (s:ae):s.extract 0 (s.size-(mQ s).size)=gz s:=by
 have h:=uY s;have h1:s.size-(mQ s).size=(gz s).size:=by omega
 rw[h1];have h2:s=(⟨s.toList.toArray⟩:ae):=(uE s).symm
 have h3:(⟨s.toList.toArray⟩:ae).extract 0 (gz s).size=gz s:=by
  rw[Lib.extract_mk,xh,Ef];unfold gz;rw[MU];have h4:s.toList.take (s.toList.takeWhile isSp).length=s.toList.takeWhile isSp:=(List.prefix_iff_eq_take.1 (List.takeWhile_prefix isSp)).symm;rw[h4];rfl
 rw[<-h2]at h3;exact h3
theorem rJ (s:ae) (w:af) (hs:s.size<=4611686018427387904):Calls prog 99 #[.string s] w λr w'=>r= .returned (.tuple #[.string (gz s),.string (mQ s)])/\Below w.heap.size w w':=by
 have HT:=hd' (Rb s w);rw[aeq]at HT;have hsz:=uY s;have HE:=hd' (OC s);generalize mQ s=r at *;generalize gz s=a at *;have hw:IntKind.i64.wrap ((s.size:Int)-(r.size:Int))=((s.size-r.size:Nat):Int):=by rw[qG];omega
 go_enter func99,ntmps99
 go_wp2_with (go_at_call 149;refine HT.o'.mono ?_;rintro e w1 ⟨rfl,hb⟩;have HB:=hd' hb;clear hb)
 go_ret2;rw[HE.o'];exact⟨rfl,HB.o'⟩
end
section
open Go.RowKit Mem
section
variable {E:BE} {ws w w':af} {c:Nat} {s:Int} {b b':aC} {m m':aO}
theorem Pe (h:SM E ws c s b m w) (ah:ae) (aA:List dD) (n:Nat) (a:Option Addr) (ca:Nat) (hn:n=aA.length) (hc:a=none->ca=0) (hlen:aA.length<=1048576) (ha:At w a (bz aA)) (hs:Fits ah aA) :
 Calls prog 119 #[.pointer (some ⟨E.bb,0,none⟩),.string ah,.slice a n ca] w λr w'=>r= .returned (.tuple #[])/\SM E ws c (s-1) (b.single ah aA) m w':=by
 have HI:=hd' (I9 h ah aA n a ca hn hc hlen ha hs);have HN:Hid ((b.ins ah aA).pop=b.single ah aA):=hd' rfl;clear h ha hc hn;generalize b.yX ah aA=x at *;generalize b.ins ah aA=bi at *;go_enter func119,ntmps119
 go_wp2_with (first
  |(go_at_call 102;refine HI.o'.mono ?_;rintro e w1 ⟨rfl,h1⟩;obtain⟨-,d1, -⟩:=h1.sx.bc;have H1:=hd' h1;clear h1)
  |(go_at_call 56;refine(vS H1.o').mono ?_;rintro e w2 ⟨rfl,h2⟩;have H2:=hd' h2;clear h2))
 go_end0
 rw[<-HN.o'];exact⟨rfl,H2.o'⟩
theorem X3 (h:SM E ws c s b m w) (ah:ae) (hn:ah.size<=maxLen):Calls prog 119 #[.pointer (some ⟨E.bb,0,none⟩),.string ah,.slice none 0 0] w λr w'=>r= .returned (.tuple #[])/\SM E ws c (s-1) (b.single ah []) m w' :=
 Pe h ah [] 0 none 0 rfl (λ_=>rfl) (by simp) (At.nil _ _) (Du hn)
theorem Al (h:SM E ws c s b m w) (ah:ae) (hnm:ah.size<=maxLen) {n:Nat} (hn:n=m.aA.length):Calls prog 119 #[.pointer (some ⟨E.bb,0,none⟩),.string ah,.slice E.a n E.ac] w λr w'=>r= .returned (.tuple #[])/\SM E ws c (s-1) (b.single ah m.aA) m w' :=
 Pe h ah m.aA _ _ _ hn h.sx.mo.nil h.sx.mo.Tf h.sx.at ⟨hnm,h.sx.mo.ash⟩
theorem M9 (h:SX E ws b m w) (hl:b.S.l.length<1000000) (ah:ae):Calls prog 102 #[.pointer (some ⟨E.bb,0,none⟩),.string ah,.slice E.a m.aA.length E.ac] w λr w'=>r= .returned (.int .i64 (b.yX ah m.aA))/\SX E ws (b.ins ah m.aA) m w' :=
 P5 h hl ah m.aA _ _ _ rfl h.mo.nil h.mo.Tf h.at
theorem aag (h:SX E ws b m w) (hl:b.S.l.length<1000000) (aD:Int):Calls prog 151 #[.pointer (some ⟨E.bb,0,none⟩),.pointer (some ⟨E.mb,0,none⟩),.int .i64 aD] w λr w'=>r= .returned (.tuple #[])/\SX E ws (b.pE m aD) m w':=by
 obtain⟨-,c1,c2, -⟩:=h.mc;have HI:=hd' (M9 (h.world (aQ w.heap.size w).drew) hl m.ah);have HN:Hid (b.pE m aD= {b.ins m.ah m.aA with raw:=aD,ah:=m.ah,mV:=(b.ins m.ah m.aA).aD,aD:=5}):=hd' rfl;clear h;generalize b.yX m.ah m.aA=x at *;generalize b.ins m.ah m.aA=bi at *;go_enter func151,ntmps151
 go_wp2_with fail
 go_region_law (first
  |(go_simp;go_at_call 102;refine HI.o'.mono ?_
    rintro e w2 ⟨rfl,h2⟩;have H2:=hd' h2;obtain⟨-,e1, -⟩:=h2.mc;obtain⟨-, -, -,d3,d4, -, -, -,d8,d9, -⟩:=h2.bc;have f3:=h2.bf 3 (by omega);have f4:=h2.bf 4 (by omega);have f8:=h2.bf 8 (by omega);have f9:=h2.bf 9 (by omega)
    clear h2))
 all_goals
  try simp only[Act.put,jA,jC,jB,dV,dF,dK]
  go_wp2_with fail
  go_end0
  rw[HN.o'];exact⟨rfl,(((H2.o'.raw aD).ah m.ah).mV bi.aD).aD 5⟩
theorem NL (h:SM E ws c s b m w) (hu:b.used+m.aL.size<=9223372036854775807):Calls prog 103 #[.pointer (some ⟨E.bb,0,none⟩),.pointer (some ⟨E.mb,0,none⟩)] w λr w'=>r= .returned (.bool (aC.wh m))/\SM E ws c s (b.eQ m) (aC.bR m) w':=by
 obtain⟨k,nm,ats,sf,tx⟩:=m;have hu':b.used+tx.size<=9223372036854775807:=hu;obtain⟨c0, -, -, -,c4⟩:=h.sx.mc;have HB:Hid (b.eQ ⟨k,nm,ats,sf,tx⟩=if k==1 then(if(gz tx).toList.isEmpty then b else b.iq (gz tx))else b):=hd' rfl;have HM:Hid (aC.bR ⟨k,nm,ats,sf,tx⟩=if k==1 then⟨k,nm,ats,sf,mQ tx⟩else⟨k,nm,ats,sf,tx⟩):=hd' rfl;have HT:Hid (aC.wh ⟨k,nm,ats,sf,tx⟩=((k==1)&&(mQ tx).toList.isEmpty)):=hd' rfl;have HS:=hd' h;have HSp:=hd' (rJ tx w h.sx.mo.Uf);have hsz:=uY tx;clear h hu;dsimp only at c0 c4;by_cases h1:k=1
 ·subst h1;rw[au (by rfl)]at HB HM;generalize gz tx=a at *;generalize mQ tx=r at *;go_enter func103,ntmps103
  go_wp2_with (first
   |(go_at_call 99;refine HSp.o'.mono ?_;rintro e w1 ⟨rfl,hb⟩;have H1:=hd' (HS.o'.world hb);obtain⟨-,q4⟩:=H1.o'.sx.mf;obtain⟨-, -, -, -,e4⟩:=H1.o'.sx.mc;have H2:=hd' (H1.o'.aL r (show r.size<=tx.size by omega));clear hb)
   |(go_at_call 52;refine(FM H2.o' a (by omega)).mono ?_;rintro e w3 ⟨rfl,h3⟩;have H3:=hd' h3;clear h3))
  ·go_ret;rw[HB.o',HM.o',HT.o'];have e0:a.toList.isEmpty=false:=by simpa using (by assumption:(!a.toList.isEmpty)=true)
   rw[e0];exact⟨rfl,H3.o'⟩
  ·go_ret;rw[HB.o',HM.o',HT.o'];have e0:a.toList.isEmpty=true:=by simpa using (by assumption:(!a.toList.isEmpty)=false)
   rw[e0];exact⟨rfl,H2.o'⟩
 ·rw[aj (by simpa using h1)]at HB HM;have hk':(k !=1)=true:=by simpa using h1
  have HK':Hid ((k==1)=false):=hd' (by simpa using h1);clear h1;go_enter func103,ntmps103
  go_wp2_with fail
  go_ret;rw[HB.o',HM.o',HT.o',HK'.o'];exact⟨rfl,HS.o'⟩
end
end
section
open Go.RowKit Mem
section
variable {E:BE} {ws w w':af} {c:Nat} {s:Int} {b b':aC} {m m':aO}
theorem tB {P:Program} {f:FuncId} {a:Array ak} {w:af} {x:Bool} {S:af->Prop} {K:Ending->af->Prop} (h:Calls P f a w λr w'=>r= .returned (.bool x)/\S w') (hK: ∀t,x=t-> ∀w',S w'->K (.returned (.bool t)) w'):Calls P f a w K :=
 h.mono λ_ _ ⟨h1,h2⟩=>h1▸hK x rfl _ h2
theorem bools:(∀b,(true&&b)=b)/\(∀b,(false&&b)=false)/\(∀b,(b&&true)=b)/\(∀b,(b&&false)=false)/\(∀b,(b||true)=true)/\(∀b,(true||b)=true)/\(∀b,(b||false)=b)/\(∀b,(false||b)=b)/\(∀b,(b&&b)=b)/\(∀b,(b||b)=b)/\(!true)=false/\(!false)=true/\(false=true)=False:=by simp
theorem Wu (h:SM E ws c s b m w) (x:ae):Calls prog 155 #[.string x] w λr w'=>r= .returned (.bool (SL x))/\SM E ws c s b m w':=(ade x w).mono λ_ _ ⟨hr,hb⟩=>⟨hr,h.world hb⟩
theorem Ff (h:SM E ws c s b m w) (x:ae):Calls prog 156 #[.string x] w λr w'=>r= .returned (.bool (kY x))/\SM E ws c s b m w':=(VP x w).mono λ_ _ ⟨hr,hb⟩=>⟨hr,h.world hb⟩
theorem Qb (h:SM E ws c s b m w) (x:ae):Calls prog 162 #[.string x] w λr w'=>r= .returned (.bool (Kz x))/\SM E ws c s b m w':=(Y5 x w).mono λ_ _ ⟨hr,hb⟩=>⟨hr,h.world hb⟩
theorem bN (l:List ak):ed l.toArray=l.map strOf:=by unfold ed;rw[List.toList_toArray]
theorem VO (h:SX E ws b m w) (hl:b.S.l.length<1000000):Calls prog 104 #[.pointer (some ⟨E.bb,0,none⟩),.pointer (some ⟨E.mb,0,none⟩)] w λr w'=>r= .returned (.bool (b.gV m).2)/\SX E ws (b.gV m).1 m w':=by
 have H:=hd' h;obtain⟨-,c1,c2, -⟩:=H.o'.mc;clear h;go_enter func104,ntmps104
 go_wp2_with (first
  |(go_at_call 101;refine(aeg H.o' ⟨rfl,by rfl,by rfl,by decide⟩).mono ?_;rintro e w1 ⟨rfl,h1⟩;generalize ht:cB m _=t;simp only[bN,strOf,dX,fK]at ht;clear c1 c2;replace H:=hd' h1;clear h1;obtain⟨-,c1,c2, -⟩:=H.o'.mc)
  |(go_at_call 151;refine(aag H.o' hl _).mono ?_;rintro e w1 ⟨rfl,h1⟩;replace H:=hd' h1;clear h1))
 case _ =>
  have HI:=hd' (M9 (H.o'.world (aQ w1.heap.size w1).drew) hl m.ah)
  go_region_law (first
   |(go_simp;go_at_call 102;refine HI.o'.mono ?_
     rintro e w2 ⟨rfl,h2⟩;have H2:=hd' h2;obtain⟨-,d1, -⟩:=h2.bc
     clear h2))
  all_goals
   try simp only[Act.put,jA,jC,jB,dV,dF,dK]
   go_wp2_with (go_at_call 56;refine(Rz H2.o').mono ?_;rintro e w3 ⟨rfl,h3⟩;have H3:=hd' h3;clear h3)
   go_ret;have hv:=aC.gV.eq_1 b m;simp only[*,bools,dY,dM,reduceIte,iL,Int.reduceBEq]at hv;rw[hv];exact⟨rfl,H3.o'⟩
 all_goals
  go_ret;have hv:=aC.gV.eq_1 b m;simp only[*,bools,dY,dM,reduceIte,iL,Int.reduceBEq]at hv;rw[hv];exact⟨rfl,H.o'⟩
theorem afN (h:(b.gV m).2=false):(b.gV m).1=b:=by
 unfold aC.gV at h |-;split at h
 ·cases h
 ·split at h
  ·cases h
  ·split at h
   ·cases h
   ·simp[*]
theorem Ok.pE (h:Ok c s b) (hm:Fits m.ah m.aA) (aD:Int):Ok c (s-1) (b.pE m aD):=(h.ins m.ah hm).of rfl id
theorem Ok.gV (h:Ok c s b) (hm:Fits m.ah m.aA):Ok c s (b.gV m).1:=by
 unfold aC.gV;split
 ·exact(h.ins m.ah hm).pop.more (ay _) (by omega)
 ·split
  ·exact(h.pE hm 1).more (ay _) (by omega)
  ·split
   ·exact(h.pE hm 2).more (ay _) (by omega)
   ·exact h
theorem ahP (h:SM E ws c s b m w) (aD:Int):Calls prog 151 #[.pointer (some ⟨E.bb,0,none⟩),.pointer (some ⟨E.mb,0,none⟩),.int .i64 aD] w λr w'=>r= .returned (.tuple #[])/\SM E ws c (s-1) (b.pE m aD) m w' :=
 (aag h.sx (by have:=h.ok.len;omega) aD).mono λ_ _ ⟨hr,hw⟩=>⟨hr,hw,h.ok.pE h.sx.mo.fits aD⟩
theorem GI (h:SM E ws c s b m w):Calls prog 104 #[.pointer (some ⟨E.bb,0,none⟩),.pointer (some ⟨E.mb,0,none⟩)] w λr w'=>r= .returned (.bool (b.gV m).2)/\SM E ws c s (if(b.gV m).2 then(b.gV m).1 else b) m w' :=
 (VO h.sx (by have:=h.ok.len;omega)).mono λ_ _ ⟨hr,hw⟩=>⟨hr,by
   cases ht:(b.gV m).2
   ·rw[afN ht]at hw;exact⟨hw,h.ok⟩
   ·exact⟨hw,h.ok.gV h.sx.mo.fits⟩⟩
theorem Ap (h:SM E ws c s b m w):Calls prog 165 #[.pointer (some ⟨E.bb,0,none⟩)] w λr w'=>r= .returned (.tuple #[])/\SM E ws c s b.gB m w':=by
 have H:=hd' h;obtain⟨-,d1, -, -, -, -, -, -, -, -, -⟩:=H.o'.sx.bc;clear h;go_enter func165,ntmps165
 go_wp2_with ((first
  |(go_at_call 113;refine' tB (uH ?h ?_) ?_)
  |(go_at_call 117;refine' (xH ?h _).mono ?_)
  |(go_at_call 114;refine' (zn ?h ?_).mono ?_));((case h=>with_reducible first|exact H.o'|exact H.o'.fP _ (by decide));any_goals first|(rintro e w1 ⟨rfl,h1⟩;(try simp only[bN,strOf,dX,fK,aC.gZ]at h1);clear d1;replace H:=hd' h1;clear h1;obtain⟨-,d1, -, -, -, -, -, -, -, -, -⟩:=H.o'.sx.bc)|(intro t ht w1 h1;(try simp only[bN,strOf,dX,fK,aC.gZ]at ht h1);cases t <;>((try simp only[ht,reduceIte,gQ]at h1);clear d1;replace H:=hd' h1;clear h1;obtain⟨-,d1, -, -, -, -, -, -, -, -, -⟩:=H.o'.sx.bc))|exact⟨by(with_reducible rfl),by rfl,by rfl,by(decide)⟩|fail))
 all_goals
  go_end0
  have hv:=aC.gB.eq_1 b;simp only[*,bools,dY,dM,reduceIte,iL,Int.reduceBEq]at hv;rw[hv];refine⟨by(rfl),?_⟩
  first|(with_reducible first|exact H.o'|exact(H.o'.head _))|exact H.o'.skip _
end
end
end Go.Proofs.YtnlbcifhedjbfaaGreatDoor
