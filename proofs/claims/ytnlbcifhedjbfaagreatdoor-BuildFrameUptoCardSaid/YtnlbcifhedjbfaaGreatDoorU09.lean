/- oZ joined for a claim: aw1, awY, aw2, BuJ, TxB, FrA, FrB: plain laws and contracts. No conditions beyond those that each lemma types. -/
import Derived.Test.YtnlbcifhedjbfaaGreatDoorU08
import Derived.Test.YtnlbcifhedjbfaaGreatDoorU01
import Derived.Test.YtnlbcifhedjbfaaGreatDoorU03
import Derived.Test.YtnlbcifhedjbfaaGreatDoorU07
set_option linter.unusedVariables false
set_option linter.unusedSimpArgs false
namespace Go.Proofs.YtnlbcifhedjbfaaGreatDoor
open Go.RowKit Mem
section
def MD (b:aC):Prop:=b.aD=5->b.mV≠5
section
variable {b c:aC} {m:aO}
theorem MD.of (h:b.aD≠5):MD b:=λe=>absurd e h
theorem MD.same (h:MD b) (h1:c.aD=b.aD) (h2:c.mV=b.mV):MD c:=by unfold MD;rw[h1,h2];exact h
theorem Gr (b:aC) (e:Int):(b.keep e).aD=b.aD:=(b.tL e).2.1
theorem tJ (b:aC) (e:Int):(b.keep e).mV=b.mV:=(b.tL e).2.2.1
theorem Vo (b:aC) (sp:Int) (nm:ae) (l:List dD):(b.jv sp nm l).1.aD=b.aD:=Gr _ _
theorem iB (b:aC) (nm:ae) (l:List dD):(b.ins nm l).aD=b.aD:=Gr _ _
theorem vT (b:aC) (t:ae):(b.iq t).aD=b.aD:=Gr _ _
theorem gI (b:aC):b.dx.aD=b.aD:=Gr _ _
theorem vv (b:aC) (nm:ae):(b.ow nm).aD=b.aD:=Gr _ _
theorem iT {p:Prop} [Decidable p] {r q:aC} {n:Int} (h1:r.aD=n) (h2:q.aD=n):(if p then r else q).aD=n:=by
 by_cases h:p
 ·rw[au h];exact h1
 ·rw[aj h];exact h2
theorem MD.ite {p:Prop} [Decidable p] {r q:aC} (h1:p->MD r) (h2: ¬p->MD q):MD (if p then r else q):=by
 by_cases h:p
 ·rw[au h];exact h1 h
 ·rw[aj h];exact h2 h
theorem MD.bF {α:Type} {p:Prop} [Decidable p] {r q:aC×α} (h1:p->MD r.1) (h2: ¬p->MD q.1):MD (if p then r else q).1:=by
 by_cases h:p
 ·rw[au h];exact h1 h
 ·rw[aj h];exact h2 h
theorem MD.mo {n:Int} (h:c.aD=n) (hn:n≠5):MD c:=MD.of (by rw[h];exact hn)
theorem Gt (h:b.aD≠5) (m:aO) (k:Int):MD (b.pE m k):=λ_=>by
 show(b.ins m.ah m.aA).aD≠5;rw[iB];exact h
theorem Gu (h:b.aD≠5) (m:aO):MD (b.gV m).1:=by
 unfold aC.gV;refine MD.bF (λ_=> .mo (iB b _ _) h) λ_=>MD.bF (λ_=>Gt h m 1) λ_=>MD.bF (λ_=>Gt h m 2) λ_=> .of h
theorem qy (b:aC):b.gB.aD=b.aD:=by unfold aC.gB;split <;>rfl
theorem Ch (names:List ae) (b:aC): ∀l,(aC.tO names b l).aD=b.aD
 | []=>rfl
 |x::r=>by
  rw[aC.tO];exact iT rfl (iT rfl (Ch names b r))
theorem PO (want:ae) (b:aC): ∀l,(aC.oL want b l).aD=b.aD
 | []=>rfl
 |x::r=>by
  rw[aC.oL];exact iT rfl (iT rfl (PO want b r))
theorem zG (b:aC): ∀l,(aC.jQ b l).aD=b.aD/\(aC.jQ b l).mV=b.mV/\(aC.jQ b l).S.l.length<=l.length
 | []=>⟨rfl,rfl,ay _⟩
 |x::r=>by
  rw[aC.jQ];by_cases h:((aX b.S.T x==0)||(gT (aX b.S.T x) (bq b.S.T x) (bW b.S.T x) !=0))=true
  ·rw[au h];refine⟨rfl,rfl,?_⟩;show(x::r).reverse.length<=_;rw[Iq];exact ay _
  ·rw[aj h];obtain⟨h1,h2,h3⟩:=zG b r;exact⟨h1,h2,Nat.le_succ_of_le h3⟩
theorem Gq (b:aC) (want:ae):(b.other want).aD=b.aD:=PO _ _ _
theorem zF (b:aC) (m:aO):(b.forms m).aD=b.aD:=by
 unfold aC.forms;exact iT ((iB _ _ _).trans (gI b)) ((iB _ _ _).trans (gI b))
theorem Vs (h:b.aD≠5) (m:aO):MD (b.ng m):=by
 unfold aC.ng;refine MD.ite (λ_=>Gt h m 1) λ_=>MD.ite (λ_=>Gt ?_ m 2) λ_=>Gt h m 2
 rw[gI,qy];exact h
theorem MS (b:aC) (m:aO):(b.phrases m).aD=b.aD:=by
 have h1: ∀c:aC,c.aD=b.aD->(if dh [⟨#[97,112,112,108,101,116]⟩,⟨#[109,97,114,113,117,101,101]⟩,⟨#[111,98,106,101,99,116]⟩] m.ah then(c.dx.ins m.ah m.aA).vz else c.dx.ins m.ah m.aA).aD=b.aD:=λc hc=>by
  have h2:(c.dx.ins m.ah m.aA).aD=b.aD:=(iB _ _ _).trans ((gI c).trans hc);exact iT h2 h2
 unfold aC.phrases;refine h1 _ (iT (iT rfl rfl) (iT (iT rfl rfl) rfl))
theorem Cj (b:aC) (m:aO) (sp:Int):(b.uk m sp).aD=b.aD/\(b.uk m sp).mV=b.mV:=by
 unfold aC.uk;simp only;split
 ·exact⟨Vo b sp _ _,tJ _ _⟩
 ·exact⟨Vo b sp _ _,tJ _ _⟩
theorem acy (h:b.aD≠5) (m:aO):MD (b.blocks m):=by
 have h2:(aC.gB (if m.ah.toList==([108,105]:List ax)then b.item [⟨#[108,105]⟩]else if(m.ah.toList==([100,100]:List ax))||(m.ah.toList==([100,116]:List ax))then b.item [⟨#[100,100]⟩,⟨#[100,116]⟩]else b)).aD=b.aD :=
  (qy _).trans (iT (Ch _ _ _) (iT (Ch _ _ _) rfl))
 unfold aC.blocks;simp only;generalize aC.gB (if m.ah.toList==([108,105]:List ax)then b.item [⟨#[108,105]⟩]else if(m.ah.toList==([100,100]:List ax))||(m.ah.toList==([100,116]:List ax))then b.item [⟨#[100,100]⟩,⟨#[100,116]⟩]else b)=b2 at h2 |-;have h4:(if kY m.ah&&b2.at' kN then b2.pop else b2).aD=b.aD:=iT h2 h2;generalize (if kY m.ah&&b2.at' kN then b2.pop else b2)=b3 at h4 |-;have h5:(b3.ins m.ah m.aA).aD=b.aD:=(iB _ _ _).trans h4;exact MD.ite (λ_=> .mo ((iB b2 _ _).trans h2) h) λ_=>MD.ite (λ_=> .mo h5 h) λ_=>MD.ite (λ_=> .mo (n:=6) rfl (by decide)) λ_=> .mo h5 h
theorem ae9 (h:b.aD≠5) (m:aO):MD (b.opens m).1:=by
 rw[aC.opens.eq_1];refine MD.bF (λ_=> .of h) λ_=>MD.bF (λ_=>Gu h m) λ_=>MD.bF (λ_=>acy h m) λ_=>MD.bF (λ_=> ?_) λ_=>MD.bF (λ_=> .mo (zF b m) h) λ_=>MD.bF (λ_=> ?_) λ_=>MD.bF (λ_=> .mo (iB b _ _) h) λ_=>MD.bF (λ_=> .mo ((iB b.dx _ _).trans (gI b)) h) λ_=>MD.bF (λ_=>Vs h m) λ_=>MD.bF (λ_=> .mo ((Cj _ _ _).1.trans (gI b)) h) λ_=> .mo (MS b m) h
 ·exact .mo ((zF _ _).trans (iT rfl (vv b _))) h
 ·exact .mo ((zF _ _).trans (iT ((vv _ _).trans (gI b)) (gI b))) h
theorem uT (b:aC) (sc:Int) (but:ae) (names:List ae):(b.gZ sc but names).aD=b.aD:=iT rfl rfl
theorem acx (h:b.aD≠5) (m:aO):MD (b.closes m).1:=by
 rw[aC.closes.eq_1];refine MD.bF (λ_=> ?_) λ_=>MD.bF (λ_=> .mo ?_ h) λ_=>MD.bF (λ_=> .mo (uT b _ _ _) h) λ_=>MD.bF (λ_=> .mo (uT b _ _ _) h) λ_=>MD.bF (λ_=> .mo (uT b _ _ _) h) λ_=>MD.bF (λ_=> .mo (uT b _ _ _) h) λ_=>MD.bF (λ_=> .mo ?_ h) λ_=>MD.bF (λ_=> .mo (iT (uT b _ _ _) rfl) h) λ_=>MD.bF (λ_=> .mo ((iB b.dx _ _).trans (gI b)) h) λ_=> .mo (Gq b _) h
 ·exact MD.bF (λ_=> .mo (n:=12) rfl (by decide)) λ_=> .of h
 ·exact(qy _).trans (iT rfl (iB b _ _))
 ·exact iT ((Gq _ _).trans (vv b _)) (vv b _)
theorem Dl (h:b.aD≠5) (m:aO):MD (b.eO m).1:=by
 rw[aC.eO.eq_1];exact MD.bF (λ_=> .mo ((vT _ _).trans (gI b)) h) λ_=>MD.bF (λ_=>ae9 h m) λ_=>MD.bF (λ_=>acx h m) λ_=> .of h
theorem zH (b:aC) (m:aO):(b.eQ m).aD=b.aD:=by
 unfold aC.eQ;exact iT (iT rfl (vT b _)) rfl
theorem acz (h:b.aD≠5) (m:aO):MD (b.uf m).1:=Dl (b:= {b with on:=true}) h m
theorem PQ (b:aC) (t:ae):(b.eO ⟨1,⟨#[]⟩,[],false,t⟩).1.aD=b.aD:=(vT _ _).trans (gI b)
theorem ES (T:aB): ∀l,aC.jO T l≠5/\aC.jO T l≠0/\aC.jO T l≠1/\aC.jO T l≠2/\aC.jO T l≠3/\(aC.jO T l=4\/aC.jO T l=6\/aC.jO T l=7\/aC.jO T l=8\/aC.jO T l=9\/aC.jO T l=10\/aC.jO T l=11)
 | []=>by rw[aC.jO];decide
 |x::r=>by
  rw[aC.jO];have h:=ES T r;split
  ·exact h
  ·split
   ·decide
   ·split
    ·decide
    ·split
     ·decide
     ·split
      ·decide
      ·split
       ·decide
       ·split
        ·decide
        ·split
         ·decide
         ·exact h
theorem EU (h:b.aD≠5) (m:aO):MD (b.iE m).1:=by
 rw[aC.iE.eq_1];refine MD.bF (λ_=> .of h) λ_=>MD.bF (λ_=> .mo (n:=7) rfl (by decide)) λ_=>MD.bF (λ_=> .mo (n:=8) rfl (by decide)) λ_=>MD.bF (λ_=> .mo (n:=8) rfl (by decide)) λ_=>MD.bF (λ_=> .mo (n:=9) rfl (by decide)) λ_=>MD.bF (λ_=> .mo (n:=9) rfl (by decide)) λ_=>MD.bF (λ_=>MD.bF (λ_=> .of ?_) λ_=> .of h) λ_=>MD.bF (λ_=> .of h) λ_=>MD.bF (λ_=>Gu h m) λ_=>MD.bF (λ_=> .of h) λ_=>acz h m
 exact(ES _ _).1
theorem MW (h:MD b) (m:aO):MD (b.fE m).1:=by
 rw[aC.fE.eq_1];refine MD.bF (λe=> ?_) λe0=>MD.bF (λe=> ?_) λe1=>MD.bF (λe=> ?_) λe2=>MD.bF (λe=> ?_) λe3=>MD.bF (λe=> ?_) λe4=>MD.bF (λe=> ?_) λe5=>MD.bF (λe=> ?_) λe6=>MD.bF (λe=> ?_) λe7=>MD.bF (λe=> ?_) λe8=>MD.bF (λe=> ?_) λe9=>MD.bF (λe=> ?_) λe10=>MD.bF (λe=> ?_) λe11=> ?_
 ·have hn:b.aD≠5:=by omega
  rw[aC.oh.eq_1];exact MD.bF (λ_=> .of hn) λ_=>MD.bF (λ_=> .of hn) λ_=>MD.bF (λ_=> .mo (iB (b.goto 1) _ _) (show(1:Int)≠5 by decide)) λ_=> .mo (iB (b.goto 1) _ _) (show(1:Int)≠5 by decide)
 ·have hn:b.aD≠5:=by omega
  rw[aC.om.eq_1];exact MD.bF (λ_=> .of hn) λ_=>MD.bF (λ_=> .of hn) λ_=>MD.bF (λ_=> .mo (iB (b.goto 2) _ _) (show(2:Int)≠5 by decide)) λ_=> .mo (iB (b.goto 2) _ _) (show(2:Int)≠5 by decide)
 ·have hn:(b.eQ m).aD≠5:=by rw[zH];omega
  rw[aC.rU.eq_1];exact MD.bF (λ_=> .of hn) λ_=>MD.bF (λ_=>Gu hn _) λ_=>MD.bF (λ_=> .of hn) λ_=>MD.bF (λ_=> .mo (n:=3) rfl (by decide)) λ_=>MD.bF (λ_=> .of hn) λ_=> .mo (n:=3) rfl (by decide)
 ·have hn:(b.eQ m).aD≠5:=by rw[zH];omega
  rw[aC.kE.eq_1];exact MD.bF (λ_=> .of hn) λ_=>MD.bF (λ_=> .of hn) λ_=>MD.bF (λ_=> .mo (n:=4) rfl (by decide)) λ_=>MD.bF (λ_=>Gu (b:=(b.eQ m).push (b.eQ m).head) hn _) λ_=>MD.bF (λ_=> .of hn) λ_=> .mo (n:=4) rfl (by decide)
 ·exact Dl (by omega) m
 ·rw[aC.qf.eq_1];exact MD.bF (λ_=>h.same (vT b _) (tJ _ _)) λ_=> .of (h e)
 ·exact EU (by omega) m
 ·have hn:b.aD≠5:=by omega
  rw[aC.iW.eq_1];exact MD.bF (λ_=>MD.bF (λ_=> .mo (n:=6) rfl (by decide)) λ_=> .of hn) λ_=>MD.bF (λ_=> .of hn) λ_=>Dl hn m
 ·have hn:(b.eQ m).aD≠5:=by rw[zH];omega
  rw[aC.iV.eq_1];exact MD.bF (λ_=> .of hn) λ_=>MD.bF (λ_=> .of hn) λ_=>MD.bF (λ_=> .mo (iB (b.eQ m) _ _) hn) λ_=>MD.bF (λ_=> .of hn) λ_=> .mo (n:=6) rfl (by decide)
 ·have hn:b.aD≠5:=by omega
  rw[aC.oM.eq_1];exact MD.bF (λ_=>MD.bF (λ_=> .mo (iB ((b.clear' _).goto 10) _ _) (show(10:Int)≠5 by decide)) λ_=> .mo (iB ((b.clear' _).goto 10) _ _) (show(10:Int)≠5 by decide)) λ_=>MD.bF (λ_=>MD.bF (λ_=> .mo (n:=6) rfl (by decide)) λ_=> .of hn) λ_=>MD.bF (λ_=>MD.bF (λ_=> .mo (n:=6) rfl (by decide)) λ_=> .of hn) λ_=>MD.bF (λ_=> .of hn) λ_=>EU hn m
 ·have hn:b.aD≠5:=by omega
  rw[aC.uj.eq_1];exact MD.bF (λ_=> .mo (n:=11) rfl (by decide)) λ_=>MD.bF (λ_=> .of hn) λ_=>MD.bF (λ_=>MD.bF (λ_=> .mo (n:=9) rfl (by decide)) λ_=> .of hn) λ_=>MD.bF (λ_=> .of hn) λ_=>EU hn m
 ·have hn:b.aD≠5:=by omega
  rw[aC.oN.eq_1];exact MD.bF (λ_=>MD.bF (λ_=> .mo (n:=10) rfl (by decide)) λ_=> .of hn) λ_=>MD.bF (λ_=>MD.bF (λ_=> .mo (n:=10) rfl (by decide)) λ_=> .of hn) λ_=>MD.bF (λ_=> .of hn) λ_=>MD.bF (λ_=>MD.bF (λ_=> .mo (n:=10) rfl (by decide)) λ_=> .of hn) λ_=>Dl hn m
 ·have hn:(if(m.aH==1)&& !(gz m.aL).toList.isEmpty then(b.eO ⟨1,⟨#[]⟩,[],false,gz m.aL⟩).1 else b).aD≠5:=by
   rw[iT (n:=b.aD) (PQ b _) rfl];omega
  rw[aC.lU.eq_1];exact MD.bF (λ_=> .of hn) λ_=>MD.bF (λ_=> .of hn) λ_=> .mo (n:=4) rfl (by decide)
theorem PR (m:aO) (h:MD b): ∀l,MD (aC.gX m b l).1
 | []=>h
 | [_]=>h
 |x::y::r=>by
  rw[aC.gX];exact MD.bF (λ_=>MW h m) λ_=>MD.bF (λ_=>h) λ_=>PR m h (y::r)
theorem RN (h:MD b) (m:aO):MD (b.once m).1:=by
 rw[aC.once.eq_1];refine MD.bF (λ_=> ?_) λ_=>MW h m
 rw[aC.dE.eq_1];refine MD.bF (λ_=>h.same (vT b _) (tJ _ _)) λ_=>MD.bF (λ_=>MW (h.same (zG b _).1 (zG b _).2.1) m) λ_=>MD.bF (λ_=>h.same (Cj b m _).1 (Cj b m _).2) λ_=>MD.bF (λ_=>PR m h _) λ_=>h
end
def rkc (aD:Int) (q1 q2 q4 q5:Bool):Nat :=
 if q1 then(if aD=4\/aD=10 then 0 else if aD=6 then 2 else if aD=7\/aD=8 then 3 else 1)
 else if q2 then(if aD=4\/aD=9 then 0 else if aD=7\/aD=8\/aD=11 then 2 else 1)
 else if q4 then(if aD=4\/aD=8 then 0 else if aD=7\/aD=9 then 2 else if aD=10 then 3 else if aD=11 then 4 else 1)
 else if q5 then(if aD=4\/aD=8 then 1 else 0)
 else(if aD=4\/aD=6 then 0 else if aD=10 then 2 else if aD=11 then 3 else 1)
def jr (aD:Int) (len:Nat) (m:aO):Nat :=
 if aD=5 then 8000
 else if aD=0 then 4004
 else if aD=1 then 4003
 else if aD=2 then 4002
 else if aD=3 then 4001
 else if cB m [⟨#[116,97,98,108,101]⟩]then 2*len+(if aD=4\/aD=6\/aD=7\/aD=8\/aD=9\/aD=10\/aD=11 then 0 else 1)
 else rkc aD (cB m [⟨#[116,100]⟩,⟨#[116,104]⟩]) (cB m [⟨#[116,114]⟩]) (cB m [⟨#[99,111,108]⟩]) (iO m [⟨#[104,116,109,108]⟩])
def rank (b:aC) (m:aO):Nat:=jr b.aD b.S.l.length m
theorem akg (aD:Int) (q1 q2 q4 q5:Bool):rkc aD q1 q2 q4 q5<=4:=by
 unfold rkc;split
 ·split
  ·omega
  ·split
   ·omega
   ·split <;>omega
 ·split
  ·split
   ·omega
   ·split <;>omega
  ·split
   ·split
    ·omega
    ·split
     ·omega
     ·split
      ·omega
      ·split <;>omega
   ·split
    ·split <;>omega
    ·split
     ·omega
     ·split
      ·omega
      ·split <;>omega
theorem UM {aD:Int} {len:Nat} (m:aO) (hm:aD≠5) (h0:aD≠0) (h1:aD≠1) (h2:aD≠2) (h3:aD≠3) (hl:len<=1900):jr aD len m<=4000:=by
 unfold jr;rw[aj hm,aj h0,aj h1,aj h2,aj h3];split
 ·split <;>omega
 ·have:=akg aD (cB m [⟨#[116,100]⟩,⟨#[116,104]⟩]) (cB m [⟨#[116,114]⟩]) (cB m [⟨#[99,111,108]⟩]) (iO m [⟨#[104,116,109,108]⟩]);omega
theorem Pm {aD:Int} {len:Nat} (m:aO) (hm:aD≠5) (hl:len<=1900):jr aD len m<8000:=by
 by_cases h0:aD=0
 ·subst h0;exact(by decide:(4004:Nat)<8000)
 by_cases h1:aD=1
 ·subst h1;exact(by decide:(4003:Nat)<8000)
 by_cases h2:aD=2
 ·subst h2;exact(by decide:(4002:Nat)<8000)
 by_cases h3:aD=3
 ·subst h3;exact(by decide:(4001:Nat)<8000)
 have:=UM m hm h0 h1 h2 h3 hl;omega
theorem Kv {m:aO} {k:Int} {nm:ae} (hk:m.aH=k) (hn:m.ah=nm) (aD:Int) (len:Nat):jr aD len m=jr aD len ⟨k,nm,[],false,⟨#[]⟩⟩:=by
 subst hk hn;rfl
theorem aeO {S:List ae} {x:ae} (h:dh S x=true):x∈S:=by
 unfold dh fU at h;rw[cz,nU]at h;obtain⟨⟨y,hy,he⟩, -⟩:=h;have:x=y:=toList_inj (by simpa using he);rw[this];exact hy
theorem oo {m:aO} {S:List ae} (h:cB m S=true):m.aH=2/\m.ah∈S:=by
 unfold cB at h;rw[cz]at h;exact⟨by simpa using h.1,aeO h.2⟩
theorem Cy {m:aO} {S:List ae} (h:iO m S=true):m.aH=3/\m.ah∈S:=by
 unfold iO at h;rw[cz]at h;exact⟨by simpa using h.1,aeO h.2⟩
def RK (b:aC) (m:aO) (r:aC×aO×Bool):Prop:=r.2.2=true->rank r.1 r.2.1<rank b m
section
variable {b c:aC} {m:aO}
theorem fD {p:Prop} [Decidable p] {r q:aC×aO×Bool} (h1:p->RK b m r) (h2: ¬p->RK b m q):RK b m (if p then r else q):=by
 by_cases h:p
 ·rw[au h];exact h1 h
 ·rw[aj h];exact h2 h
theorem RK.no {c:aC} {n:aO}:RK b m (c,n,false):=λh=>by cases h
theorem Mo (aD:Int) (len:Nat) (m:aO):jr aD len (aC.bR m)=jr aD len m:=by
 unfold aC.bR;split <;>rfl
theorem Wn (b:aC) (m:aO) (hk:m.aH=3) (h:iO m [⟨#[104,116,109,108]⟩]=false):(b.closes m).2=false:=by
 rw[aC.closes.eq_1]
 have h0:(m.ah.toList==([104,116,109,108]:List ax))=false:=by
  cases e:(m.ah.toList==([104,116,109,108]:List ax))with
  |false=>rfl
  |true =>
   have e1:m.ah.toList=([104,116,109,108]:List ax):=by simpa using e
   have:iO m [⟨#[104,116,109,108]⟩]=true:=by
    unfold iO dh fU;rw[hk,e1];decide +kernel
   rw[this]at h;cases h
 split
 ·split
  ·exact h0
  ·rfl
 ·split
  ·rfl
  ·split
   ·rfl
   ·split
    ·rfl
    ·split
     ·rfl
     ·split
      ·rfl
      ·split
       ·rfl
       ·split
        ·rfl
        ·split <;>rfl
theorem Jb (b:aC) (m:aO) (h:iO m [⟨#[104,116,109,108]⟩]=false):(b.eO m).2.2=false:=by
 rw[aC.eO.eq_1];split
 ·rfl
 ·split
  ·rfl
  ·split
   ·rename_i hk;exact Wn b m (by simpa using hk) h
   ·rfl
theorem abT (hb:b.aD=4):RK b m (b.eO m):=λh=>by
 cases e:iO m [⟨#[104,116,109,108]⟩]with
 |false=>rw[Jb b m e]at h;cases h
 |true =>
  obtain⟨hk,hn⟩:=Cy e;rw[dG]at hn
  have h1:b.eO m=((b.closes m).1,m,(b.closes m).2):=by
   rw[aC.eO.eq_1,hk];rfl
  rw[h1]at h |-;have h2:dh [⟨#[98,111,100,121]⟩,⟨#[104,116,109,108]⟩] m.ah=true:=by rw[hn];decide +kernel
  rw[aC.closes.eq_1,au h2]at h |-;by_cases h3:b.has 0 [⟨#[98,111,100,121]⟩]=true
  ·rw[au h3]at h |-;unfold rank;rw[hb,Kv hk hn,Kv hk hn];have e1: ∀len,jr 12 len ⟨3,(⟨#[104,116,109,108]⟩:ae),[],false,⟨#[]⟩⟩=0:=λ_=>by kernel_rfl
   have e2: ∀len,jr 4 len ⟨3,(⟨#[104,116,109,108]⟩:ae),[],false,⟨#[]⟩⟩=1:=λ_=>by kernel_rfl
   show jr 12 _ _<_;rw[e1,e2];decide
  ·rw[aj h3]at h;cases h
theorem UN {m:aO} (h:cB m [⟨#[116,97,98,108,101]⟩]=false) (p:Int) (len len':Nat):jr p len m=jr p len' m:=by
 unfold jr;rw[h];rfl
theorem bS {k:Int} {nm:ae} {p q:Int} (hk:m.aH=k) (hn:m.ah=nm) (h0:cB ⟨k,nm,[],false,⟨#[]⟩⟩ [⟨#[116,97,98,108,101]⟩]=false) (h:jr p 0 ⟨k,nm,[],false,⟨#[]⟩⟩<jr q 0 ⟨k,nm,[],false,⟨#[]⟩⟩) (len len':Nat):jr p len m<jr q len' m:=by
 rw[Kv hk hn,Kv hk hn,UN h0 p len 0,UN h0 q len' 0];exact h
theorem Mm {p q:Int} {len len':Nat} (h:cB m [⟨#[116,97,98,108,101]⟩]=true) (hp:p=4\/p=6\/p=7\/p=8\/p=9\/p=10\/p=11) (hq:q≠5/\q≠0/\q≠1/\q≠2/\q≠3) (hl:len<len'):jr p len m<jr q len' m:=by
 obtain⟨q5,q0,q1,q2,q3⟩:=hq;unfold jr;rw[aj (show p≠5 by omega),aj (show p≠0 by omega),aj (show p≠1 by omega),aj (show p≠2 by omega),aj (show p≠3 by omega),au h,au hp,aj q5,aj q0,aj q1,aj q2,aj q3,au h];omega
theorem T9 {T:aB} {names:List ae}: ∀ {l:List Int},l≠ []->(fH T names l).length<l.length
 | [],h=>absurd rfl h
 |x::r,_=>by
  rw[fH];split
  ·exact Im _
  ·exact Nat.lt_succ_of_le ((Ey T names r).length_le)
theorem akK {sc:Int} {names:List ae} (h:b.has sc names=true):b.S.l≠ []:=λe=>by
 unfold aC.has afY at h;rw[e]at h;cases h
theorem Xu {names:List ae} (h:b.S.l≠ []):(b.mG names).S.l.length<b.S.l.length:=by
 show(fH b.S.T names b.S.l.reverse).reverse.length<_;rw[Iq];have:=T9 (T:=b.S.T) (names:=names) (l:=b.S.l.reverse) (by simpa using h)
 rwa [Iq]at this
theorem acp (T:aB):bq T 0=⟨#[]⟩:=by
 unfold bq;rw[aj];intro h;obtain⟨k,hk,h0,h1, -⟩:=Dv h;omega
theorem anu {names:List ae} (h:b.at' names=true):b.S.l≠ []:=λe=>by
 unfold aC.at' aC.DK aC.top at h;rw[e]at h;have e0:bq b.S.T (([]:List Int).getLast?.getD 0)=⟨#[]⟩:=acp _;rw[e0]at h;unfold dh at h;have:(⟨#[]⟩:ae).toList.isEmpty=true:=by kernel_rfl
 rw[this]at h;simp at h
theorem aeD (h:b.S.l≠ []):b.pop.S.l.length<b.S.l.length:=by
 show b.S.l.dropLast.length<_;rw[List.length_dropLast];have:=Em.2 h;omega
theorem EF (hb:b.aD=6\/b.aD=9/\(cB m [⟨#[116,100]⟩,⟨#[116,104]⟩,⟨#[116,114]⟩]=false/\cB m [⟨#[99,111,108]⟩]=false)\/b.aD=10/\(cB m [⟨#[116,100]⟩,⟨#[116,104]⟩,⟨#[116,114]⟩]=false/\cB m [⟨#[99,111,108]⟩]=false)):RK b m (b.iE m):=by
 have hq:b.aD≠5/\b.aD≠0/\b.aD≠1/\b.aD≠2/\b.aD≠3:=by omega
 rw[aC.iE.eq_1];refine fD (λ_=> .no) λ_=>fD (λ_=> .no) λ_=>fD (λ_=> .no) λ_=>fD (λh4=> ?_) λ_=>fD (λ_=> .no) λ_=>fD (λh6=> ?_) λ_=>fD (λh7=>fD (λh8 hr=> ?_) λ_=> .no) λ_=>fD (λ_=> .no) λh9=>fD (λ_=> .no) λ_=>fD (λ_=> .no) λ_ hr=> ?_
 ·obtain⟨hk,hn⟩:=oo h4;rw[dG]at hn;rcases hb with hb|hb|hb
  ·intro _;unfold rank;rw[hb];exact bS hk hn (p:=8) (by decide +kernel) (by decide +kernel) _ _
  ·rw[hb.2.2]at h4;cases h4
  ·rw[hb.2.2]at h4;cases h4
 ·rcases hb with hb|hb|hb
  ·intro _;unfold rank;rw[hb];obtain⟨hk,hn⟩:=oo h6;simp only[dS,mY,nO]at hn;rcases hn with hn|hn|hn
   ·exact bS hk hn (p:=9) (by decide +kernel) (by decide +kernel) _ _
   ·exact bS hk hn (p:=9) (by decide +kernel) (by decide +kernel) _ _
   ·exact bS hk hn (p:=9) (by decide +kernel) (by decide +kernel) _ _
  ·rw[hb.2.1]at h6;cases h6
  ·rw[hb.2.1]at h6;cases h6
 ·have hst:cB m [⟨#[116,97,98,108,101]⟩]=true:=by
   cases e:cB m [⟨#[116,97,98,108,101]⟩]with
   |true=>rfl
   |false =>
    rw[e,Ev]at h7;obtain⟨hk, -⟩:=Cy h7;rw[hk]at hr;cases hr
  exact Mm hst (ES _ _).2.2.2.2.2 hq (Xu (akK h8))
 ·have hno:iO m [⟨#[104,116,109,108]⟩]=false:=by
   cases e:iO m [⟨#[104,116,109,108]⟩]with
   |false=>rfl
   |true =>
    obtain⟨hk,hn⟩:=Cy e;rw[dG]at hn;exact absurd (by unfold iO;rw[hk,hn];decide +kernel) h9
  rw[show(b.uf m).2.2=(({b with on:=true}:aC).eO m).2.2 from rfl,Jb _ _ hno]at hr;cases hr
theorem Mf {S:List ae} (h: ¬iO m S=true) (hs:dh S (⟨#[104,116,109,108]⟩:ae)=true):RK b m (b.eO m):=λhr=>by
 have hno:iO m [⟨#[104,116,109,108]⟩]=false:=by
  cases e:iO m [⟨#[104,116,109,108]⟩]with
  |false=>rfl
  |true =>
   obtain⟨hk,hn⟩:=Cy e;rw[dG]at hn;exact absurd (by unfold iO;rw[hk,hn,hs];rfl) h
 rw[Jb _ _ hno]at hr;cases hr
theorem akh {q1 q2 q5:Bool}:rkc 6 q1 q2 false q5<rkc 8 q1 q2 false q5:=by
 cases q1 <;>cases q2 <;>cases q5 <;>decide
theorem ahK {q:Int} {q1 q2 q4:Bool} (hq: ¬(q=4\/q=6\/q=7\/q=8\/q=9\/q=10\/q=11)):rkc 4 q1 q2 q4 false<rkc q q1 q2 q4 false:=by
 have n4:q≠4:=by omega
 have n6:q≠6:=by omega
 have n7:q≠7:=by omega
 have n8:q≠8:=by omega
 have n9:q≠9:=by omega
 have n10:q≠10:=by omega
 have n11:q≠11:=by omega
 cases q1 <;>cases q2 <;>cases q4 <;>simp[rkc,n4,n6,n7,n8,n9,n10,n11]
theorem Me (h:MD b) (hl:(b.fE m).1.S.l.length<=1900):RK b m (b.fE m):=by
 have hl0:=hl;rw[aC.fE.eq_1]at hl |-;by_cases e0:b.aD=0
 ·rw[au e0]at hl |-;rw[aC.oh.eq_1];refine fD (λ_=> .no) λ_=>fD (λ_=> .no) λ_=>fD (λ_=> .no) λ_ _=> ?_
  unfold rank;rw[e0];show jr ((b.goto 1).ins _ _).aD _ _<4004;rw[iB];show 4003<4004;decide
 rw[aj e0]at hl |-;by_cases e1:b.aD=1
 ·rw[au e1]at hl |-;rw[aC.om.eq_1];refine fD (λ_=> .no) λ_=>fD (λ_=> .no) λ_=>fD (λ_=> .no) λ_ _=> ?_
  unfold rank;rw[e1];show jr ((b.goto 2).ins _ _).aD _ _<4003;rw[iB];show 4002<4003;decide
 rw[aj e1]at hl |-;by_cases e2:b.aD=2
 ·rw[au e2]at hl |-;rw[aC.rU.eq_1];refine fD (λ_=> .no) λ_=>fD (λ_=> .no) λ_=>fD (λ_=> .no) λ_=>fD (λ_=> .no) λ_=>fD (λ_=> .no) λ_ _=> ?_
  unfold rank;rw[e2];show 4001<4002;decide
 rw[aj e2]at hl |-;by_cases e3:b.aD=3
 ·rw[au e3]at hl |-;rw[aC.kE.eq_1]at hl |-;by_cases f1:aC.wh m=true
  ·rw[au f1];exact .no
  rw[aj f1]at hl |-;by_cases f2:cB (aC.bR m) [⟨#[104,116,109,108]⟩,⟨#[104,101,97,100]⟩,⟨#[102,114,97,109,101,115,101,116]⟩]=true
  ·rw[au f2];exact .no
  rw[aj f2]at hl |-;by_cases f3:cB (aC.bR m) [⟨#[98,111,100,121]⟩]=true
  ·rw[au f3];exact .no
  rw[aj f3]at hl |-;by_cases f4:cB (aC.bR m) [⟨#[98,97,115,101]⟩,⟨#[98,97,115,101,102,111,110,116]⟩,⟨#[98,103,115,111,117,110,100]⟩,⟨#[108,105,110,107]⟩,⟨#[109,101,116,97]⟩,⟨#[116,105,116,108,101]⟩,⟨#[115,116,121,108,101]⟩,⟨#[115,99,114,105,112,116]⟩,⟨#[110,111,102,114,97,109,101,115]⟩]=true
  ·rw[au f4];exact .no
  rw[aj f4]at hl |-;by_cases f5:(((aC.bR m).aH==3)&& !(iO (aC.bR m) [⟨#[98,111,100,121]⟩,⟨#[104,116,109,108]⟩,⟨#[98,114]⟩]))=true
  ·rw[au f5];exact .no
  rw[aj f5]at hl |-;intro _;unfold rank;rw[e3];have:=UM (aD:=4) (aC.bR m) (by decide) (by decide) (by decide) (by decide) (by decide) hl;exact La this (by show 4000<4001;decide)
 rw[aj e3]at hl |-;by_cases e4:b.aD=4
 ·rw[au e4];exact abT e4
 rw[aj e4]at hl |-;by_cases e5:b.aD=5
 ·rw[au e5]at hl |-;rw[aC.qf.eq_1]at hl |-;by_cases f1:(m.aH==1)=true
  ·rw[au f1];exact .no
  rw[aj f1]at hl |-;intro _;unfold rank;rw[e5];exact Pm m (h e5) hl
 rw[aj e5]at hl |-;by_cases e6:b.aD=6
 ·rw[au e6];exact EF (.inl e6)
 rw[aj e6]at hl |-;by_cases e7:b.aD=7
 ·rw[au e7];rw[aC.iW.eq_1];refine fD (λf1=>fD (λ_ hr=> ?_) λ_=> .no) λ_=>fD (λ_=> .no) λf2=>Mf f2 (by decide +kernel)
  unfold rank;rw[e7];show jr 6 _ m<_;have hr':iO m [⟨#[99,97,112,116,105,111,110]⟩]=false:=by simpa using hr
  rw[hr',Ev,jD]at f1;rcases f1 with f1|f1
  ·obtain⟨hk,hn⟩:=oo f1;simp only[aal,dS,mY,nO]at hn;rcases hn with hn|hn|hn|hn|hn|hn|hn|hn|hn
   ·exact bS hk hn (by decide +kernel) (by decide +kernel) _ _
   ·exact bS hk hn (by decide +kernel) (by decide +kernel) _ _
   ·exact bS hk hn (by decide +kernel) (by decide +kernel) _ _
   ·exact bS hk hn (by decide +kernel) (by decide +kernel) _ _
   ·exact bS hk hn (by decide +kernel) (by decide +kernel) _ _
   ·exact bS hk hn (by decide +kernel) (by decide +kernel) _ _
   ·exact bS hk hn (by decide +kernel) (by decide +kernel) _ _
   ·exact bS hk hn (by decide +kernel) (by decide +kernel) _ _
   ·exact bS hk hn (by decide +kernel) (by decide +kernel) _ _
  ·obtain⟨hk,hn⟩:=Cy f1;rw[dG]at hn;exact bS hk hn (by decide +kernel) (by decide +kernel) _ _
 rw[aj e7]at hl |-;by_cases e8:b.aD=8
 ·rw[au e8];rw[aC.iV.eq_1];refine fD (λ_=> .no) λf1=>fD (λ_=> .no) λf2=>fD (λ_=> .no) λf3=>fD (λ_=> .no) λf4 _=> ?_
  unfold rank;rw[e8];show jr 6 (b.eQ m).pop.S.l.length (aC.bR m)<_;rw[Mo]
  have f3':cB m [⟨#[99,111,108]⟩]=false:=by
   have:cB (aC.bR m) [⟨#[99,111,108]⟩]=cB m [⟨#[99,111,108]⟩]:=by unfold aC.bR;split <;>rfl
   rw[this]at f3;simpa using f3
  have hne:(b.eQ m).S.l≠ []:=anu (names:= [⟨#[99,111,108,103,114,111,117,112]⟩]) (by simpa using f4);have hlen:=aeD hne
  have hbl:(b.eQ m).S.l=b.S.l:=by
   unfold aC.eQ;split
   ·split
    ·rfl
    ·show(b.iq _).S.l=_;unfold aC.iq;rw[aC.vW]
   ·rfl
  rw[hbl]at hlen;cases ht:cB m [⟨#[116,97,98,108,101]⟩]with
  |true=>exact Mm ht (.inr (.inl rfl)) (by decide) hlen
  |false =>
   unfold jr;rw[ht,f3'];exact akh
 rw[aj e8]at hl |-;by_cases e9:b.aD=9
 ·rw[au e9];rw[aC.oM.eq_1];refine fD (λf1=> ?_) λf1=>fD (λ_=>fD (λ_=> .no) λ_=> .no) λ_=>fD (λf3=>fD (λ_ _=> ?_) λ_=> .no) λf3=>fD (λ_=> .no) λ_=>EF (.inr (.inl ⟨e9,?_,?_⟩))
  ·refine fD (λ_=> .no) λf2 _=> ?_
   unfold rank;rw[e9];show jr (((b.clear' _).goto 10).ins _ _).aD _ m<_;rw[iB];show jr 10 _ m<_;obtain⟨hk,hn⟩:=oo f1;simp only[dS,mY,nO]at hn;rcases hn with hn|hn|hn
   ·exact absurd (by rw[hn];decide +kernel) f2
   ·exact bS hk hn (by decide +kernel) (by decide +kernel) _ _
   ·exact bS hk hn (by decide +kernel) (by decide +kernel) _ _
  ·unfold rank;rw[e9];show jr 6 _ m<_;rw[jD]at f3;rcases f3 with f3|f3
   ·obtain⟨hk,hn⟩:=oo f3;simp only[dS,mY,nO]at hn;rcases hn with hn|hn|hn|hn|hn|hn
    ·exact bS hk hn (by decide +kernel) (by decide +kernel) _ _
    ·exact bS hk hn (by decide +kernel) (by decide +kernel) _ _
    ·exact bS hk hn (by decide +kernel) (by decide +kernel) _ _
    ·exact bS hk hn (by decide +kernel) (by decide +kernel) _ _
    ·exact bS hk hn (by decide +kernel) (by decide +kernel) _ _
    ·exact bS hk hn (by decide +kernel) (by decide +kernel) _ _
   ·obtain⟨hk,hn⟩:=Cy f3;rw[dG]at hn;exact bS hk hn (by decide +kernel) (by decide +kernel) _ _
  ·cases e:cB m [⟨#[116,100]⟩,⟨#[116,104]⟩,⟨#[116,114]⟩]with
   |false=>rfl
   |true =>
    obtain⟨hk,hn⟩:=oo e;simp only[dS,mY,nO]at hn;rcases hn with hn|hn|hn
    ·exact absurd (by unfold cB;rw[hk,hn];decide +kernel) f1
    ·exact absurd (by unfold cB;rw[hk,hn];decide +kernel) f1
    ·exact absurd (by unfold cB;rw[hk,hn];decide +kernel) f1
  ·cases e:cB m [⟨#[99,111,108]⟩]with
   |false=>rfl
   |true =>
    obtain⟨hk,hn⟩:=oo e;rw[dG]at hn;exact absurd (by unfold cB iO;rw[hk,hn];decide +kernel) f3
 rw[aj e9]at hl |-;by_cases e10:b.aD=10
 ·rw[au e10];rw[aC.uj.eq_1];refine fD (λ_=> .no) λf1=>fD (λ_=> .no) λ_=>fD (λf3=>fD (λ_ hr=> ?_) λ_=> .no) λf3=>fD (λ_=> .no) λ_=>EF (.inr (.inr ⟨e10,?_,?_⟩))
  ·unfold rank;rw[e10];show jr 9 _ m<_;rw[jD]at f3;rcases f3 with f3|f3
   ·obtain⟨hk,hn⟩:=Cy f3;simp only[dS,mY,nO]at hn;rcases hn with hn|hn|hn|hn|hn
    ·exact absurd (show iO m [⟨#[116,114]⟩]=true by unfold iO;rw[hk,hn];decide +kernel) (by simpa using hr)
    ·exact bS hk hn (by decide +kernel) (by decide +kernel) _ _
    ·exact bS hk hn (by decide +kernel) (by decide +kernel) _ _
    ·exact bS hk hn (by decide +kernel) (by decide +kernel) _ _
    ·exact bS hk hn (by decide +kernel) (by decide +kernel) _ _
   ·obtain⟨hk,hn⟩:=oo f3;simp only[aal,dS,mY,nO]at hn;rcases hn with hn|hn|hn|hn|hn|hn|hn|hn|hn
    ·exact bS hk hn (by decide +kernel) (by decide +kernel) _ _
    ·exact bS hk hn (by decide +kernel) (by decide +kernel) _ _
    ·exact bS hk hn (by decide +kernel) (by decide +kernel) _ _
    ·exact bS hk hn (by decide +kernel) (by decide +kernel) _ _
    ·exact absurd (by unfold cB;rw[hk,hn];decide +kernel) f1
    ·exact bS hk hn (by decide +kernel) (by decide +kernel) _ _
    ·exact absurd (by unfold cB;rw[hk,hn];decide +kernel) f1
    ·exact bS hk hn (by decide +kernel) (by decide +kernel) _ _
    ·exact bS hk hn (by decide +kernel) (by decide +kernel) _ _
  ·cases e:cB m [⟨#[116,100]⟩,⟨#[116,104]⟩,⟨#[116,114]⟩]with
   |false=>rfl
   |true =>
    obtain⟨hk,hn⟩:=oo e;simp only[dS,mY,nO]at hn;rcases hn with hn|hn|hn
    ·exact absurd (by unfold BZ cB iO;rw[hk,hn];decide +kernel) f3
    ·exact absurd (by unfold BZ cB iO;rw[hk,hn];decide +kernel) f3
    ·exact absurd (by unfold BZ cB iO;rw[hk,hn];decide +kernel) f3
  ·cases e:cB m [⟨#[99,111,108]⟩]with
   |false=>rfl
   |true =>
    obtain⟨hk,hn⟩:=oo e;rw[dG]at hn;exact absurd (by unfold BZ cB iO;rw[hk,hn];decide +kernel) f3
 rw[aj e10]at hl |-;by_cases e11:b.aD=11
 ·rw[au e11];rw[aC.oN.eq_1];refine fD (λ_=>fD (λ_=> .no) λ_=> .no) λ_=>fD (λf2=>fD (λ_ _=> ?_) λ_=> .no) λ_=>fD (λ_=> .no) λf3=>fD (λf4=>fD (λ_ _=> ?_) λ_=> .no) λ_=>Mf f3 (by decide +kernel)
  ·unfold rank;rw[e11];show jr 10 _ m<_;obtain⟨hk,hn⟩:=oo f2;simp only[aal,dS,mY,nO]at hn;rcases hn with hn|hn|hn|hn|hn|hn|hn|hn|hn
   ·exact bS hk hn (by decide +kernel) (by decide +kernel) _ _
   ·exact bS hk hn (by decide +kernel) (by decide +kernel) _ _
   ·exact bS hk hn (by decide +kernel) (by decide +kernel) _ _
   ·exact bS hk hn (by decide +kernel) (by decide +kernel) _ _
   ·exact bS hk hn (by decide +kernel) (by decide +kernel) _ _
   ·exact bS hk hn (by decide +kernel) (by decide +kernel) _ _
   ·exact bS hk hn (by decide +kernel) (by decide +kernel) _ _
   ·exact bS hk hn (by decide +kernel) (by decide +kernel) _ _
   ·exact bS hk hn (by decide +kernel) (by decide +kernel) _ _
  ·unfold rank;rw[e11];show jr 10 _ m<_;obtain⟨hk,hn⟩:=Cy f4;simp only[dS,mY,nO]at hn;rcases hn with hn|hn|hn|hn|hn
   ·exact bS hk hn (by decide +kernel) (by decide +kernel) _ _
   ·exact bS hk hn (by decide +kernel) (by decide +kernel) _ _
   ·exact bS hk hn (by decide +kernel) (by decide +kernel) _ _
   ·exact bS hk hn (by decide +kernel) (by decide +kernel) _ _
   ·exact bS hk hn (by decide +kernel) (by decide +kernel) _ _
 rw[aj e11];rw[aC.lU.eq_1];refine fD (λ_=> .no) λf1=>fD (λ_=> .no) λf2 _=> ?_
 have f2':iO m [⟨#[104,116,109,108]⟩]=false:=by
  have:iO (aC.bR m) [⟨#[104,116,109,108]⟩]=iO m [⟨#[104,116,109,108]⟩]:=by unfold aC.bR;split <;>rfl
  rw[this]at f2;simp at f2;exact f2.1.2
 have hlb:(m.aH==2)=true->(if(m.aH==1)&& !(gz m.aL).toList.isEmpty then(b.eO ⟨1,⟨#[]⟩,[],false,gz m.aL⟩).1 else b).S.l.length=b.S.l.length:=λhk=>by
  have:m.aH=2:=by simpa using hk
  rw[this];rfl
 unfold rank;show jr 4 (if(m.aH==1)&& !(gz m.aL).toList.isEmpty then(b.eO ⟨1,⟨#[]⟩,[],false,gz m.aL⟩).1 else b).S.l.length (aC.bR m)<_;rw[Mo];have hq: ¬(b.aD=4\/b.aD=6\/b.aD=7\/b.aD=8\/b.aD=9\/b.aD=10\/b.aD=11):=by omega
 unfold jr;rw[aj e5,aj e0,aj e1,aj e2,aj e3,aj (show ¬((4:Int)=5) by decide),aj (show ¬((4:Int)=0) by decide),aj (show ¬((4:Int)=1) by decide),aj (show ¬((4:Int)=2) by decide),aj (show ¬((4:Int)=3) by decide)];cases ht:cB m [⟨#[116,97,98,108,101]⟩]with
 |true =>
  rw[hlb (by rw[(oo ht).1];rfl),au rfl,au rfl,au (Or.inl rfl),aj hq];omega
 |false =>
  rw[f2',aj (by decide),aj (by decide)];exact ahK hq
theorem ab0 (aD:Int) (m:aO) {len len':Nat} (h:len<=len'):jr aD len m<=jr aD len' m:=by
 unfold jr;split
 ·exact ay _
 ·split
  ·exact ay _
  ·split
   ·exact ay _
   ·split
    ·exact ay _
    ·split
     ·exact ay _
     ·split
      ·omega
      ·exact ay _
theorem ahQ (b:aC) (m:aO) (h:b.S.l.length<=1900):rank b m<=8000:=by
 by_cases e:b.aD=5
 ·unfold rank;rw[e];exact ay _
 ·exact lZ (Pm m e h)
theorem RK.less {c:aC} {r:aC×aO×Bool} (h:RK c m r) (h1:c.aD=b.aD) (h2:c.S.l.length<=b.S.l.length):RK b m r:=λhr=>by
 have:=h hr
 have h3:rank c m<=rank b m:=by
  unfold rank;rw[h1];exact ab0 _ _ h2
 omega
theorem Pf (h:MD b): ∀l,(aC.gX m b l).1.S.l.length<=1900->RK b m (aC.gX m b l)
 | [],_=> .no
 | [_],_=> .no
 |x::y::r,hl=>by
  rw[aC.gX]at hl |-;by_cases e:aX b.S.T x=0
  ·rw[au e]at hl |-;exact Me h hl
  ·rw[aj e]at hl |-;by_cases e1:(aC.LY (bq b.S.T x)).toList=m.ah.toList
   ·rw[au e1];exact .no
   ·rw[aj e1]at hl |-;exact Pf h (y::r) hl
theorem ahL (h:MD b) (hl:(b.once m).1.S.l.length<=1900):RK b m (b.once m):=by
 rw[aC.once.eq_1]at hl |-;by_cases e:iA (gT b.qm b.DK (bW b.S.T b.top)) b.qm b.DK m.aH m.ah=true
 ·rw[au e]at hl |-;rw[aC.dE.eq_1]at hl |-;by_cases f1:(m.aH==1)=true
  ·rw[au f1];exact .no
  rw[aj f1]at hl |-;by_cases f2:kL m.aH m.ah m.aA=true
  ·rw[au f2]at hl |-;obtain⟨h1,h2,h3⟩:=zG b b.S.l.reverse;refine(Me (b:=aC.jQ b b.S.l.reverse) (h.same h1 h2) hl).less h1 ?_
   rwa [Iq]at h3
  rw[aj f2]at hl |-;by_cases f3:(m.aH==2)=true
  ·rw[au f3];exact .no
  rw[aj f3]at hl |-;by_cases f4:(m.aH==3)=true
  ·rw[au f4]at hl |-;exact Pf h _ hl
  rw[aj f4];exact .no
 ·rw[aj e]at hl |-;exact Me h hl
theorem Ci (b:aC):b.flush.aD=b.aD/\b.flush.mV=b.mV:=by
 unfold aC.flush;simp only;split
 ·exact⟨rfl,rfl⟩
 ·split
  ·exact⟨vT _ _,tJ _ _⟩
  ·refine⟨(vT _ _).trans (gI _),(tJ _ _).trans (tJ _ _)⟩
end
def qH (s:ae):ae:=⟨(Lib.trimPrefix s.data.toList [10]).toArray⟩
namespace aC
def oV (b:aC) (m:aO):aO:=if b.skip then {m with aL:=qH m.aL}else m
def ready (b:aC):aC:= {b with raw:=0,ah:=⟨#[]⟩,skip:=false}
noncomputable def GU (b:aC) (m:aO):aC :=
 if m.aH<1\/6<m.aH then b
 else if m.aH=1 then(if(b.oV m).aL.toList.isEmpty then b.ready else again 9000 b.ready (b.oV m))
 else if m.aH=4\/m.aH=5 then b.ready.flush else again 9000 b.ready.flush m
end aC
end
theorem YN (T:aB) (n:Int) {f:ND->ND} (hf: ∀d,(f d).aP=d.aP) (i:Int):aG (iK T n f) i=aG T i:=by
 unfold aG iK;simp only[xg];cases T.ai[i.toNat]? with
 |none=>simp
 |some d =>
  by_cases h:n.toNat=i.toNat
  ·simp[h,hf]
  ·simp[h]
def anz (l:List Int):Prop:=1∉l.tail
structure W2 (T:aB) (l:List Int):Prop where
 len:2<=T.ai.length
 one:1∈aG T 0
 els: ∀i:Int,1<=i->1∉aG T i
 tl:anz l
theorem xL {b:aC} (h:b.iJ=⟨#[]⟩):b.flush=b:=by
 unfold aC.flush;rw[h,au (show(ByteArray.toList ⟨#[]⟩).isEmpty=true by kernel_rfl)];cases b;cases h;rfl
def cgL (x:ae):Bool:=x.toList==([99,111,108,103,114,111,117,112]:List ax)
def cgB (T:aB) (x:Int):Bool:=(aX T x==0)&&cgL (bq T x)
def enL (x:ae):Bool:=cgL x||fU lC x
def Nm (T U:aB):Prop:=T.ai.length<=U.ai.length/\ ∀x:Int,x.toNat<T.ai.length->aX U x=aX T x/\bq U x=bq T x
theorem Nm.refl (T:aB):Nm T T:=⟨ay _,λ_ _=>⟨rfl,rfl⟩⟩
theorem Nm.trans {T U V:aB} (h:Nm T U) (k:Nm U V):Nm T V:=⟨bY h.1 k.1,λx hx=>⟨(k.2 x (fA hx h.1)).1.trans (h.2 x hx).1,(k.2 x (fA hx h.1)).2.trans (h.2 x hx).2⟩⟩
theorem RI (T:aB) (n:Int) {f:ND->ND} (h1: ∀d,(f d).elem=d.elem) (h2: ∀d,(f d).aN=d.aN) (h3: ∀d,(f d).ah=d.ah):Nm T (iK T n f):=by
 refine⟨by rw[gU];exact ay _,λx _=> ?_⟩;have e1:=rV T n f h1 x;unfold aX bq;rw[e1];unfold iK;simp only[xg];cases T.ai[x.toNat]? with
 |none=>simp
 |some d=>by_cases h:n.toNat=x.toNat <;>simp[h,h2,h3]
theorem nm_add (T:aB) (d:ND):Nm T (bL T d):=by
 refine⟨by simp[bL],λx hx=> ?_⟩
 have e1:aY (bL T d) x=aY T x:=by
  by_cases h0:x<0
  ·unfold aY xF;rw[show decide (1<=x)=false by simp;omega];rfl
  ·have:=DI T d x.toNat hx
   rwa [Int.toNat_of_nonneg (by omega)]at this
 unfold aX bq;rw[e1];unfold bL;simp only;rw[vN hx];exact⟨rfl,rfl⟩
theorem Pz (T:aB) (a:Int) (i:Nat) (n:Int):Nm T (eF T a i n):=by
 unfold eF;exact(RI _ _ (f:=iC _) (λ_=>rfl) (λ_=>rfl) (λ_=>rfl)).trans (RI _ _ (f:=fo a) (λ_=>rfl) (λ_=>rfl) (λ_=>rfl))
theorem aas (T:aB) (n:Int):Nm T (bG T n):=by
 have h1:Nm T (iD T n):=by
  unfold iD;split
  ·exact RI _ _ (f:=iC _) (λ_=>rfl) (λ_=>rfl) (λ_=>rfl)
  ·exact .refl T
 unfold bG;exact h1.trans (RI _ _ (f:=fo (-1)) (λ_=>rfl) (λ_=>rfl) (λ_=>rfl))
theorem Yw (T:aB) (a b n:Int):Nm T (fe T a b n).1:=by
 unfold fe;split
 ·exact(aas T n).trans (Pz _ _ _ _)
 ·exact .refl T
theorem aat (b:Int): ∀(l:List Int) (T:aB),Nm T (moveF T b l)
 | [],T=> .refl T
 |_::r,T=>(Yw T b 0 _).trans (aat b r _)
theorem aeU (T:aB) (a b:Int):Nm T (kD T a b).1:=by
 unfold kD;split
 ·exact aat b _ T
 ·exact .refl T
def Okc (T:aB) (x:Int):Prop:=x.toNat<T.ai.length/\cgB T x=false
def Oke (T:aB) (x:Int):Prop:=x.toNat<T.ai.length/\aX T x=0/\enL (bq T x)=false
structure C2 (T:aB) (l aF:List Int):Prop where
 len:1<=T.ai.length
 l: ∀x∈l,Okc T x
 e: ∀x∈aF,Oke T x
section
section
variable {T U:aB} {l m D:List Int} {W s:List ax} {a n x t:Int}
theorem Ra (T:aB) (n:Int) {f:ND->ND} (hf: ∀d,(f d).aL=d.aL) (i:Int):DJ (iK T n f) i=DJ T i:=by
 unfold DJ iK;simp only[xg];cases T.ai[i.toNat]? with
 |none=>simp
 |some d =>
  by_cases h:n.toNat=i.toNat
  ·simp[h,hf]
  ·simp[h]
theorem OX (T:aB) (a n:Int) (i:Nat) (j:Int):DJ (eF T a i n) j=DJ T j:=by
 unfold eF;rw[Ra _ _ (f:=fo a) λ_=>rfl,Ra _ _ (f:=iC _) λ_=>rfl]
theorem Z5 (T:aB) (n j:Int):DJ (bG T n) j=DJ T j:=by
 unfold bG;rw[Ra _ _ (f:=fo (-1)) λ_=>rfl];unfold iD;split
 ·rw[Ra _ _ (f:=iC _) λ_=>rfl]
 ·rfl
theorem akc (T:aB) (a b n j:Int):DJ (fe T a b n).1 j=DJ T j:=by
 unfold fe;split
 ·show DJ (kr T a b n) j=_;unfold kr;rw[OX,Z5]
 ·rfl
theorem adX {d:ND} (j:Int) (h0:0<=j) (h:j<T.ai.length):DJ (bL T d) j=DJ T j:=by
 unfold DJ bL;simp only;rw[vN (by omega)]
theorem akd (T:aB) (d:ND):DJ (bL T d) T.ai.length=d.aL.toList:=by
 unfold DJ bL;simp
theorem mJ (T:aB) {d:ND} (hd:d.aP= []) (i:Int):aG (bL T d) i=aG T i:=by
 unfold aG bL;simp only;rcases Nat.lt_trichotomy i.toNat T.ai.length with h|h|h
 ·rw[vN h]
 ·rw[h,Ab (ay _),nS (ay _)];simp[hd]
 ·rw[Ab (by omega),nS (by simp;omega),nS (by omega)]
theorem vV (T:aB) {d:ND} (hd:d.aP= []):aG (bL T d) T.ai.length= []:=by
 rw[mJ T hd];unfold aG;rw[nS (by omega)];rfl
theorem Df {S:Int->Prop} (hw:WF T) (hn:1<=n) (hS:S n) (hc: ∀d,S d-> ∀k∈aG T d,S k): ∀ {a:Int},a<T.ai.length-> ¬S a-> ¬Reach T n a:=by
 intro a ha hna hr
 induction hr with
 |here=>exact hna hS
 | @up a h0 hr ih =>
   obtain⟨k,rfl⟩:=bQ (Int.le_of_lt h0);have hp:=hw.par k (by omega);refine ih hp.2 λhs=> ?_
   rcases mZ (aJ T k) 0 with h|h
   ·have:=(su (T:=T) (top:=n) (n:=aJ T k) (by omega)).1 hr;omega
   ·exact hna (hc _ hs _ (hw.mem k (by omega) h))
theorem Mq (hw:WF T) (hok:nu T a 0 n=true) (j:Int) (h0:0<=j) (hj:j<T.ai.length):aG (fe T a 0 n).1 j=(aG T j).filter (· !=n)++if j=a then [n]else []:=by
 have hok2:=hok;simp only[nu,cz]at hok2;obtain⟨⟨⟨⟨ha,hn⟩, -⟩, -⟩, -⟩:=hok2;obtain⟨a0,a1⟩:=jU hw.pos ha;obtain⟨n1,n2⟩:=Cn hn;obtain⟨A,rfl⟩:=bQ a0;obtain⟨N,rfl⟩:=bQ (show 0<=n by omega);obtain⟨J,rfl⟩:=bQ h0
 have hkt: ∀i:Nat,i<T.ai.length->aG (bG T N) i=(aG T i).filter (· !=(N:Int)):=λi hi=>by
  rw[Ak hw (by omega) i hi];split
  ·rfl
  ·rename_i h;refine(Eo.2 λy hy=>jJ.2 ?_).symm;rintro rfl;exact h (hw.kid i hi _ hy).2.2.symm
 rw[fe,au hok];show aG (kr T A 0 N) J=_;unfold kr
 have hpl:(eT (bG T N) A 0).toNat=(aG (bG T N) A).length:=by
  unfold eT;rw[au rfl];rfl
 rw[hpl,AJ _ A N _ J (by rw[gL];omega),hkt J (by omega)];by_cases h:(J:Int)=A
 ·rw[au h,au h];have:J=A:=by omega
  subst this;rw[hkt J (by omega),QM,Lp]
 ·rw[aj h,aj h,kI]
theorem aew (ha:dw T a=true) (h1:1<=n) (h2:n<T.ai.length) (hr: ¬Reach T n a):nu T a 0 n=true:=by
 simp only[nu,cz,mX,jJ,Af];refine⟨⟨⟨⟨ha,?_⟩,by omega⟩,?_⟩,?_⟩
 ·simp only[xF,cz,mX];omega
 ·unfold eT;rw[au rfl];omega
 ·cases hb:gM T a n
  ·rfl
  ·exact absurd (by simpa[ky] using hb) hr
theorem ak5 (a b:ae):(a++b).toList=a.toList++b.toList:=by
 simp only[dZ,ByteArray.data_append,IB]
theorem dW (hw:WF T) {i k:Int} (h:k∈aG T i) (h0:0<=i):1<=k/\k<T.ai.length:=by
 obtain⟨I,rfl⟩:=bQ h0;rcases lG I T.ai.length with hI|hI
 ·exact⟨(hw.kid I hI k h).1,(hw.kid I hI k h).2.1⟩
 ·unfold aG at h;rw[nS (by omega)]at h;cases h
theorem eP (h:aY T x=true):1<=x/\x<T.ai.length:=by
 have:xF T x=true:=by
  unfold aY at h;rw[cz]at h;exact h.1
 exact Cn this
theorem last_pos {l:List Int} (he: ∀x∈l,aY T x=true) (hd: ∃r,l=1::r):1<=l.getLast?.getD 0:=by
 obtain⟨r,rfl⟩:=hd;cases e:(1::r).getLast? with
 |none=>simp at e
 |some x=>exact(eP (he x (Xe e))).1
theorem ab3 (T:aB) (l:List Int):aZ T l false 0=(l.getLast?.getD 0,0):=by
 unfold aZ;by_cases h:l= []
 ·subst h;rfl
 ·rw[aj h];rfl
theorem aez (T:aB) (a b n x:Int):aY (fe T a b n).1 x=aY T x:=by
 unfold fe;split
 ·exact Pn T a b n x
 ·rfl
end
end
section
def Clo (K:Int->List Int) (S:Int->Prop):Prop:= ∀d,S d-> ∀k∈K d,S k
def Sep (K:Int->List Int) (A:List Int) (y:Int):Prop:= ∃S:Int->Prop,S y/\Clo K S/\ ∀x∈A,¬S x
def lI (T:aB) (x:Int):Bool:=aI T x lH
def xw (T:aB) (x:Int):Bool:=aI T x [⟨#[116,98,111,100,121]⟩,⟨#[116,102,111,111,116]⟩,⟨#[116,104,101,97,100]⟩,⟨#[116,114]⟩]
def lD (T:aB) (x:Int):Bool:=sZ T 0 x
def uh (T:aB) (x:Int):Bool:=aI T x [⟨#[104,101,97,100]⟩,⟨#[98,111,100,121]⟩,⟨#[104,116,109,108]⟩]
def pgB (T:aB) (x:Int):Bool:=aI T x [⟨#[104,116,109,108]⟩]
def TG (T:aB) (y:Int):Prop:= ∀p:Int,0<=p->p<T.ai.length-> ∀A k B,aG T p=A++y::k::B->aY T k=true
structure Pt (T:aB) (A:List Int) (y:Int):Prop where
 sep:Sep (aG T) A y
 Bz:0<=aJ T y
 tab:lI T y=true-> ∀x∈A,aJ T x≠aJ T y
 row:xw T y=true-> ∃A' x,A=A'++ [x]/\(aI T x lC=true\/x=1)/\aJ T y=x
 nst: ∀A' x,A=A'++ [x]->lD T x=false->lD T y=false->TG T y
def Pts (T:aB) (l:List Int):Prop:= ∀A y B,l=A++y::B->Pt T A y
def hnm (h:Int):ae:=if h=2 then(⟨#[104,101,97,100]⟩:ae)else(⟨#[98,111,100,121]⟩:ae)
structure Tr (H:List Int) (T:aB):Prop where
 wf:WF T
 tt: ∀p:Int,0<=p->p<T.ai.length-> ∀A j k B,aG T p=A++j::k::B->aY T j=true\/aY T k=true
 tx: ∀i:Int,1<=i->i<T.ai.length->aY T i=false->DJ T i≠ []
 k0:aG T 0= [1]
 n1:bq T 1=(⟨#[104,116,109,108]⟩:ae)
 e1:aY T 1=true
 s1:aX T 1=0
 hb:(aG T 1).filter (uh T)=H
 h1:(H= []/\aG T 1= [])\/ ∃z R K,H=z::R/\aG T 1=z::K
 hm: ∀z∈H,bq T z=hnm z
 nh: ∀x:Int,pgB T x=true->x=1
structure FR (H:List Int) (T:aB) (l:List Int):Prop where
 tr:Tr H T
 el: ∀x∈l,aY T x=true
 pt:Pts T l
 hd: ∃r,l=1::r
 bd: ∀x∈l.drop 2,uh T x=false
structure BA (T U:aB):Prop where
 len:T.ai.length<=U.ai.length
 el: ∀x:Int,x<T.ai.length->aY U x=aY T x
 sp: ∀x,aY T x=true->aX U x=aX T x
 nm: ∀x,aY T x=true->bq U x=bq T x
section
variable {T U V W:aB} {H l m A B P D:List Int} {a n x y k b:Int} {i:Nat} {S:Int->Prop}
theorem BA.named (h:BA T U) (hx:x<T.ai.length) (N:List ae):aI U x N=aI T x N:=by
 unfold aI;rw[h.el x hx];cases e:aY T x with
 |false=>rfl
 |true=>rw[h.sp x e,h.nm x e]
theorem BA.stop (h:BA T U) (hx:x<T.ai.length) (s:Int):sZ U s x=sZ T s x:=by
 unfold sZ;rw[h.el x hx];cases e:aY T x with
 |false=>rfl
 |true=>rw[h.sp x e,h.nm x e]
theorem BA.trans (h:BA T U) (g:BA U V):BA T V:=by
 have key: ∀x,aY T x=true->aY U x=true:=λx e=>by
  have:=eP e;rw[h.el x this.2];exact e
 exact⟨bY h.len g.len,λx hx=>(g.el x (by have:=h.len;omega)).trans (h.el x hx),λx e=>(g.sp x (key x e)).trans (h.sp x e),λx e=>(g.nm x (key x e)).trans (h.nm x e)⟩
theorem Ce (hl:T.ai.length<=U.ai.length) (he: ∀x:Int,aY U x=aY T x) (h:Nm T U):BA T U :=
 ⟨hl,λx _=>he x,λx e=>(h.2 x (by have:=eP e;omega)).1,λx e=>(h.2 x (by have:=eP e;omega)).2⟩
theorem MK (V:aB) (a:Int) (i:Nat) (n:Int):BA V (eF V a i n):=Ce (uu (nN V a n i).symm) (λx=>yV V a i n x) (Pz V a i n)
theorem aeT (V:aB) (n:Int):BA V (bG V n):=Ce (uu (gL V n).symm) (λx=>JR V n x) (aas V n)
theorem kJ (T:aB) (d:ND):BA T (bL T d):=by
 refine⟨by simp[bL],λx hx=> ?_,λx e=>((nm_add T d).2 x (by have:=eP e;omega)).1,λx e=>((nm_add T d).2 x (by have:=eP e;omega)).2⟩;rcases mZ x 1 with h|h
 ·have h1: ∀V:aB,aY V x=false:=λV=>by
   cases e:aY V x with
   |false=>rfl
   |true=>have:=eP e;omega
  rw[h1,h1]
 ·obtain⟨X,rfl⟩:=bQ (show 0<=x by omega);exact DI T d X (by omega)
theorem G6: ∀ {P A:List Int},P++n::D=A++x::k::B->(∃A' B',P++D=A'++x::k::B')\/k=n\/(x=n/\ ∃D',D=k::D')
 | [],[],h=> .inr (.inr ⟨(dH h).1.symm,B,(dH h).2⟩)
 | [],a::A,h=> .inl ⟨A,B,(dH h).2⟩
 |q::P,[],h=>by
  have h2:=(dH h).2;have e:=(dH h).1;cases P with
  |nil=>exact .inr (.inl (dH h2).1.symm)
  |cons r P=>exact .inl ⟨[],P++D,by rw[e,(dH h2).1];rfl⟩
 |q::P,a::A,h=>by
  have e:=(dH h).1;rcases G6 (P:=P) (A:=A) (dH h).2 with⟨A',B',e2⟩|e2|e2
  ·exact .inl ⟨q::A',B',by rw[mq,e2];rfl⟩
  ·exact .inr (.inl e2)
  ·exact .inr (.inr e2)
theorem Wj {b:Int}: ∀ {P A:List Int},P++D=A++x::k::B-> ∃A' B',P++b::D=A'++x::k::B'\/P++b::D=A'++x::b::k::B'
 | [],A,h=>⟨b::A,B,.inl (by rw[jZ]at h;rw[jZ,h];rfl)⟩
 |q::P,[],h=>by
  have h2:=(dH h).2;have e:=(dH h).1;cases P with
  |nil=>exact⟨[],B,.inr (by rw[show D=k::B from h2,e];rfl)⟩
  |cons r P=>exact⟨[],P++b::D,.inl (by rw[e,(dH h2).1];rfl)⟩
 |q::P,a::A,h=>by
  obtain⟨A',B',e⟩:=Wj (b:=b) (P:=P) (A:=A) (dH h).2;rcases e with e|e
  ·exact⟨q::A',B',.inl (by rw[mq,e];rfl)⟩
  ·exact⟨q::A',B',.inr (by rw[mq,e];rfl)⟩
theorem sw {M M':List Int}: ∀ {L L':List Int},(L++k::M).Nodup->L++k::M=L'++k::M'->L=L'
 | [],[],_,_=>rfl
 | [],q::L',hn,h=>by
   have e:=(dH h).2;rw[jZ,mh]at hn;exact absurd (show k∈M by rw[e];simp) hn.1
 |q::L,[],hn,h=>by
  have e:=(dH h).1;rw[mq,mh]at hn;exact absurd (show q∈L++k::M by rw[e];simp) hn.1
 |q::L,r::L',hn,h=>by
  rw[mq,mh]at hn;rw[(dH h).1,sw hn.2 (dH h).2]
theorem acg (hnd:l.Nodup):(b∉l/\l.filter (· !=b)=l)\/ ∃P D,l=P++b::D/\l.filter (· !=b)=P++D:=by
 by_cases h:b∈l
 ·right;obtain⟨P,D,rfl⟩:=vO h;rw[oK]at hnd;obtain⟨_,h2,h3⟩:=hnd;refine⟨P,D,rfl,?_⟩;rw[IA,Iy (by simp),Fh λhx=>h3 b hx b (by simp) rfl,Fh (mh.1 h2).1]
 ·exact .inl ⟨h,Fh h⟩
structure Ins (V W:aB) (a:Int) (i:Nat) (n:Int):Prop where
 wf:WF W
 len:W.ai.length=V.ai.length
 aP: ∀j:Int,0<=j->j<V.ai.length->aG W j=if j=a then(aG V j).take i++n::(aG V j).drop i else aG V j
 par: ∀j:Int,0<=j->j<V.ai.length->aJ W j=if j=n then a else aJ V j
 jS:BA V W
 tx: ∀x,DJ W x=DJ V x
theorem YS (hw:WF V) (h1:1<=n) (hn:n<V.ai.length) (hp:aJ V n= -1) (ha:dw V a=true) (hS:S n) (hc:Clo (aG V) S) (hna: ¬S a) (i:Nat):Ins V (eF V a i n) a i n:=by
 obtain⟨a0,a1⟩:=jU hw.pos ha;have hr:=Df hw h1 hS hc a1 hna;obtain⟨A,rfl⟩:=bQ a0;obtain⟨N,rfl⟩:=bQ (show 0<=n by omega);refine⟨E8 hw (by omega) (by omega) (by omega) ha hp hr,nN _ _ _ _,λj h0 hj=> ?_,λj h0 hj=> ?_,MK V A i N,OX V A N i⟩
 ·obtain⟨J,rfl⟩:=bQ h0;exact AJ V A N i J (by omega)
 ·obtain⟨J,rfl⟩:=bQ h0;exact xG V A N i J (by omega)
theorem xC (hw:WF T) (h0:0<=a) (h:k∈aG T a):aJ T k=a:=by
 obtain⟨A,rfl⟩:=bQ h0;rcases lG A T.ai.length with hA|hA
 ·exact(hw.kid A hA k h).2.2
 ·unfold aG at h;rw[nS (by omega)]at h;cases h
theorem YO (hw:WF T) (h1:0<=k) (hk:k<T.ai.length) (h0:0<=aJ T k):k∈aG T (aJ T k):=by
 obtain⟨K,rfl⟩:=bQ h1;exact hw.mem K (by omega) h0
theorem aeH (hw:WF T) (h1:0<=k) (hk:k<T.ai.length):aJ T k<T.ai.length:=by
 obtain⟨K,rfl⟩:=bQ h1;exact(hw.par K (by omega)).2
theorem Az (hw:WF T) (h0:0<=a):(aG T a).Nodup:=by
 obtain⟨A,rfl⟩:=bQ h0;rcases lG A T.ai.length with hA|hA
 ·exact hw.nodup A hA
 ·unfold aG;rw[nS (by omega)];exact Le
theorem zA (hw:WF T) (h1:1<=k) (hk:k<T.ai.length):aJ T k≠k:=by
 obtain⟨r,hr⟩:=hw.rank;obtain⟨K,rfl⟩:=bQ (show 0<=k by omega);intro e;have:=hr K (by omega) (by omega);rw[e]at this;omega
theorem Tr.hel (h:Tr H T) (hz:k∈H):aY T k=true:=by
 rw[<-h.hb]at hz;have:=(qE.1 hz).2;unfold uh aI at this;simp only[cz]at this;exact this.1
theorem Tr.hms (h:Tr H T) (hN:BA T U): ∀z∈H,bq U z=hnm z:=λz hz=>(hN.nm z (h.hel hz)).trans (h.hm z hz)
theorem aeE (h:uh T x=false):pgB T x=false:=by
 cases e:pgB T x with
 |false=>rfl
 |true =>
  unfold pgB aI at e;unfold uh aI at h;simp only[cz]at e;rw[e.1,e.2.1,nW,nW]at h;have h2:=e.2.2;unfold fU at h h2;rw[Eu,Eu,Ae,Ae]at h;rw[h2]at h;exact h.2.2
theorem Tr.nhs (h:Tr H T) (hN:BA T U) (hl:U.ai.length=T.ai.length): ∀x:Int,pgB U x=true->x=1:=λx hx=>by
 have h1:x<T.ai.length:=by
  unfold pgB aI at hx;simp only[cz]at hx;have:=(eP hx.1).2;omega
 exact h.nh x ((hN.named h1 _).symm.trans hx)
theorem Tr.ins (h:Tr H V) (hI:Ins V W a i n) (h1:1<=n) (hn:n<V.ai.length) (ha:1<=a) (ha2:a<V.ai.length) (hd: ∀z Z,(aG V a).drop i=z::Z->aY V z=true) (hp:aY V n=true\/ ∀Z z,(aG V a).take i=Z++ [z]->aY V z=true) {H':List Int}
 (hb:(aG W 1).filter (uh W)=H') (h1':(H'= []/\aG W 1= [])\/ ∃z R K,H'=z::R/\aG W 1=z::K) (hm': ∀z∈H',bq W z=hnm z):Tr H' W:=by
 have hN1:(1:Int)<V.ai.length:=(eP h.e1).2;refine⟨hI.wf,λp p0 p1 A j k B e=> ?_,λj j1 j2 he=> ?_,?_,(hI.jS.nm 1 h.e1).trans h.n1,(hI.jS.el 1 hN1).trans h.e1,(hI.jS.sp 1 h.e1).trans h.s1,hb,h1',hm',h.nhs hI.jS hI.len⟩
 ·rw[hI.len]at p1;rw[hI.aP p p0 p1]at e;have wK: ∀z∈aG V p,z<V.ai.length:=λz hz=>(dW h.wf hz p0).2
  by_cases Ky:p=a
  ·rw[au Ky]at e;rcases G6 e with⟨A',B',e'⟩|e'|⟨e',D',e2⟩
   ·rw[nQ]at e';rw[hI.jS.el j (wK j (by rw[e'];simp)),hI.jS.el k (wK k (by rw[e'];simp))];exact h.tt p p0 p1 A' j k B' e'
   ·subst e';rcases hp with hp|hp
    ·right;rw[hI.jS.el k hn];exact hp
    ·left
     --j is the last ahead
     have: ∃Z,(aG V p).take i=Z++ [j]:=by
      have h2:=Az hI.wf p0;rw[hI.aP p p0 p1,au Ky]at h2;exact⟨A,sw (M':=B) h2 (by rw[e];simp)⟩
     obtain⟨Z,hZ⟩:=this;rw[Ky]at hZ;rw[hI.jS.el j (wK j (by rw[<-nQ i (aG V p),Ky,hZ];simp))];exact hp Z j hZ
   ·right;subst e';have:=hd k D' (by rw[<-Ky];exact e2);rw[hI.jS.el k (wK k (by rw[<-nQ i (aG V p),e2];simp))];exact this
  ·rw[aj Ky]at e;rw[hI.jS.el j (wK j (by rw[e];simp)),hI.jS.el k (wK k (by rw[e];simp))];exact h.tt p p0 p1 A j k B e
 ·rw[hI.len]at j2;rw[hI.tx];exact h.tx j j1 j2 (by rw[<-hI.jS.el j j2];exact he)
 ·rw[hI.aP 0 (by omega) (by omega),aj (by omega)];exact h.k0
theorem Pt.ins (h:Pt V A y) (hw:WF V) (hI:Ins V W a i n) (hyn:y≠n) (hy:1<=y/\y<V.ai.length) (hA: ∀x∈A,x≠n/\1<=x/\x<V.ai.length) (hn:1<=n/\n<V.ai.length) (hS:S n) (hc:Clo (aG V) S) (hSA: ∀x∈A,¬S x) (wK: ∀d,S d->0<=d) (ha:0<=a/\a<V.ai.length)
 (he:aY V n=true\/ ∀A' x,A=A'++ [x]->lD V x=false-> ∀Z,(aG V a).take i≠Z++ [y]):Pt W A y:=by
 obtain⟨⟨Q,q1,q2,q3⟩,h2,h3,h4,h5⟩:=h;have hpy:aJ W y=aJ V y:=by rw[hI.par y (by omega) hy.2,aj hyn]
 have hpx: ∀x∈A,aJ W x=aJ V x:=λx hx=>by
  obtain⟨x1,x2,x3⟩:=hA x hx;rw[hI.par x (by omega) x3,aj x1]
 refine⟨⟨λd=>(Q d/\0<=d/\d<V.ai.length)\/(S d/\d<V.ai.length),.inl ⟨q1,by omega,hy.2⟩,?_,?_⟩,by rw[hpy];exact h2,λht x hx=> ?_,λhr=> ?_,λA' x e b1 b2=> ?_⟩
 ·intro d hd k hk
  have hd0:0<=d/\d<V.ai.length:=by
   rcases hd with⟨_,h⟩|⟨h1,h⟩
   ·exact h
   ·exact⟨wK d h1,h⟩
  rw[hI.aP d hd0.1 hd0.2]at hk
  have key:k∈aG V d->(Q k/\0<=k/\k<V.ai.length)\/(S k/\k<V.ai.length):=λhk=>by
   have:=dW hw hk hd0.1;rcases hd with⟨h,_⟩|⟨h,_⟩
   ·exact .inl ⟨q2 d h k hk,by omega,this.2⟩
   ·exact .inr ⟨hc d h k hk,this.2⟩
  split at hk
  ·rcases fB.1 hk with hk|hk
   ·exact key (Ej hk)
   ·rcases dS.1 hk with rfl|hk
    ·exact .inr ⟨hS,hn.2⟩
    ·exact key (pQ hk)
  ·exact key hk
 ·rintro x hx (⟨h,_⟩|⟨h,_⟩)
  ·exact q3 x hx h
  ·exact hSA x hx h
 ·rw[hpx x hx,hpy];exact h3 (by unfold lI at ht |-;rw[<-hI.jS.named hy.2];exact ht) x hx
 ·obtain⟨A',x,e,e2,e3⟩:=h4 (by unfold xw at hr |-;rw[<-hI.jS.named hy.2];exact hr);refine⟨A',x,e,e2.imp (λe2=> ?_) id,hpy.trans e3⟩;rw[hI.jS.named (hA x (by rw[e];simp)).2.2];exact e2
 ·unfold lD at b1 b2;rw[hI.jS.stop (hA x (by rw[e];simp)).2.2]at b1;rw[hI.jS.stop hy.2]at b2;have hns:=h5 A' x e b1 b2;intro p p0 p1 Z k Y ek;rw[hI.len]at p1;rw[hI.aP p p0 p1]at ek;by_cases Ky:p=a
  ·rw[au Ky]at ek;rcases G6 ek with⟨Z',Y',e'⟩|e'|⟨e',_⟩
   ·rw[nQ]at e';rw[hI.jS.el k (dW hw (by rw[e'];simp) p0).2];exact hns p p0 p1 Z' k Y' e'
   ·subst e';rcases he with he|he
    ·rw[hI.jS.el k hn.2];exact he
    ·exfalso;have h2:=Az hI.wf p0;rw[hI.aP p p0 p1,au Ky]at h2;exact he A' x e b1 Z (by rw[<-Ky];exact sw (M':=Y) h2 (by rw[ek];simp))
   ·exact absurd e' hyn
  ·rw[aj Ky]at ek;rw[hI.jS.el k (dW hw (by rw[ek];simp) p0).2];exact hns p p0 p1 Z k Y ek
end
end
section
section
variable {T U V W:aB} {H l m A B P D:List Int} {a n x y k b:Int} {i:Nat} {S:Int->Prop}
theorem og {S:List ae} {x y:ae} (h:x.toList=y.toList):fU S x=fU S y:=by unfold fU;rw[h]
theorem Pts.pre (h:Pts T (l++m)):Pts T l:=λA y B e=>h A y (B++m) (by rw[e];simp)
theorem Tr.two (h:Tr H T):1<T.ai.length:=by have:=eP h.e1;omega
theorem uD: ∀ {l:List Int},Pts T l->l.Nodup:=by
 intro l
 induction h:l.reverse generalizing l with
 |nil=>intro _;rw[Xc.1 h];exact Le
 |cons x r ih =>
  intro hp;have e:l=r.reverse++ [x]:=by rw[<-vM l,h];simp
  subst e;have:=ih (l:=r.reverse) (by simp) hp.pre;refine oK.2 ⟨this,by simp,λz hz w hw e=> ?_⟩;rw[dG.1 hw]at e;obtain⟨S,s1,_,s3⟩:=(hp r.reverse x [] (by simp)).sep;exact s3 z hz (e▸s1)
theorem RB (hw:WF T) (h:Pt T A y) (hx:x∈A) (he:aY T x=true) (h0:0<=y):aJ T x≠y:=by
 intro e;obtain⟨S,s1,s2,s3⟩:=h.sep;have:=eP he;have hk:=YO hw (by omega) this.2 (by rw[e];exact h0);rw[e]at hk;exact s3 x hx (s2 y s1 x hk)
structure PL (T:aB) (l:List Int) (a:Int) (i:Nat):Prop where
 a1:1<=a
 a2:a<T.ai.length
 ho:dw T a=true
 il:i<=(aG T a).length
 ln:a∈l\/ ∃z∈l,z∈aG T a
 dr: ∀z Z,(aG T a).drop i=z::Z->aY T z=true
 sf: ∀A y B,l=A++y::B-> ∀A' x,A=A'++ [x]->lD T x=false-> ∀Z,(aG T a).take i≠Z++ [y]
 i0:a=1->i=0-> ∀z Z,aG T 1=z::Z->lI T z=true
theorem X8: ∀ {l:List Int},Pts T l->(∃r,l=1::r)->aI T (l.getLast?.getD 0) lC=true-> ∃L z rows,l=L++z::rows/\(lI T z=true\/(z=1/\L= []))/\ ∀y∈rows,xw T y=true:=by
 intro l
 induction h:l.reverse generalizing l with
 |nil =>
  intro _ hd;obtain⟨r,hr⟩:=hd;rw[Xc.1 h]at hr;cases hr
 |cons x r ih =>
  intro hp hd hn;have e:l=r.reverse++ [x]:=by rw[<-vM l,h];simp
  have hx:l.getLast?.getD 0=x:=by rw[e];simp
  rw[hx]at hn;by_cases ht:lI T x=true
  ·exact⟨r.reverse,x,[],e,.inl ht,λy hy=>by cases hy⟩
  ·have hr:xw T x=true:=by
    unfold xw;unfold lI at ht;unfold aI at hn ht |-;simp only[cz]at hn |-;refine⟨hn.1,hn.2.1,?_⟩;rw[hn.1,hn.2.1,nW,nW]at ht;have h2:=hn.2.2;unfold lC at h2;unfold lH at ht;rw[lT]at h2;rw[lT]at ht;simp only[jD]at h2 ht;rcases h2 with h2|h2
    ·exact absurd (.inl h2) ht
    ·exact h2
   obtain⟨A',z,ea,e2, -⟩:=(hp r.reverse x [] (by rw[e])).row hr;have hpre:Pts T r.reverse:=by rw[e]at hp;exact hp.pre
   by_cases h1:z=1
   ·subst h1
    have hA:A'= []:=by
     obtain⟨q,hq⟩:=hd;have hnd:=uD hp;rw[e,ea]at hq hnd;cases A' with
     |nil=>rfl
     |cons w A' =>
      obtain rfl:w=1:=(dH hq).1;simp at hnd
    refine⟨[],1,[x],by rw[e,ea,hA];rfl,.inr ⟨rfl,rfl⟩,λy hy=>by rw[dG.1 hy];exact hr⟩
   ·have hd': ∃q,r.reverse=1::q:=by
     obtain⟨q,hq⟩:=hd;rw[e]at hq;cases hrr:r.reverse with
     |nil=>rw[hrr]at ea;cases A' <;>cases ea
     |cons w q'=>rw[hrr]at hq;exact⟨q',by rw[(dH hq).1]⟩
    obtain⟨L,z',rows,f1,f2,f3⟩:=ih (l:=r.reverse) (by simp) hpre hd' (by rw[ea];simpa using e2.resolve_right h1);refine⟨L,z',rows++ [x],by rw[e,f1];simp,f2,λy hy=> ?_⟩;rcases fB.1 hy with hy|hy
    ·exact f3 y hy
    ·rw[dG.1 hy];exact hr
theorem ahI (h:xw T x=true):lI T x=false:=by
 unfold xw aI at h;unfold lI aI lH;simp only[cz]at h;rw[h.1,h.2.1,nW,nW];obtain⟨n,hn,he⟩:=nU.1 h.2.2;rw[og (eq_of_beq he)];simp only[dS,mY,nO]at hn;rcases hn with rfl|rfl|rfl|rfl <;>kernel_rfl
theorem yg (h:lI T x=true):lD T x=true:=by
 unfold lI aI at h;simp only[cz,cO]at h;unfold lD sZ iY;rw[h.1,h.2.1,au rfl,au rfl];obtain⟨n,hn,he⟩:=nU.1 h.2.2;rw[og (eq_of_beq he)];unfold lH at hn;rw[dG.1 hn]
 kernel_rfl
theorem Av (h:Tr H T):lD T 1=true:=by
 unfold lD sZ iY;rw[h.e1,h.s1,h.n1,au rfl,au rfl]
 kernel_rfl
theorem aao (h:Tr H T):lI T 1=false:=by
 unfold lI aI;rw[h.n1,show fU lH (⟨#[104,116,109,108]⟩:ae)=false by kernel_rfl,jd,jd]
theorem Je (T:aB) (f:Int): ∀X Y:List Int,(∀x∈X,lI T x=false)->lW T f (X++Y)=lW T f Y
 | [],_,_=>rfl
 |x::X,Y,h=>by
  have hx: ¬aI T x lH=true:=by have:=h x dR;unfold lI at this;rw[this];decide
  rw[mq,lW,aj hx];exact Je T f X Y λy hy=>h y (gm _ hy)
theorem aij {K:List Int} (hnd:K.Nodup) (hz:x∈K): ∃j:Nat,xJ K x 0=j/\K.take j++x::(K.drop (j+1))=K/\K.drop j=x::K.drop (j+1):=by
 obtain⟨j,j1,j2,j3, -⟩:=xI K x 0 hz;rw[iM]at j2;refine⟨j,j2,?_,?_⟩
 ·rw[mi j1,dQ]at j3;rw[<-j3,<-kR j1,nQ]
 ·rw[mi j1,dQ]at j3;rw[kR j1,j3]
theorem FR.place (h:FR H T l) (on:Bool): ∃i:Nat,eT T (aZ T l on 0).1 (aZ T l on 0).2=i/\PL T l (aZ T l on 0).1 i/\((on&&aI T (l.getLast?.getD 0) lC)=false->(aZ T l on 0).1=l.getLast?.getD 0/\ ∀x∈l,aJ T x≠l.getLast?.getD 0)/\((aZ T l on 0).2=0\/((aZ T l on 0).2∈l/\(aZ T l on 0).2∈aG T (aZ T l on 0).1)):=by
 obtain⟨r,hr⟩:=h.hd;have hw:=h.tr.wf;have htop:=last_pos h.el h.hd
 have hte:aY T (l.getLast?.getD 0)=true:=by
  cases e:l.getLast? with
  |none=>rw[hr]at e;simp at e
  |some x=>exact h.el x (Xe e)
 have hnil:l≠ []:=by rw[hr];exact yN _ _
 have hsplit: ∃A,l=A++ [l.getLast?.getD 0]:=by
  obtain⟨A,y,e⟩: ∃A y,l=A++ [y]:=⟨_,_,(Er hnil).symm⟩;exact⟨A,by rw[e];simp⟩
 have hpt: ∀x∈l,aJ T x≠l.getLast?.getD 0:=λx hx=>by
  obtain⟨A,hA⟩:=hsplit;by_cases e:x=l.getLast?.getD 0
  ·rw[<-e];have:=eP (h.el x hx);exact zA hw this.1 this.2
  ·have hxA:x∈A:=by
    have:=hx;rw[hA]at this;rcases fB.1 this with h1|h1
    ·exact h1
    ·exact absurd (dG.1 h1) e
   exact RB hw (h.pt A _ [] hA) hxA (h.el x hx) (by omega)
 have VN: ∀ {a y:Int} {i:Nat} {Z:List Int},0<=a->(aG T a).take i=Z++ [y]->aJ T y=a:=λh0 e=>xC hw h0 (Ej (by rw[e];simp))
 by_cases hc:(on&&aI T (l.getLast?.getD 0) lC)=false
 ·have e:aZ T l on 0=(l.getLast?.getD 0,0):=by
   unfold aZ;rw[aj hnil];simp only[dY];rw[aj (by rw[hc];decide)]
  rw[e];refine⟨(aG T (l.getLast?.getD 0)).length,by unfold eT;rw[au rfl],⟨htop,(eP hte).2,by unfold dw;rw[hte,sU],ay _,.inl (by obtain⟨A,hA⟩:=hsplit;rw[hA];simp),λz Z hz=> ?_,λA y B hl A' x hA hb Z hZ=> ?_,λh1 h2 z Z hz=> ?_⟩,λ_=>⟨rfl,hpt⟩,.inl rfl⟩
  ·rw[Lp]at hz;cases hz
  ·exact hpt y (by rw[hl];simp) (VN (by omega) hZ)
  ·have h1':l.getLast?.getD 0=1:=h1;rw[h1',hz]at h2;cases h2
 ·rw[Bool.not_eq_false]at hc;rw[cz]at hc;obtain⟨L,z,rows,el,ez,er⟩:=X8 h.pt h.hd hc.2
  have e:aZ T l on 0=lW T 1 l.reverse:=by
   unfold aZ;rw[aj hnil];simp only[dY];rw[au (by rw[hc.1,hc.2];rfl),hr];rfl
  have hzl:z∈l:=by rw[el];simp
  have hze:=h.el z hzl;have hzp:=eP hze;have aqb:l.reverse=rows.reverse++z::L.reverse:=by rw[el];simp
  have efo:lW T 1 l.reverse=lW T 1 (z::L.reverse):=by
   rw[aqb];exact Je T 1 _ _ λx hx=>ahI (er x (jM.1 hx))
  rw[e,efo]
  --of the rows:each is in the one under it
  have hrows: ∀A y B,l=A++y::B->y∈rows-> ∃A' x,A=A'++ [x]/\aJ T y=x:=λA y B hl hy=>by
   obtain⟨A',x,h1, -,h2⟩:=(h.pt A y B hl).row (er y hy);exact⟨A',x,h1,h2⟩
  rcases ez with ht|⟨rfl,rfl⟩
  ·have hpz:=h.pt L z rows el;have Sl:=hpz.Bz
   have hq:lq T z=aJ T z:=by
    unfold lq xF;rw[au (by simp;omega)]
   have e2:lW T 1 (z::L.reverse)=(aJ T z,z):=by
    rw[lW,au (show aI T z lH=true from ht),hq,au Sl]
   rw[e2];have hzk:=YO hw (by omega) hzp.2 Sl;have hpl:aJ T z<T.ai.length:=aeH hw (by omega) hzp.2
   have hp1:aJ T z≠0:=by
    intro e0;rw[e0,h.tr.k0]at hzk;rw[dG.1 hzk,aao h.tr]at ht;cases ht
   obtain⟨j,j1,j2,j3⟩:=aij (Az hw Sl) hzk;refine⟨j,by unfold eT;rw[aj (by omega)];exact j1,⟨by omega,hpl,?_,?_,.inr ⟨z,hzl,hzk⟩,λz' Z hz=> ?_,λA y B hl A' x hA hb Z hZ=> ?_,λh1 h2 z' Z hz=> ?_⟩,λhh=> ?_,.inr ⟨hzl,hzk⟩⟩
   ·obtain⟨P,hP⟩:=bQ Sl;rw[hP];refine hw.holds P (by omega) λe=> ?_
    rw[hP,e]at hzk;cases hzk
   ·show j<=(aG T (aJ T z)).length;rcases lG (aG T (aJ T z)).length j with hlt|hge
    ·rw[Xh (by omega)]at j3;cases j3
    ·exact hge
   ·rw[j3]at hz;rw[<-(dH hz).1];exact hze
   ·have hyp:=VN Sl hZ;have hyl:y∈l:=by rw[hl];simp
    rw[el]at hyl;rcases fB.1 hyl with hy|hy
    ·exact hpz.tab ht y hy hyp
    ·rcases dS.1 hy with rfl|hy
     ·exact zA hw hzp.1 hzp.2 (by
       exfalso;have h1:=Az hw Sl;rw[<-j2,oK]at h1;rw[hZ]at h1
       exact h1.2.2 y (by simp) y (by simp) rfl)
     ·obtain⟨A2,w,hA2,hpw⟩:=hrows A y B hl hy
      --w is z,or above it
      have hwz:w=z\/ ∃C E,l=C++w::E/\z∈C:=by
       have hnd:=uD h.pt;have hwl:w∈l:=by rw[hl,hA2];simp
       obtain⟨R1,R2,hR⟩:=vO hy;have e3:A++y::B=(L++z::R1)++y::R2:=by rw[<-hl,el,hR];simp
       have e4:A=L++z::R1:=sw (M':=R2) (by rw[<-hl];exact hnd) e3;rw[hA2]at e4;rcases yM R1 with hR1|⟨R3,w',hR1⟩
       ·rw[hR1]at e4;left;have:=Xi e4 rfl;exact(dH this).1
       ·right;rw[hR1,yO]at e4;rw[show L++z::(R3++ [w'])=(L++z::R3)++ [w'] by simp]at e4;have h5:=yP e4 rfl;obtain rfl:=(dH h5.2).1;exact⟨A2,y::B,by rw[hl,hA2];simp,by rw[h5.1];simp⟩
      rcases hwz with rfl|⟨C,E,hC,hzC⟩
      ·rw[hyp]at hpw;exact zA hw hzp.1 hzp.2 hpw
      ·exact RB hw (h.pt C w E hC) hzC hze (by have:=eP (h.el w (by rw[hC];simp));omega) (by rw[<-hpw,hyp])
   ·have apm:=hzk;have h1:aJ T z=1:=h1;rw[h1]at j3 apm;rw[h2,xh,hz]at j3;rw[(dH j3).1];exact ht
   ·rw[hc.1,hc.2]at hh;cases hh
  ·have e2:lW T 1 (1::([]:List Int).reverse)=(1,0):=by
    have hno: ¬aI T 1 lH=true:=by have:=aao h.tr;unfold lI at this;rw[this];decide
    rw[lW,aj hno];rfl
   rw[e2];refine⟨(aG T 1).length,by unfold eT;rw[au rfl],⟨by omega,hzp.2,by unfold dw;rw[hze,sU],ay _,.inl hzl,λz Z hz=> ?_,λA y B hl A' x hA hb Z hZ=> ?_,λh1 h2 z Z hz=> ?_⟩,λhh=> ?_,.inl rfl⟩
   ·rw[Lp]at hz;cases hz
   ·have hyp:=VN (by omega) hZ;have hyl:y∈l:=by rw[hl];simp
    rw[el,jZ]at hyl;rcases dS.1 hyl with rfl|hy
    ·exact zA hw (by omega) hzp.2 hyp
    ·obtain⟨A2,w,hA2,hpw⟩:=hrows A y B hl hy;rw[hA]at hA2;have h5:=yP hA2 rfl;have h6:=(dH h5.2).1;rw[h6,<-hpw,hyp,Av h.tr]at hb;cases hb
   ·rw[hz]at h2;cases h2
   ·rw[hc.1,hc.2]at hh;cases hh
end
end
end Go.Proofs.YtnlbcifhedjbfaaGreatDoor
