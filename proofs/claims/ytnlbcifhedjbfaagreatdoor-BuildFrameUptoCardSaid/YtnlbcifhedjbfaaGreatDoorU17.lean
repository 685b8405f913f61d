/- oZ joined for a claim: FrX, FrV, aw4: plain laws and contracts. No conditions beyond those that each lemma types. -/
import Derived.Test.YtnlbcifhedjbfaaGreatDoorU16
import Derived.Test.YtnlbcifhedjbfaaGreatDoorU09
set_option linter.unusedVariables false
set_option linter.unusedSimpArgs false
set_option maxRecDepth 100000
set_option maxHeartbeats 8000000
open Go.Proofs.Tryz
namespace Go.Proofs.YtnlbcifhedjbfaaGreatDoor
open Go.RowKit Mem
structure ag6 (n:NT):Prop where
 kd:vC n=1
 nm:ER n=(⟨#[104,116,109,108]⟩:ae)
 sp:Oh n=0
 tx:txB n=false
 fr:TE (RX n) 0 0=some (1,1)
 ct:fT n<=1000
 dp:mW n<=32
def ZQ (Q:NT×Int):Prop:=(Q.2=0/\ag6 Q.1)\/(Q.1=lu/\(Q.2=41\/Q.2=42\/Q.2=43\/Q.2=44))
theorem aaE {x:ae} {l:List ax} {y:ae} (hy:y.toList=l):(x.toList==l)=true↔x=y:=by
 rw[cO,<-hy];exact⟨λh=>toList_inj h,λh=>by rw[h]⟩
theorem acS {x:NT} {r:List NT} {h b:Nat} (hf:TE (x::r) h b=some (1,1)):(vC x≠1/\TE r h b=some (1,1))\/(vC x=1/\ ¬(h=0/\(ER x).toList≠([104,101,97,100]:List ax))/\TE r (if((ER x).toList==([104,101,97,100]:List ax))&&(Oh x==0)then h+1 else h) (if((ER x).toList==([98,111,100,121]:List ax))&&(Oh x==0)then b+1 else b)=some (1,1)):=by
 have e1:=aaE (x:=ER x) (y:=(⟨#[104,101,97,100]⟩:ae)) (l:=([104,101,97,100]:List ax)) (by kernel_rfl);have e2:=aaE (x:=ER x) (y:=(⟨#[98,111,100,121]⟩:ae)) (l:=([98,111,100,121]:List ax)) (by kernel_rfl);rw[TE]at hf;by_cases hk:vC x=1
 ·rw[aj (λq=>q hk)]at hf;by_cases hh:h=0/\ER x≠(⟨#[104,101,97,100]⟩:ae)
  ·rw[au hh]at hf;cases hf
  ·rw[aj hh]at hf;refine .inr ⟨hk,λq=>hh ⟨q.1,λe=>q.2 (by rw[e];kernel_rfl)⟩,?_⟩;simp only[cz,e1,e2,cO];exact hf
 ·rw[au hk]at hf;exact .inl ⟨hk,hf⟩
theorem I8 (s:ae) (w:af) (hS:Calls prog 4 #[] w λe w'=>e= .returned (.bool true)/\Below w.heap.size w w') (hB: ∀u,Below w.heap.size w u->Calls prog 5 #[.string s] u λr u'=> ∃cs Q,r= .returned (.tuple #[.agg cs.toArray,.int .i64 (Prod.snd Q)])/\gq (· <u.heap.size) u' cs (Prod.fst Q)/\ZQ Q/\Below u.heap.size u u') :
 Calls prog 3 #[.string s] w λe w'=>e= .returned (.bool true)/\Below w.heap.size w w':=by
 have HS:=hd' hS;have HX:=hd' hB;clear hB hS;go_enter func3,ntmps3
 go_wp2_with fail
 refine HS.o'.mono ?_;rintro e w1 ⟨rfl,hb1⟩;have HB1:=hd' hb1;clear hb1;dsimp only;go_wp2_with fail
 refine(HX.o' w1 HB1.o').mono ?_;rintro e w2 ⟨cs,⟨n,er⟩,rfl,hn,hq,hb2⟩;have HB2:=hd' (aK HB1.o' hb2);have hn2:=hn.other (G:=pG) λ_ _ hx=>hx.elim
 clear hb2 hn HX HS;rcases hq with⟨h0,hf⟩|⟨hE,he⟩
 ·obtain rfl:er=0:=h0;have hn0:=hn2;cases hn2 with
  | @mk aH aN ah a c aA aL ka kc aP css h1 h2 h3 h4 k1 k2 k3 k4 hl hk =>
    have ZL:=hd' hf;obtain⟨q1,q2,q3, -, -, -, -⟩:=hf;obtain rfl:aH=1:=q1;obtain rfl:ah=(⟨#[104,116,109,108]⟩:ae):=q2;obtain rfl:aN=0:=q3;have Bw:=hd' k4;have HK:=hd' hk;have HL:=hd' hl;have HN:=hd' hn0;have hB:=eU w2 (.cells #[.int .i64 1,.int .i64 0,.string (⟨#[104,116,109,108]⟩:ae),.slice a aA.length c,.string aL,.slice ka aP.length kc] 26);have hb:=HB2.o'.alloc HB2.o'.size (.cells #[.int .i64 1,.int .i64 0,.string (⟨#[104,116,109,108]⟩:ae),.slice a aA.length c,.string aL,.slice ka aP.length kc] 26);have hkp:=(az.refl pG w2).alloc (.cells #[.int .i64 1,.int .i64 0,.string (⟨#[104,116,109,108]⟩:ae),.slice a aA.length c,.string aL,.slice ka aP.length kc] 26);unfold maxLen at k2;have hkc:aP.length<=9223372036854775807:=by omega
    clear h1 h2 h3 h4 k3 k4 hl hk hn0;dsimp only[iF];go_wp2_with fail
    generalize w2.alloc (.cells #[.int .i64 1,.int .i64 0,.string (⟨#[104,116,109,108]⟩:ae),.slice a aA.length c,.string aL,.slice ka aP.length kc] 26)=w3 at *;have HR:=hd' hB;have HB3:=hd' hb;have HKp:=hd' hkp;clear hB hb hkp;go_loopw [6,7,8] (λvh vb i wr=> ∃j:Nat,j<=aP.length/\i= .int .i64 j/\(∃hd bd:Nat,hd<=j/\bd<=j/\vh= .int .i64 hd/\vb= .int .i64 bd/\Hid (TE (aP.drop j) hd bd=some (1,1)))/\Below w3.heap.size w3 wr) (λ_ _ i _=>aP.length-(intOf i).toNat)
    case atStart=>exact⟨0,bD _,rfl,⟨0,0,ay _,ay _,rfl,rfl,hd' ZL.o'.fr⟩,aQ _ _⟩
    case round =>
     obtain⟨j,hj,rfl,⟨hd,bd,hd1,bd1,rfl,rfl,HF⟩,hbr⟩:=hrel;have nJ:=hd' hbr;have Od:=hd' (aK HB3.o' hbr);have hBr:=(hbr.block w2.heap.size (fZ HR.o')).trans HR.o';obtain⟨⟨c0,c1,c2,_,_,c5⟩,_⟩:=kZ hBr;have Fw:=HKp.o'.trans (az.bC (F:=pG) hbr);clear hbr;by_cases hlt:j<aP.length
     ·have hlt':j<css.length:=by rw[HL.o'];exact hlt
      have qg:=(HK.o' j hlt' hlt).kept Fw
      have h6: ∀c∈css,c.length=6:=by
       intro c hc;obtain⟨i,hi,rfl⟩:=pR hc;exact(HK.o' i hi (by rw[<-HL.o'];exact hi)).len
      obtain⟨f3,f4,f5,f7,f9,he⟩:=Gg qg;obtain⟨b,o,rfl,e0,e1,e2,e3,e4,e5⟩:=uG h6 (Bw.o'.kept Fw) hlt' he;have hfr:=HF.o';rw[kR hlt]at hfr;have hro:=acS hfr;generalize aP[j]=x at *;clear Fw qg h6 he HF hfr hBr;cases hk:(vC x !=1)
      case true =>
       have aip:=hro.resolve_right λq=>by rw[q.1]at hk;cases hk
       have ZM:=hd' aip.2;clear hro aip;go_wp2_with fail
       go_roundw
       case rel=>exact⟨j+1,by omega,by go_num,⟨hd,bd,by omega,by omega,rfl,rfl,ZM⟩,nJ.o'.alloc nJ.o'.size _⟩
       case measure=>simp[intOf];omega
      case false =>
       have hk1:vC x=1:=by rw[bne,Bool.not_eq_false',cO]at hk;exact hk
       have aip:=hro.resolve_left λq=>q.1 hk1
       obtain⟨-,hz,hfn⟩:=aip;clear hro hk1;have hd3: ¬9223372036854775807<(hd:Int)+1:=by omega
       have bd3: ¬9223372036854775807<(bd:Int)+1:=by omega
       generalize vC x=kd at *;generalize ER x=nm at *;generalize Oh x=sp at *;generalize LH x=tt at *;generalize RX x=ks at *;cases hnm:(nm.toList==([104,101,97,100]:List ax)) <;>cases hbn:(nm.toList==([98,111,100,121]:List ax)) <;>cases hsp:(sp==0) <;>(rw[hnm,hbn,hsp]at hfn;simp only[Bool.and_true,jd,gQ,dY,dM]at hfn)
       case true.true.false=>exact absurd ((eq_of_beq hnm).symm.trans (eq_of_beq hbn)) (by decide)
       case true.true.true=>exact absurd ((eq_of_beq hnm).symm.trans (eq_of_beq hbn)) (by decide)
       case false.false.false =>
        have hd0:((hd:Int)==0)=false:=aV.2 λe=>hz ⟨by omega,λe2=>by rw[e2]at hnm;cases hnm⟩
        have ZM:=hd' hfn;clear hfn hz;go_wp2_with fail
        go_roundw
        case rel=>exact⟨j+1,by omega,by go_num,⟨hd,bd,by omega,by omega,rfl,rfl,ZM⟩,nJ.o'.alloc nJ.o'.size _⟩
        case measure=>simp[intOf];omega
       case false.false.true =>
        have hd0:((hd:Int)==0)=false:=aV.2 λe=>hz ⟨by omega,λe2=>by rw[e2]at hnm;cases hnm⟩
        have ZM:=hd' hfn;clear hfn hz;go_wp2_with fail
        go_roundw
        case rel=>exact⟨j+1,by omega,by go_num,⟨hd,bd,by omega,by omega,rfl,rfl,ZM⟩,nJ.o'.alloc nJ.o'.size _⟩
        case measure=>simp[intOf];omega
       case false.true.false =>
        have hd0:((hd:Int)==0)=false:=aV.2 λe=>hz ⟨by omega,λe2=>by rw[e2]at hnm;cases hnm⟩
        have ZM:=hd' hfn;clear hfn hz;go_wp2_with fail
        go_roundw
        case rel=>exact⟨j+1,by omega,by go_num,⟨hd,bd,by omega,by omega,rfl,rfl,ZM⟩,nJ.o'.alloc nJ.o'.size _⟩
        case measure=>simp[intOf];omega
       case false.true.true =>
        have hd0:((hd:Int)==0)=false:=aV.2 λe=>hz ⟨by omega,λe2=>by rw[e2]at hnm;cases hnm⟩
        have ZM:=hd' hfn;clear hfn hz;go_wp2_with fail
        go_roundw
        case rel=>exact⟨j+1,by omega,by go_num,⟨hd,bd+1,by omega,by omega,rfl,by go_num,ZM⟩,nJ.o'.alloc nJ.o'.size _⟩
        case measure=>simp[intOf];omega
       case true.false.false =>
        have ZM:=hd' hfn;clear hfn hz;rcases Lb hd with h0|h0
        ·subst h0;go_wp2_with fail
         go_roundw
         case rel=>exact⟨j+1,by omega,by go_num,⟨0,bd,by omega,by omega,rfl,rfl,ZM⟩,nJ.o'.alloc nJ.o'.size _⟩
         case measure=>simp[intOf];omega
        ·have hd0:((hd:Int)==0)=false:=aV.2 λe=>absurd h0 (by omega)
         go_wp2_with fail
         go_roundw
         case rel=>exact⟨j+1,by omega,by go_num,⟨hd,bd,by omega,by omega,rfl,rfl,ZM⟩,nJ.o'.alloc nJ.o'.size _⟩
         case measure=>simp[intOf];omega
       case true.false.true =>
        have ZM:=hd' hfn;clear hfn hz;rcases Lb hd with h0|h0
        ·subst h0;go_wp2_with fail
         go_roundw
         case rel=>exact⟨j+1,by omega,by go_num,⟨0+1,bd,by omega,by omega,by go_num,rfl,ZM⟩,nJ.o'.alloc nJ.o'.size _⟩
         case measure=>simp[intOf];omega
        ·have hd0:((hd:Int)==0)=false:=aV.2 λe=>absurd h0 (by omega)
         go_wp2_with fail
         go_roundw
         case rel=>exact⟨j+1,by omega,by go_num,⟨hd+1,bd,by omega,by omega,by go_num,rfl,ZM⟩,nJ.o'.alloc nJ.o'.size _⟩
         case measure=>simp[intOf];omega
     ·skip;have hdn:aP.drop j= []:=iZ (by omega);have hf2:=HF.o';rw[hdn,TE]at hf2
      obtain⟨rfl,rfl⟩:hd=1/\bd=1:=by
       have:=Il hf2;exact⟨aW Prod.fst this,aW Prod.snd this⟩
      clear hdn hf2;have HNr:=hd' (HN.o'.kept Fw);have HA:=hd' (OY _ _ wr _ (ay _) ZL.o'.tx HNr.o');have HCt:=hd' (λu (hu:Below wr.heap.size wr u)=>Fv 1000 _ u _ ZL.o'.ct (by decide) (HNr.o'.kept (az.bC (F:=pG) hu)));have HDp:=hd' (λu (hu:Below wr.heap.size wr u)=>xS 1000 _ u _ ZL.o'.ct (by decide) (HNr.o'.kept (az.bC (F:=pG) hu)));have hct:=ZL.o'.ct;have hdp:=ZL.o'.dp;unfold iF at HA HCt HDp;generalize fT (.mk 1 0 (⟨#[104,116,109,108]⟩:ae) aA aL aP)=ct at *;generalize mW (.mk 1 0 (⟨#[104,116,109,108]⟩:ae) aA aL aP)=dp at *;have avf:((ct:Nat):Int)<=1000:=by omega
      have ave:((dp:Nat):Int)<=32:=by omega
      clear Fw hct hdp HF;go_wp2_with fail
      refine HA.o'.mono ?_;rintro e w4 ⟨rfl,hb4⟩;have WX:=hd' hb4;obtain⟨⟨p0,p1,p2,p3,p4,p5⟩,_⟩:=kZ ((hb4.block w2.heap.size (fZ hBr)).trans hBr);clear hb4
      go_wp2_with (first
       |(go_at_call 7;refine(HCt.o' _ WX.o').mono ?_;rintro e w5 ⟨rfl,hb5⟩;have Xb:=hd' (aK WX.o' hb5);obtain⟨⟨q0,q1,q2,q3,q4,q5⟩,_⟩:=kZ ((Xb.o'.block w2.heap.size (fZ hBr)).trans hBr);clear hb5)
       |(go_at_call 8;refine(HDp.o' _ Xb.o').mono ?_;rintro e w6 ⟨rfl,hb6⟩;have HB6:=hd' (aK Od.o' (aK Xb.o' hb6));clear hb6))
      go_ret;exact⟨rfl,HB6.o'⟩
 ·obtain rfl:n=lu:=hE;obtain⟨f3,f4,f5,f7,f9,he2⟩:=Gg hn2;have he3:cs=iF 0 0 ⟨#[]⟩ f3 f4 f5 ⟨#[]⟩ f7 0 f9:=he2;subst he3;have he4:er=41\/er=42\/er=43\/er=44:=he;clear he he2 hn2;have HB3:=hd' (HB2.o'.alloc HB2.o'.size (.cells #[.int .i64 0,.int .i64 0,.string ⟨#[]⟩,.slice f3 f4 f5,.string ⟨#[]⟩,.slice f7 0 f9] 26));dsimp only[iF];rcases he4 with rfl|rfl|rfl|rfl
  ·go_wp2_with fail
   go_ret;exact⟨rfl,HB3.o'⟩
  ·go_wp2_with fail
   go_ret;exact⟨rfl,HB3.o'⟩
  ·go_wp2_with fail
   go_ret;exact⟨rfl,HB3.o'⟩
  ·go_wp2_with fail
   go_ret;exact⟨rfl,HB3.o'⟩
section
structure BI (E:BE) (ws:af) (n:Nat) (b:aC) (w:af):Prop where
 Zo:sG E ws 10100 0 b w
 pg:E.pg=aam
 md:MD b
 wk:IN 1 b
 uw:uw b<=n
section
variable {E:BE} {ws w w':af} {n:Nat} {b:aC} {m:aO} {a:Option Addr} {ac:Nat}
theorem BI.world (h:BI E ws n b w) (hb:Below w.heap.size w w'):BI E ws n b w':=⟨h.Zo.world hb,h.pg,h.md,h.wk,h.uw⟩
theorem BI.below (h:BI E ws n b w):Below E.w0.heap.size E.w0 w:=h.Zo.bm.li.below
theorem alH (h:MD b) (m:aO):MD (b.wF m):=MD.ite (λ_=>akq h m) λ_=>h
theorem alG (b:aC) (m:aO):uw (b.wF m)<=uw b+m.aL.size:=by
 unfold aC.wF;split
 ·exact aj' b m
 ·exact QJ _ _
theorem aog (h:BI E ws n b w) (hm:MA (OB E) w m a ac) (hl:n+m.aL.size<=4611686018427387904) :
 Calls prog 14 #[.pointer (some ⟨E.bb,0,none⟩),nC m.aH m.ah a m.aA.length ac m.self m.aL] w λr w'=>r= .returned (.int .i64 (b.wF m).dJ)/\BI E ws (n+m.aL.size) (b.wF m) w':=by
 have h1:=h.uw;refine(alF h.Zo (cs:=aam.tail) (by rw[h.pg];rfl) hm (ay _) (by omega) h.md).mono λ_ _ ⟨hr,hb⟩=>⟨hr,hb,h.pg,alH h.md m,h.wk.done m,?_⟩
 have:=alG b m;omega
theorem WT (h:BI E ws n b w):Calls prog 15 #[.pointer (some ⟨E.bb,0,none⟩)] w λr w'=>r= .returned (.tuple #[.int .i64 b.raw,.string b.ah,.bool (b.qm !=0)])/\BI E ws n b w'/\Below w.heap.size w w' :=
 (adv h.Zo).mono λ_ _ ⟨hr,hb⟩=>⟨hr,h.world hb,hb⟩
theorem acX (h:IN 1 b) (he:b.qj.dJ=0):aG b.qj.S.T 0≠ []:=by
 obtain⟨z,hf⟩:=h.gZ.1 he;rw[hf.tr.k0];exact yN _ _
theorem alE (h:BI E ws n b w) (hl:n<=4611686018427387904) :
 Calls prog 13 #[.pointer (some ⟨E.bb,0,none⟩)] w λr w'=> ∃cs,r= .returned (.tuple #[.agg cs.toArray,.int .i64 b.AQ])/\gq (· <w.heap.size) w' cs b.GN/\Below E.w0.heap.size E.w0 w'/\az (OB E) w w':=by
 have hu:=h.uw;refine(ajp (h.Zo.more (ay _) (vQ 0)) h.pg (by omega) h.md λhe=>acX h.wk he).mono λ_ w' ⟨cs,hr,hn,hk⟩=>⟨cs,hr,hn,?_,hk⟩
 refine h.below.trans (hk.below (λk hk' hx=> ?_) h.below.size);have hb0:=h.Zo.bm.b0;rcases hx with hx|hx
 ·have:=hx.1;omega
 ·have:k=E.bb:=hx;omega
theorem ala (w0 w:af) (hb:Below w0.heap.size w0 w):Calls prog 11 #[] w λr w'=> ∃E:BE,E.w0=w0/\r= .returned (.pointer (some ⟨E.bb,0,none⟩))/\BI E w' 0 Aw w'/\Below w.heap.size w w'/\(∀k,w0.heap.size<=k->k<w.heap.size->E.ex k)/\w.heap.size<=E.bb/\E.bb<w'.heap.size :=
 (ai6 w0 w hb).mono λ_ _ ⟨E,h1,h2,h3,h4,h5,h6,h7⟩=>⟨E,h1,h3,⟨h4.more (by omega) (vQ 0),h2,ah0,aaw,ay _⟩,h5,λk hk hk'=>(h6 k).2 (.inl ⟨hk,hk'⟩),h7,h4.bm.lt⟩
theorem BI.dE (h:BI E ws n b w) {F:Nat->Prop} (hk:az F w w') (hF: ∀k,F k->E.ex k/\E.w0.heap.size<=k/\k≠E.bb):BI {E with ex:=λk=>E.ex k\/(w.heap.size<=k/\k<w'.heap.size)} w' n b w':=by
 obtain⟨⟨⟨h1,h2,h3,h4⟩,h5,h6⟩,h7,h8,h9,hA⟩:=h;refine⟨⟨⟨?_,h2.kept (hk.block _ h2.lt λhx=>(hF _ hx).2.2 rfl),.inl h3,h4⟩,az.refl _ _,h6⟩,h7,h8,h9,hA⟩;refine h1.dE hk (λk hx=>⟨(hF k hx).1,(hF k hx).2.1⟩) λk hx=> ?_
 rcases hx with hx|hx
 ·exact⟨.inl hx,fA (h1.Bu k hx) hk.size⟩
 ·exact⟨.inr hx.1,hx.2⟩
theorem BI.other (h:BI E ws n b w) (hk:az (OB E) w w') {k:Nat} (hx:E.ex k) (hb:k≠E.bb):w'.heap[k]?=w.heap[k]? :=
 hk.block k (h.Zo.bm.li.Bu k hx) λhy=>hy.elim (λhz=>hz.2 hx) λhz=>hb hz
end
end
section
section
variable {P:ae->Prop} {b c:aC} {m:aO}
theorem Gi (b:aC) (e:Int):(b.keep e).ah=b.ah:=(b.tL e).2.2.2.2.2.2.2.1
theorem Vg (b:aC) (sp:Int) (nm:ae) (l:List dD):(b.jv sp nm l).1.ah=b.ah:=Gi _ _
theorem ku (b:aC) (nm:ae) (l:List dD):(b.ins nm l).ah=b.ah:=Gi _ _
theorem EP (b:aC) (t:ae):(b.iq t).ah=b.ah:=Gi _ _
theorem kW (b:aC):b.dx.ah=b.ah:=Gi _ _
theorem Gl (b:aC) (nm:ae):(b.ow nm).ah=b.ah:=Gi _ _
theorem jk {p:Prop} [Decidable p] {r q:aC} {n:ae} (h1:r.ah=n) (h2:q.ah=n):(if p then r else q).ah=n:=by
 by_cases h:p
 ·rw[au h];exact h1
 ·rw[aj h];exact h2
theorem NP.ite {p:Prop} [Decidable p] {r q:aC} (h1:P r.ah) (h2:P q.ah):P (if p then r else q).ah:=by
 by_cases h:p
 ·rw[au h];exact h1
 ·rw[aj h];exact h2
theorem NP.bF {α:Type} {p:Prop} [Decidable p] {r q:aC×α} (h1:P r.1.ah) (h2:P q.1.ah):P (if p then r else q).1.ah:=by
 by_cases h:p
 ·rw[au h];exact h1
 ·rw[aj h];exact h2
theorem NP.of (h:P b.ah) (he:c.ah=b.ah):P c.ah:=by rw[he];exact h
theorem Gf (h:P b.ah) (hm:P m.ah):P (b.gV m).1.ah:=by
 unfold aC.gV;exact NP.bF (NP.of h (ku b _ _)) (NP.bF hm (NP.bF hm h))
theorem Gh (b:aC):b.gB.ah=b.ah:=jk rfl rfl
theorem MN (names:List ae) (b:aC): ∀l,(aC.tO names b l).ah=b.ah
 | []=>rfl
 |x::r=>by
  rw[aC.tO];exact jk rfl (jk rfl (MN names b r))
theorem IX (want:ae) (b:aC): ∀l,(aC.oL want b l).ah=b.ah
 | []=>rfl
 |x::r=>by
  rw[aC.oL];exact jk rfl (jk rfl (IX want b r))
theorem PH (b:aC): ∀l,(aC.jQ b l).ah=b.ah
 | []=>rfl
 |x::r=>by
  rw[aC.jQ];exact jk rfl (PH b r)
theorem MP (b:aC) (m:aO):(b.forms m).ah=b.ah:=by
 unfold aC.forms;exact jk ((ku _ _ _).trans (kW b)) ((ku _ _ _).trans (kW b))
theorem Vb (hm:P m.ah):P (b.ng m).ah:=by
 unfold aC.ng;exact NP.ite hm (NP.ite hm hm)
theorem Yx (b:aC) (m:aO):(b.phrases m).ah=b.ah:=by
 have h1: ∀c:aC,c.ah=b.ah->(if dh [⟨#[97,112,112,108,101,116]⟩,⟨#[109,97,114,113,117,101,101]⟩,⟨#[111,98,106,101,99,116]⟩] m.ah then(c.dx.ins m.ah m.aA).vz else c.dx.ins m.ah m.aA).ah=b.ah:=λc hc=>by
  have h2:(c.dx.ins m.ah m.aA).ah=b.ah:=(ku _ _ _).trans ((kW c).trans hc);exact jk h2 h2
 unfold aC.phrases;refine h1 _ (jk (jk rfl rfl) (jk (jk rfl rfl) rfl))
theorem Vh (b:aC) (m:aO) (sp:Int):(b.uk m sp).ah=b.ah:=by
 unfold aC.uk;exact jk (Vg b sp _ _) (Vg b sp _ _)
theorem acm (b:aC) (m:aO):(b.blocks m).ah=b.ah:=by
 have h2:(aC.gB (if m.ah.toList==([108,105]:List ax)then b.item [⟨#[108,105]⟩]else if(m.ah.toList==([100,100]:List ax))||(m.ah.toList==([100,116]:List ax))then b.item [⟨#[100,100]⟩,⟨#[100,116]⟩]else b)).ah=b.ah :=
  (Gh _).trans (jk (MN _ _ _) (jk (MN _ _ _) rfl))
 unfold aC.blocks;simp only;generalize aC.gB (if m.ah.toList==([108,105]:List ax)then b.item [⟨#[108,105]⟩]else if(m.ah.toList==([100,100]:List ax))||(m.ah.toList==([100,116]:List ax))then b.item [⟨#[100,100]⟩,⟨#[100,116]⟩]else b)=b2 at h2 |-;have h4:(if kY m.ah&&b2.at' kN then b2.pop else b2).ah=b.ah:=jk h2 h2;generalize (if kY m.ah&&b2.at' kN then b2.pop else b2)=b3 at h4 |-;have h5:(b3.ins m.ah m.aA).ah=b.ah:=(ku _ _ _).trans h4;exact jk ((ku b2 _ _).trans h2) (jk h5 (jk h5 h5))
theorem aeS (h:P b.ah) (hm:P m.ah):P (b.opens m).1.ah:=by
 rw[aC.opens.eq_1];refine NP.bF h (NP.bF (Gf h hm) (NP.bF (NP.of h (acm b m)) (NP.bF ?_ (NP.bF (NP.of h (MP b m)) (NP.bF ?_ (NP.bF (NP.of h (ku b _ _)) (NP.bF (NP.of h ((ku b.dx _ _).trans (kW b))) (NP.bF (Vb hm) (NP.bF (NP.of h ((Vh _ _ _).trans (kW b))) (NP.of h (Yx b m)))))))))))
 ·exact NP.of h ((MP _ _).trans (jk rfl (Gl b _)))
 ·exact NP.of h ((MP _ _).trans (jk ((Gl _ _).trans (kW b)) (kW b)))
theorem Gj (b:aC) (sc:Int) (but:ae) (names:List ae):(b.gZ sc but names).ah=b.ah:=jk rfl rfl
theorem aci (h:P b.ah):P (b.closes m).1.ah:=by
 rw[aC.closes.eq_1];refine NP.bF (NP.bF h h) (NP.bF (NP.of h ((Gh _).trans (jk rfl (ku b _ _)))) (NP.bF (NP.of h (Gj b _ _ _)) (NP.bF (NP.of h (Gj b _ _ _)) (NP.bF (NP.of h (Gj b _ _ _)) (NP.bF (NP.of h (Gj b _ _ _)) (NP.bF ?_ (NP.bF (NP.of h (jk (Gj b _ _ _) rfl)) (NP.bF (NP.of h ((ku b.dx _ _).trans (kW b))) (NP.of h (IX _ b _))))))))));exact NP.of h (jk ((IX _ _ _).trans (Gl b _)) (Gl b _))
theorem De (h:P b.ah) (hm:P m.ah):P (b.eO m).1.ah:=by
 rw[aC.eO.eq_1];exact NP.bF (NP.of h ((EP _ _).trans (kW b))) (NP.bF (aeS h hm) (NP.bF (aci h) h))
theorem aeY (b:aC) (m:aO):(b.eQ m).ah=b.ah:=jk (jk rfl (EP b _)) rfl
theorem Vf (hm:P m.ah):P (aC.bR m).ah:=by
 unfold aC.bR;split <;>exact hm
theorem acj (h:P b.ah) (hm:P m.ah):P (b.uf m).1.ah:=De (b:= {b with on:=true}) h hm
theorem EM (h:P b.ah) (hm:P m.ah):P (b.iE m).1.ah:=by
 rw[aC.iE.eq_1];exact NP.bF h (NP.bF (NP.of h (ku _ _ _)) (NP.bF (NP.of h (ku _ _ _)) (NP.bF (NP.of h (ku _ _ _)) (NP.bF (NP.of h (ku _ _ _)) (NP.bF (NP.of h (ku _ _ _)) (NP.bF (NP.bF h h) (NP.bF h (NP.bF (Gf h hm) (NP.bF h (acj h hm))))))))))
theorem MH (h:P b.ah) (hm:P m.ah):P (b.fE m).1.ah:=by
 rw[aC.fE.eq_1];have hb:P (b.eQ m).ah:=NP.of h (aeY b m);have hmb:=Vf hm;refine NP.bF ?_ (NP.bF ?_ (NP.bF ?_ (NP.bF ?_ (NP.bF (De h hm) (NP.bF ?_ (NP.bF (EM h hm) (NP.bF ?_ (NP.bF ?_ (NP.bF ?_ (NP.bF ?_ (NP.bF ?_ ?_)))))))))))
 ·rw[aC.oh.eq_1];exact NP.bF h (NP.bF h (NP.bF (NP.of h (ku (b.goto 1) _ _)) (NP.of h (ku (b.goto 1) _ _))))
 ·rw[aC.om.eq_1];exact NP.bF h (NP.bF h (NP.bF (NP.of h (ku (b.goto 2) _ _)) (NP.of h (ku (b.goto 2) _ _))))
 ·rw[aC.rU.eq_1];exact NP.bF hb (NP.bF (Gf hb hmb) (NP.bF hb (NP.bF hb (NP.bF hb hb))))
 ·rw[aC.kE.eq_1];exact NP.bF hb (NP.bF hb (NP.bF (NP.of hb (ku (b.eQ m) _ _)) (NP.bF (Gf (b:=(b.eQ m).push (b.eQ m).head) hb hmb) (NP.bF hb (NP.of hb (ku (b.eQ m) _ _))))))
 ·rw[aC.qf.eq_1];exact NP.bF (NP.of h (EP b _)) h
 ·rw[aC.iW.eq_1];exact NP.bF (NP.bF h h) (NP.bF h (De h hm))
 ·rw[aC.iV.eq_1];exact NP.bF hb (NP.bF hb (NP.bF (NP.of hb (ku (b.eQ m) _ _)) (NP.bF hb hb)))
 ·rw[aC.oM.eq_1];exact NP.bF (NP.bF (NP.of h (ku ((b.clear' _).goto 10) _ _)) (NP.of h (ku ((b.clear' _).goto 10) _ _))) (NP.bF (NP.bF h h) (NP.bF (NP.bF h h) (NP.bF h (EM h hm))))
 ·rw[aC.uj.eq_1];exact NP.bF (NP.of h (ku (b.clear' _) _ _)) (NP.bF h (NP.bF (NP.bF h h) (NP.bF h (EM h hm))))
 ·rw[aC.oN.eq_1];exact NP.bF (NP.bF h h) (NP.bF (NP.bF h h) (NP.bF h (NP.bF (NP.bF h h) (De h hm))))
 ·have h1:P (if(m.aH==1)&& !(gz m.aL).toList.isEmpty then(b.eO ⟨1,⟨#[]⟩,[],false,gz m.aL⟩).1 else b).ah:=NP.ite (NP.of h ((EP _ _).trans (kW b))) h;rw[aC.lU.eq_1];exact NP.bF h1 (NP.bF h1 h1)
theorem Px (h:P b.ah) (hm:P m.ah): ∀l,P (aC.gX m b l).1.ah
 | []=>h
 | [_]=>h
 |x::y::r=>by
  rw[aC.gX];exact NP.bF (MH h hm) (NP.bF h (Px h hm (y::r)))
theorem aar (h:P b.ah) (hm:P m.ah):P (b.once m).1.ah:=by
 rw[aC.once.eq_1];refine NP.bF ?_ (MH h hm);rw[aC.dE.eq_1];exact NP.bF (NP.of h (EP b _)) (NP.bF (MH (NP.of h (PH b _)) hm) (NP.bF (NP.of h (Vh b m _)) (NP.bF (Px h hm _) h)))
theorem uU {p:Prop} [Decidable p] {r q:aC×aO} (h1:P r.2.ah) (h2:P q.2.ah):P (if p then r else q).2.ah:=by
 by_cases h:p
 ·rw[au h];exact h1
 ·rw[aj h];exact h2
theorem bI {p:Prop} [Decidable p] {r q:aC×aO×Bool} (h1:P r.2.1.ah) (h2:P q.2.1.ah):P (if p then r else q).2.1.ah:=by
 by_cases h:p
 ·rw[au h];exact h1
 ·rw[aj h];exact h2
theorem aeN (b:aC) (hi:P (⟨#[105,109,103]⟩:ae)) (hm:P m.ah):P (b.opens m).2.ah:=by
 rw[aC.opens.eq_1];refine uU hm (uU hm (uU hm (uU hm (uU hm (uU hm (uU hm (uU ?_ (uU hm (uU hm hm)))))))));show P (if m.ah.toList==([105,109,97,103,101]:List ax)then({m with ah:=(⟨#[105,109,103]⟩:ae)}:aO)else m).ah;split
 ·exact hi
 ·exact hm
theorem Dt (b:aC) (hi:P (⟨#[105,109,103]⟩:ae)) (hm:P m.ah):P (b.eO m).2.1.ah:=by
 unfold aC.eO;exact bI hm (bI (aeN b hi hm) (bI hm hm))
theorem Fa (b:aC) (hi:P (⟨#[105,109,103]⟩:ae)) (hm:P m.ah):P (b.iE m).2.1.ah:=by
 unfold aC.iE;exact bI hm (bI hm (bI hm (bI hm (bI hm (bI hm (bI (bI hm hm) (bI hm (bI hm (bI hm (Dt _ hi hm))))))))))
theorem Ma (b:aC) (hi:P (⟨#[105,109,103]⟩:ae)) (hm:P m.ah):P (b.fE m).2.1.ah:=by
 have hb:=Vf hm;unfold aC.fE;refine bI ?_ (bI ?_ (bI ?_ (bI ?_ (bI (Dt b hi hm) (bI ?_ (bI (Fa b hi hm) (bI ?_ (bI ?_ (bI ?_ (bI ?_ (bI ?_ ?_)))))))))))
 ·unfold aC.oh;simp only;exact bI hb (bI hb (bI hb hb))
 ·unfold aC.om;simp only;exact bI hb (bI hb (bI hb hb))
 ·unfold aC.rU;simp only;exact bI hb (bI hb (bI hb (bI hb (bI hb hb))))
 ·unfold aC.kE;simp only;exact bI hb (bI hb (bI hb (bI hb (bI hb hb))))
 ·unfold aC.qf;exact bI hm hm
 ·unfold aC.iW;exact bI (bI hm hm) (bI hm (Dt b hi hm))
 ·unfold aC.iV;simp only;exact bI hb (bI hb (bI hb (bI hb hb)))
 ·unfold aC.oM;simp only;exact bI (bI hm hm) (bI (bI hm hm) (bI (bI hm hm) (bI hm (Fa b hi hm))))
 ·unfold aC.uj;exact bI hm (bI hm (bI (bI hm hm) (bI hm (Fa b hi hm))))
 ·unfold aC.oN;exact bI (bI hm hm) (bI (bI hm hm) (bI hm (bI (bI hm hm) (Dt b hi hm))))
 ·unfold aC.lU;simp only;exact bI hb (bI hb hb)
theorem PY (b:aC) (hi:P (⟨#[105,109,103]⟩:ae)) (hm:P m.ah): ∀l,P (aC.gX m b l).2.1.ah
 | []=>hm
 | [_]=>hm
 |x::y::r=>by
  rw[aC.gX];exact bI (Ma b hi hm) (bI hm (PY b hi hm (y::r)))
theorem ahV (b:aC) (hi:P (⟨#[105,109,103]⟩:ae)) (hm:P m.ah):P (b.once m).2.1.ah:=by
 rw[aC.once.eq_1];refine bI ?_ (Ma b hi hm);rw[aC.dE.eq_1];exact bI hm (bI (Ma _ hi hm) (bI hm (bI (PY b hi hm _) hm)))
theorem MI (hi:P (⟨#[105,109,103]⟩:ae)): ∀(k:Nat) (b:aC) (m:aO),P b.ah->P m.ah->P (aC.again k b m).ah
 |0,_,_,h,_=>h
 |k+1,b,m,h,hm=>by
  rw[aC.again];exact NP.ite (NP.ite (MI hi k _ _ (aar h hm) (ahV b hi hm)) (aar h hm)) h
theorem aeX (b:aC):b.flush.ah=b.ah:=by
 unfold aC.flush;exact jk rfl (jk (EP _ _) ((EP _ _).trans (kW _)))
theorem akn (hi:P (⟨#[105,109,103]⟩:ae)) (h0:P ⟨#[]⟩) (h:P b.ah) (hm:P m.ah):P (b.GU m).ah:=by
 have h1:P b.ready.ah:=h0;have h2:P b.ready.flush.ah:=by rw[aeX];exact h0
 have h3:P (b.oV m).ah:=by
  unfold aC.oV;split <;>exact hm
 unfold aC.GU;exact NP.ite h (NP.ite (NP.ite h1 (MI hi _ _ _ h1 h3)) (NP.ite h2 (MI hi _ _ _ h2 hm)))
end
end
end Go.Proofs.YtnlbcifhedjbfaaGreatDoor
