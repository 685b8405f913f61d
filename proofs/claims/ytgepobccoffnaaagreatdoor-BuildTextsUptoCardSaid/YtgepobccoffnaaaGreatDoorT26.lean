/- Texts joined for a claim: CuW, BuUw: plain laws and contracts. No conditions beyond those that each lemma types. -/
import Derived.Test.YtgepobccoffnaaaGreatDoorT25
import Derived.Test.YtgepobccoffnaaaGreatDoorT19
set_option linter.unusedVariables false
set_option linter.unusedSimpArgs false
set_option maxRecDepth 100000
set_option maxHeartbeats 8000000
namespace Go.Proofs.YtgepobccoffnaaaGreatDoor
open Go.RowKit Mem
section
section
variable {E:BE} {ws w w':World} {c:Nat} {s:Int} {b b':BuD} {m m':BMark}
theorem breakR_last (b:BuD) (L:List Int) (x:Int):BuD.breakR b (L++ [x]).reverse=if(spaceQ b.S.T x==0)||(pointF (spaceQ b.S.T x) (nameQ b.S.T x) (attrsQ b.S.T x) !=0)then b.stk (L++ [x])else BuD.breakR b L.reverse:=by
 rw[List.reverse_append,List.reverse_singleton,List.singleton_append,BuD.breakR]
 have h:(x::L.reverse).reverse=L++ [x]:=by simp
 rw[h]
theorem space_zero (T:TreeD):spaceQ T 0=0:=by
 unfold spaceQ
 rw[if_neg]
 intro h
 obtain⟨k,hk,h0,h1, -⟩:=elemF_nat h
 omega
theorem attrs_fit (h:Ok c s b) (x:Int):(valueOf (attrsQ b.S.T x) (⟨#[101,110,99,111,100,105,110,103]⟩:ByteArray)).size≤maxLen :=
 valueOf_size _ _ (attrsQ_at h.at' x).2
theorem foreign_sm (h:SM E ws c s b m w) (hc:c≤100000) (hu:b.used+m.text.size≤9223372036854775807) (hw:b.wait.size+m.text.size≤9223372036854775807) (sp:Int):Calls Tryz.prog 46 #[.pointer (some ⟨E.bb,0,none⟩),.pointer (some ⟨E.mb,0,none⟩),.int .i64 sp] w fun r w'=>r= .returned (.bool (b.foreign m sp).2.2)∧SM E ws (c+1) s (b.foreign m sp).1 (b.foreign m sp).2.1 w':=by
 have H:=Lib.hid h
 obtain⟨c0,c1,c2,c3,c4⟩:=H.out.sx.mc
 have HBr:=Lib.hid (breaks_any m.name m.attrs E.a E.ac m.self m.text w m.kind (by have:=h.sx.mo.alen;unfold maxLen;omega) h.sx.at)
 have HV:=Lib.hid (BuD.foreign.eq_1 b m sp)
 clear h
 obtain⟨k,hk⟩: ∃k,k=m.kind:=⟨_,rfl⟩
 rw[←hk]at c0 HV HBr
 have HK:=Lib.hid hk
 clear hk
 by_cases k1:k=1
 ·subst k1
  go_enter Tryz.func46,Tryz.ntmps46
  go_wp2_with (go_at_call 60;go_must (refine(text_sm H.out m.text hu).mono ?_;rintro e w1 ⟨rfl,h1⟩;have H1:=Lib.hid h1;clear h1))
  go_ret
  rw[HV.out]
  exact⟨rfl,H1.out.more (by omega) (by omega)⟩
 ·have k1':(k==1)=false:=beq_eq_false_iff_ne.2 k1
  have hv:=HV.out
  simp only[k1',Bool.false_eq_true,if_false]at hv
  clear HV k1
  generalize hbr:breaksF k m.name m.attrs=t at HBr hv
  cases t
  ·by_cases k2:k=2
   ·subst k2
    go_enter Tryz.func46,Tryz.ntmps46
    go_wp2_with (first
     |(go_at_call 63;go_must (refine HBr.out.mono ?_;rintro e w1 ⟨rfl,hb⟩;have H1:=Lib.hid (H.out.world hb);obtain⟨g0, -⟩:=H1.out.sx.mc;rw[←HK.out]at g0;clear hb))
     |(go_at_call 65;go_must (refine(alien_sm H1.out sp).mono ?_;rintro e w2 ⟨rfl,h2⟩;have H2:=Lib.hid h2;clear h2)))
    first|go_ret|refine bodyPost_ret (results_tmp rfl _ _ _) rfl ?_
    rw[hv]
    exact⟨rfl,H2.out.more (by omega) (by omega)⟩
   ·by_cases k3:k=3
    ·subst k3
     go_enter Tryz.func46,Tryz.ntmps46
     go_wp2_with (first
      |(go_at_call 63;go_must (refine HBr.out.mono ?_;rintro e w1 ⟨rfl,hb⟩;have H1:=Lib.hid (H.out.world hb);obtain⟨g0, -⟩:=H1.out.sx.mc;rw[←HK.out]at g0;clear hb))
      |(go_at_call 66;go_must (refine(leaves_sm H1.out hc hu hw).mono ?_;rintro e w2 ⟨rfl,h2⟩;have H2:=Lib.hid h2;clear h2)))
     first|go_ret|refine bodyPost_ret (results_tmp rfl _ _ _) rfl ?_
     rw[hv]
     exact⟨rfl,H2.out⟩
    ·have k2':(k==2)=false:=beq_eq_false_iff_ne.2 k2
     have k3':(k==3)=false:=beq_eq_false_iff_ne.2 k3
     clear k2 k3
     go_enter Tryz.func46,Tryz.ntmps46
     go_wp2_with (first
      |(go_at_call 63;go_must (refine HBr.out.mono ?_;rintro e w1 ⟨rfl,hb⟩;have H1:=Lib.hid (H.out.world hb);obtain⟨g0, -⟩:=H1.out.sx.mc;rw[←HK.out]at g0;clear hb)))
     first|go_ret|refine bodyPost_ret (results_tmp rfl _ _ _) rfl ?_
     simp only[k2',k3',Bool.false_eq_true,if_false]at hv
     rw[hv]
     exact⟨rfl,H1.out.more (by omega) (by omega)⟩
  ·have HQ:Hid (b.foreign m sp=(b.breakR b.S.l.reverse).rules m):=Lib.hid (by rw[hv];rfl)
   clear hv
   go_enter Tryz.func46,Tryz.ntmps46
   go_wp2_with (first
    |(go_at_call 63;go_must (refine HBr.out.mono ?_;rintro e w1 ⟨rfl,hb⟩;have H1:=Lib.hid (H.out.world hb);obtain⟨g0, -⟩:=H1.out.sx.mc;rw[←HK.out]at g0;clear hb)))
   go_loopg [] b.S.l.length (fun n wr=>Hid (∃L:List Int,L.length=n∧SM E ws c s (b.stk L) m wr∧b.breakR b.S.l.reverse=b.breakR L.reverse))
   case atStart=>exact Lib.hid ⟨b.S.l,rfl,H1.out,rfl⟩
   case round =>
    obtain⟨L,hL1,hL2,hL3⟩:=hrel.out
    have HL1:=Lib.hid hL1
    have HL2:=Lib.hid hL2
    have HL3:=Lib.hid hL3
    clear hL1 hL2 hL3
    rename World=>wz
    have HT:=Lib.hid (top_sx HL2.out.sx)
    have HFit:=Lib.hid (attrs_fit HL2.out.ok (BuD.top (b.stk L)))
    have HTs:Hid (BuD.tops (b.stk L)=spaceQ b.S.T (BuD.top (b.stk L))∧BuD.topn (b.stk L)=nameQ b.S.T (BuD.top (b.stk L))∧attrsQ (b.stk L).S.T (BuD.top (b.stk L))=attrsQ b.S.T (BuD.top (b.stk L))):=Lib.hid ⟨rfl,rfl,rfl⟩
    have HLx:Hid (L= []∧BuD.top (b.stk L)=0∨ ∃L0,L=L0++ [BuD.top (b.stk L)]):=Lib.hid (by
     rcases List.eq_nil_or_concat L with hh|⟨L0,x,hh⟩
     ·subst hh;exact .inl ⟨rfl,rfl⟩
     ·rw[List.concat_eq_append]at hh
      subst hh
      refine .inr ⟨L0,?_⟩
      show _=L0++ [((L0++ [x]).getLast?.getD 0)]
      simp)
    rw[HTs.out.1,HTs.out.2.1,HTs.out.2.2]at HT
    rw[HTs.out.2.2]at HFit
    generalize BuD.top (b.stk L)=x at HT HFit HTs HLx
    clear HTs
    obtain⟨ts,hts⟩: ∃ts,ts=spaceQ b.S.T x:=⟨_,rfl⟩
    obtain⟨tn,htn⟩: ∃tn,tn=nameQ b.S.T x:=⟨_,rfl⟩
    obtain⟨ta,hta⟩: ∃ta,ta=attrsQ b.S.T x:=⟨_,rfl⟩
    rw[←hts,←htn,←hta]at HT
    rw[←hta]at HFit
    have HRd:Hid (∀u,SM E ws c s (b.stk L) m u→Calls Tryz.prog 47 #[.pointer (some ⟨E.bb,0,none⟩),.pointer (some ⟨E.mb,0,none⟩)] u fun r w'=>r= .returned (.bool ((b.stk L).rules m).2.2)∧SM E ws (c+1) s ((b.stk L).rules m).1 ((b.stk L).rules m).2.1 w'):=Lib.hid fun u hu'=>rules_sm hu' hc hu hw
    have HPo:Hid (∀u,SM E ws c s (b.stk L) m u→Calls Tryz.prog 62 #[.int .i64 ts] u fun r w'=>True)∨True:= .inr trivial
    clear HPo
    by_cases hz:ts=0
    ·have HB:Hid (b.foreign m sp=(b.stk L).rules m):=Lib.hid (by
      rw[HQ.out,HL3.out]
      rcases HLx.out with⟨rfl, -⟩|⟨L0,hL⟩
      ·rfl
      ·rw[hL,breakR_last,←hts,hz]
       rfl)
     subst hz
     clear HQ HLx HL1 HL3 HFit hts htn hta
     go_wp2_with (first
      |(go_at_call 36;go_must (refine HT.out.mono ?_;rintro e w2 ⟨v,rfl, -,hb, -⟩;have H2:=Lib.hid (HL2.out.world hb);clear hb))
      |(go_at_call 47;go_must (refine(HRd.out _ H2.out).mono ?_;rintro e w3 ⟨rfl,h3⟩;have H3:=Lib.hid h3;clear h3)))
     first|go_ret|refine bodyPost_ret (results_tmp rfl _ _ _) rfl ?_
     rw[HB.out]
     exact⟨rfl,H3.out⟩
    ·have hzf:(ts==0)=false:=beq_eq_false_iff_ne.2 hz
     have HLy:Hid (∃L0,L=L0++ [x]):=Lib.hid (by
      rcases HLx.out with⟨rfl,hx0⟩|h
      ·exact absurd (by rw[hts,hx0];exact space_zero _) hz
      ·exact h)
     clear HLx
     obtain⟨pt,hpt⟩: ∃pt,pt=pointF ts tn ta:=⟨_,rfl⟩
     have HPt:=Lib.hid fun(a:Option Addr) (ca:Nat) (u:World) (hl:ta.length≤maxLen) (ha:At u a (pairsV ta))=>point_any ts tn ta a ca u hl HFit.out ha
     rw[←hpt]at HPt
     have HTx:=Lib.hid (⟨hts,htn,hta,hpt⟩:ts=spaceQ b.S.T x∧tn=nameQ b.S.T x∧ta=attrsQ b.S.T x∧pt=pointF ts tn ta)
     clear hts htn hta hpt HFit
     by_cases hp:pt=0
     ·subst hp
      have HB:Hid (∃L0,L=L0++ [x]∧b.breakR b.S.l.reverse=b.breakR L0.reverse):=Lib.hid (by
       obtain⟨L0,hL⟩:=HLy.out
       refine⟨L0,hL,?_⟩
       obtain⟨e1,e2,e3,e4⟩:=HTx.out
       rw[HL3.out,hL,breakR_last,←e1,←e2,←e3,hzf,←e4]
       rfl)
      obtain⟨L0,hL,hb0⟩:=HB.out
      subst hL
      have HB0:=Lib.hid hb0
      have hpop:BuD.pop (b.stk (L0++ [x]))=b.stk L0:=by unfold BuD.pop;show b.stk ((L0++ [x]).dropLast)=_;simp
      have HPo:Hid (∀u,SM E ws c s (b.stk (L0++ [x])) m u→Calls Tryz.prog 64 #[.pointer (some ⟨E.sb,0,none⟩)] u fun r w'=>r= .returned (.int .i64 (BuD.top (b.stk (L0++ [x]))))∧SM E ws c s (b.stk L0) m w'):=Lib.hid fun u hu'=>hpop▸pop_sm hu'
      clear HB HTx HLy hb0 hpop HL3 HRd hz
      go_wp2_with (first
       |(go_at_call 36;go_must (refine HT.out.mono ?_;rintro e w2 ⟨v,rfl,ho,hb, -⟩;have h2:=HL2.out.world hb;obtain⟨a2,ca2,rfl,hn2,hm2, -,hat2⟩:=own_at ho;have H2:=Lib.hid h2;have HAt:=Lib.hid hat2;clear h2 ho hb hat2))
       |(go_at_call 62;go_must (refine(HPt.out _ _ _ (by omega) HAt.out).mono ?_;rintro e w3 ⟨rfl,hb3⟩;have H3:=Lib.hid (H2.out.world hb3);have d1:=H3.out.sx.bc.2.1;clear hb3))
       |(go_at_call 64;go_must (refine(HPo.out _ H3.out).mono ?_;rintro e w4 ⟨rfl,h4⟩;have H4:=Lib.hid h4;clear h4)))
      go_roundg L0.length
      case measure=>have:=HL1.out;rw[List.length_append,List.length_singleton]at this;omega
      case rel=>exact Lib.hid ⟨L0,rfl,H4.out,HB0.out⟩
     ·have hpf:(pt !=0)=true:=bne_iff_ne.2 hp
      have HB:Hid (b.foreign m sp=(b.stk L).rules m):=Lib.hid (by
       obtain⟨L0,hL⟩:=HLy.out
       obtain⟨e1,e2,e3,e4⟩:=HTx.out
       rw[HQ.out,HL3.out,hL,breakR_last,←e1,←e2,←e3,hzf,←e4,hpf]
       rfl)
      clear HTx HLy HQ HL1 HL3 hz
      go_wp2_with (first
       |(go_at_call 36;go_must (refine HT.out.mono ?_;rintro e w2 ⟨v,rfl,ho,hb, -⟩;obtain⟨a2,ca2,rfl,hn2,hm2, -,hat2⟩:=own_at ho;have h2:=HL2.out.world hb;have H2:=Lib.hid h2;have HAt:=Lib.hid hat2;clear h2 ho hb hat2))
       |(go_at_call 62;go_must (refine(HPt.out _ _ _ (by omega) HAt.out).mono ?_;rintro e w3 ⟨rfl,hb3⟩;have H3:=Lib.hid (H2.out.world hb3);clear hb3))
       |(go_at_call 47;go_must (refine(HRd.out _ H3.out).mono ?_;rintro e w4 ⟨rfl,h4⟩;have H4:=Lib.hid h4;clear h4)))
      first|go_ret|refine bodyPost_ret (results_tmp rfl _ _ _) rfl ?_
      rw[HB.out]
      exact⟨rfl,H4.out⟩
end
end
section
def uw (b:BuD):Nat:=b.used+b.wait.size
section
variable {b:BuD} {m:BMark}
theorem uw_keep (b:BuD) (e:Int):uw (b.keep e)=uw b:=by
 obtain⟨-, -, -, -,h1, -, -, -,h2⟩:=b.keep_all e
 unfold uw
 rw[h1,h2]
theorem uw_insSp (b:BuD) (sp:Int) (nm:ByteArray) (l:List Pair):uw (b.insSp sp nm l).1=uw b:=uw_keep _ _
theorem uw_ins (b:BuD) (nm:ByteArray) (l:List Pair):uw (b.ins nm l)=uw b:=uw_keep _ _
theorem uw_put (b:BuD) (t:ByteArray):uw (b.putText t)=uw b+t.size:=by
 refine(uw_keep _ _).trans ?_
 show b.used+t.size+b.wait.size=b.used+b.wait.size+t.size
 omega
theorem uw_restore (b:BuD):uw b.restore=uw b:=uw_keep _ _
theorem uw_adopt (b:BuD) (nm:ByteArray):uw (b.adopt nm)=uw b:=uw_keep _ _
theorem uw_raws (b:BuD) (m:BMark) (k:Int):uw (b.raws m k)=uw b:=uw_ins b m.name m.attrs
theorem uw_single (b:BuD) (nm:ByteArray) (l:List Pair):uw (b.single nm l)=uw b:=uw_ins b nm l
theorem uw_headed (b:BuD) (l:List Pair):uw (b.headed l)=uw b:=uw_ins b _ l
theorem uw_heads (b:BuD) (m:BMark):uw (b.heads m).1=uw b:=by
 unfold BuD.heads
 split
 ·exact uw_ins b m.name m.attrs
 ·split
  ·exact uw_raws b m 1
  ·split
   ·exact uw_raws b m 2
   ·rfl
theorem uw_paragraph (b:BuD):uw b.paragraph=uw b:=by unfold BuD.paragraph;split <;>rfl
theorem uw_itemR (names:List ByteArray) (b:BuD): ∀l,uw (BuD.itemR names b l)=uw b
 | []=>rfl
 |x::r=>by
  rw[BuD.itemR]
  split
  ·rfl
  ·split
   ·rfl
   ·exact uw_itemR names b r
theorem uw_otherR (want:ByteArray) (b:BuD): ∀l,uw (BuD.otherR want b l)=uw b
 | []=>rfl
 |x::r=>by
  rw[BuD.otherR]
  split
  ·rfl
  ·split
   ·rfl
   ·exact uw_otherR want b r
theorem uw_breakR (b:BuD): ∀l,uw (BuD.breakR b l)=uw b
 | []=>rfl
 |x::r=>by
  rw[BuD.breakR]
  split
  ·rfl
  ·exact uw_breakR b r
theorem uw_item (b:BuD) (names:List ByteArray):uw (b.item names)=uw b:=uw_itemR _ _ _
theorem uw_other (b:BuD) (want:ByteArray):uw (b.other want)=uw b:=uw_otherR _ _ _
theorem uw_forms (b:BuD) (m:BMark):uw (b.forms m)=uw b:=by
 unfold BuD.forms
 simp only
 split
 ·exact(uw_ins _ _ _).trans (uw_restore b)
 ·exact(uw_ins b.restore m.name m.attrs).trans (uw_restore b)
theorem uw_verbatim (b:BuD) (m:BMark):uw (b.verbatim m)=uw b:=by
 unfold BuD.verbatim
 split
 ·exact uw_raws b m 1
 ·split
  ·exact(uw_raws _ m 2).trans ((uw_restore _).trans (uw_paragraph b))
  ·exact uw_raws b m 2
theorem uw_phrases (b:BuD) (m:BMark):uw (b.phrases m)=uw b:=by
 have h1: ∀c:BuD,uw c=uw b→uw (if oneF [⟨#[97,112,112,108,101,116]⟩,⟨#[109,97,114,113,117,101,101]⟩,⟨#[111,98,106,101,99,116]⟩] m.name then(c.restore.ins m.name m.attrs).lmark else c.restore.ins m.name m.attrs)=uw b:=fun c hc=>by
  have h2:uw (c.restore.ins m.name m.attrs)=uw b:=(uw_ins _ _ _).trans ((uw_restore c).trans hc)
  split
  ·exact h2
  ·exact h2
 unfold BuD.phrases
 simp only
 refine h1 _ ?_
 split
 ·split <;>rfl
 ·split
  ·split <;>rfl
  ·rfl
theorem uw_alien (b:BuD) (m:BMark) (sp:Int):uw (b.alien m sp)=uw b:=by
 unfold BuD.alien
 simp only
 split
 ·exact uw_insSp b sp _ _
 ·exact uw_insSp b sp _ _
theorem uw_blocks (b:BuD) (m:BMark):uw (b.blocks m)=uw b:=by
 have h1: ∀c:BuD,uw c=uw b→uw (c.ins m.name m.attrs)=uw b:=fun c hc=>(uw_ins _ _ _).trans hc
 have h2:uw (BuD.paragraph (if m.name.toList==([108,105]:List UInt8)then b.item [⟨#[108,105]⟩]else if(m.name.toList==([100,100]:List UInt8))||(m.name.toList==([100,116]:List UInt8))then b.item [⟨#[100,100]⟩,⟨#[100,116]⟩]else b))=uw b:=by
  refine(uw_paragraph _).trans ?_
  split
  ·exact uw_item b _
  ·split
   ·exact uw_item b _
   ·rfl
 have h3: ∀c:BuD,uw c=uw b→uw (if(m.name.toList==([112,114,101]:List UInt8))||(m.name.toList==([108,105,115,116,105,110,103]:List UInt8))then c.setSkip true else if m.name.toList==([116,97,98,108,101]:List UInt8)then c.goto 6 else c)=uw b:=fun c hc=>by
  split
  ·exact hc
  ·split <;>exact hc
 unfold BuD.blocks
 simp only
 generalize BuD.paragraph (if m.name.toList==([108,105]:List UInt8)then b.item [⟨#[108,105]⟩]else if(m.name.toList==([100,100]:List UInt8))||(m.name.toList==([100,116]:List UInt8))then b.item [⟨#[100,100]⟩,⟨#[100,116]⟩]else b)=b2 at h2 ⊢
 have h4:uw (if headingB m.name&&b2.at' headN then b2.pop else b2)=uw b:=by split <;>exact h2
 generalize (if headingB m.name&&b2.at' headN then b2.pop else b2)=b3 at h4 ⊢
 split
 ·exact(uw_single _ _ _).trans h2
 ·exact h3 _ (h1 _ h4)
theorem uw_ite {p:Prop} [Decidable p] {r q:BuD×BMark} {n:Nat} (h1:uw r.1=n) (h2:uw q.1=n):uw (if p then r else q).1=n:=by
 by_cases h:p
 ·rw[if_pos h];exact h1
 ·rw[if_neg h];exact h2
theorem uw_iteb {p:Prop} [Decidable p] {r q:BuD} {n:Nat} (h1:uw r=n) (h2:uw q=n):uw (if p then r else q)=n:=by
 by_cases h:p
 ·rw[if_pos h];exact h1
 ·rw[if_neg h];exact h2
theorem uw_opens (b:BuD) (m:BMark):uw (b.opens m).1=uw b:=by
 rw[BuD.opens.eq_1]
 refine uw_ite rfl (uw_ite (uw_heads b m) (uw_ite (uw_blocks b m) (uw_ite ?_ (uw_ite (uw_forms b m) (uw_ite ?_ (uw_ite (uw_single b _ _) (uw_ite ((uw_single _ _ _).trans (uw_restore b)) (uw_ite (uw_verbatim b m) (uw_ite ((uw_alien _ _ _).trans (uw_restore b)) (uw_phrases b m))))))))))
 ·exact(uw_forms _ _).trans (uw_iteb rfl (uw_adopt b _))
 ·exact(uw_forms _ _).trans (uw_iteb ((uw_adopt _ _).trans (uw_restore b)) (uw_restore b))
theorem uw_ends (b:BuD) (sc:Int) (but:ByteArray) (names:List ByteArray):uw (b.ends sc but names)=uw b:=by unfold BuD.ends;split <;>rfl
theorem uw_closes (b:BuD) (m:BMark):uw (b.closes m).1=uw b:=by
 unfold BuD.closes
 split
 ·split <;>rfl
 ·split
  ·refine(uw_paragraph _).trans ?_
   split
   ·rfl
   ·exact uw_ins b _ _
  ·split
   ·exact uw_ends b _ _ _
   ·split
    ·exact uw_ends b _ _ _
    ·split
     ·exact uw_ends b _ _ _
     ·split
      ·exact uw_ends b _ _ _
      ·split
       ·show uw (if _ then _ else _)=uw b
        split
        ·exact(uw_other _ _).trans (uw_adopt b _)
        ·exact uw_adopt b _
       ·split
        ·show uw (if _ then _ else _)=uw b
         split
         ·exact uw_ends b _ _ _
         ·rfl
        ·split
         ·exact(uw_single _ _ _).trans (uw_restore b)
         ·exact uw_other b _
def UL (b:BuD) (m:BMark) (r:BuD×BMark×Bool):Prop:=uw r.1≤uw b+m.text.size∧(r.2.2=true→uw r.1+r.2.1.text.size≤uw b+m.text.size)
theorem UL.same {r:BuD×BMark×Bool} (h1:uw r.1=uw b) (h2:r.2.1.text=m.text):UL b m r:=⟨by rw[h1];omega,fun _=>by rw[h1,h2];exact Nat.le_refl _⟩
theorem ul_inBody (b:BuD) (m:BMark):UL b m (b.inBody m):=by
 unfold BuD.inBody
 split
 ·refine⟨?_,fun h=>by cases h⟩
  show uw (b.restore.putText m.text)≤_
  rw[uw_put,uw_restore]
  exact Nat.le_refl _
 ·split
  ·refine⟨?_,fun h=>by cases h⟩
   show uw (b.opens m).1≤_
   rw[uw_opens]
   omega
  ·split
   ·exact UL.same (uw_closes b m) rfl
   ·exact UL.same rfl rfl
theorem mkB_len (l:List UInt8):(mkB l).size=l.length:=by simp[mkB,ByteArray.size]
theorem sp_size (s:ByteArray):(aheadF s).size+(restF s).size=s.size:=by
 unfold aheadF restF
 rw[mkB_len,mkB_len,←List.length_append,List.takeWhile_append_dropWhile,size_toList]
theorem size_empty {s:ByteArray} (h:s.toList.isEmpty=true):s.size=0:=by
 rw[←size_toList]
 rw[List.isEmpty_iff]at h
 rw[h]
 rfl
theorem uw_blank (b:BuD) (m:BMark):uw (b.blankB m)+(BuD.blankM m).text.size=uw b+m.text.size:=by
 have h:=sp_size m.text
 unfold BuD.blankB BuD.blankM
 split
 ·show uw (if _ then _ else _)+(restF m.text).size=_
  split
  ·rename_i h1
   have:=size_empty h1
   omega
  ·rw[uw_put]
   omega
 ·rfl
theorem blank_text (m:BMark):(BuD.blankM m).text.size≤m.text.size:=by
 have h:=sp_size m.text
 unfold BuD.blankM
 split
 ·show(restF m.text).size≤_
  omega
 ·exact Nat.le_refl _
theorem ul_ite {p:Prop} [Decidable p] {r q:BuD×BMark×Bool} (h1:UL b m r) (h2:UL b m q):UL b m (if p then r else q):=by
 by_cases h:p
 ·rw[if_pos h];exact h1
 ·rw[if_neg h];exact h2
theorem UL.blank {r:BuD×BMark×Bool} (h1:uw r.1=uw (b.blankB m)) (h2:r.2.1.text=(BuD.blankM m).text):UL b m r:=by
 have h:=uw_blank b m
 exact⟨by rw[h1];omega,fun _=>by rw[h1,h2];omega⟩
theorem UL.less {r:BuD×BMark×Bool} (h1:uw r.1=uw b) (h2:r.2.1.text.size≤m.text.size):UL b m r:=⟨by rw[h1];omega,fun _=>by rw[h1];omega⟩
theorem ul_inStart (b:BuD) (m:BMark):UL b m (b.inStart m):=by
 have ht:=blank_text m
 unfold BuD.inStart
 simp only
 refine ul_ite (.less rfl ht) (ul_ite (.less rfl ht) (ul_ite (.less (uw_ins _ _ _) ht) (.less (uw_ins _ _ _) ht)))
theorem ul_inAhead (b:BuD) (m:BMark):UL b m (b.inAhead m):=by
 have ht:=blank_text m
 unfold BuD.inAhead
 simp only
 refine ul_ite (.less rfl ht) (ul_ite (.less rfl ht) (ul_ite (.less (uw_headed _ _) ht) (.less (uw_headed _ _) ht)))
theorem ul_inHead (b:BuD) (m:BMark):UL b m (b.inHead m):=by
 unfold BuD.inHead
 simp only
 refine ul_ite (.blank rfl rfl) (ul_ite (.blank (uw_heads _ _) rfl) (ul_ite (.blank rfl rfl) (ul_ite (.blank rfl rfl) (ul_ite (.blank rfl rfl) (.blank rfl rfl)))))
theorem ul_inBehind (b:BuD) (m:BMark):UL b m (b.inBehind m):=by
 unfold BuD.inBehind
 simp only
 refine ul_ite (.blank rfl rfl) (ul_ite (.blank rfl rfl) (ul_ite (.blank (uw_ins _ _ _) rfl) (ul_ite (.blank ?_ rfl) (ul_ite (.blank rfl rfl) (.blank (uw_ins _ _ _) rfl)))))
 exact uw_heads ((b.blankB m).push (b.blankB m).head) (BuD.blankM m)
theorem ul_inText (b:BuD) (m:BMark):UL b m (b.inText m):=by
 unfold BuD.inText
 refine ul_ite ⟨?_,fun h=>by cases h⟩ (.same rfl rfl)
 show uw (b.putText m.text)≤_
 rw[uw_put]
 exact Nat.le_refl _
theorem ul_astray (b:BuD) (m:BMark):UL b m (b.astray m):=ul_inBody {b with on:=true} m
theorem ul_inTable (b:BuD) (m:BMark):UL b m (b.inTable m):=by
 unfold BuD.inTable
 refine ul_ite ⟨?_,fun h=>by cases h⟩ (ul_ite (.same (uw_ins _ _ _) rfl) (ul_ite (.same (uw_ins _ _ _) rfl) (ul_ite (.same (uw_ins _ _ _) rfl) (ul_ite (.same (uw_ins _ _ _) rfl) (ul_ite (.same (uw_ins _ _ _) rfl) (ul_ite (ul_ite (.same rfl rfl) (.same rfl rfl)) (ul_ite (.same rfl rfl) (ul_ite (.same (uw_heads b m) rfl) (ul_ite (.same rfl rfl) (ul_astray b m))))))))))
 show b.used+(b.wait++m.text).size≤b.used+b.wait.size+m.text.size
 rw[ByteArray.size_append]
 omega
theorem ul_inCaption (b:BuD) (m:BMark):UL b m (b.inCaption m):=by
 unfold BuD.inCaption
 exact ul_ite (ul_ite (.same rfl rfl) (.same rfl rfl)) (ul_ite (.same rfl rfl) (ul_inBody b m))
theorem ul_inColumns (b:BuD) (m:BMark):UL b m (b.inColumns m):=by
 unfold BuD.inColumns
 simp only
 exact ul_ite (.blank rfl rfl) (ul_ite (.blank rfl rfl) (ul_ite (.blank (uw_single _ _ _) rfl) (ul_ite (.blank rfl rfl) (.blank rfl rfl))))
theorem ul_inRows (b:BuD) (m:BMark):UL b m (b.inRows m):=by
 unfold BuD.inRows
 simp only
 exact ul_ite (ul_ite (.same (uw_ins _ _ _) rfl) (.same (uw_ins _ _ _) rfl)) (ul_ite (ul_ite (.same rfl rfl) (.same rfl rfl)) (ul_ite (ul_ite (.same rfl rfl) (.same rfl rfl)) (ul_ite (.same rfl rfl) (ul_inTable b m))))
theorem ul_inRow (b:BuD) (m:BMark):UL b m (b.inRow m):=by
 unfold BuD.inRow
 exact ul_ite (.same (uw_ins (b.clear' _) m.name m.attrs) rfl) (ul_ite (.same rfl rfl) (ul_ite (ul_ite (.same rfl rfl) (.same rfl rfl)) (ul_ite (.same rfl rfl) (ul_inTable b m))))
theorem ul_inCell (b:BuD) (m:BMark):UL b m (b.inCell m):=by
 unfold BuD.inCell
 exact ul_ite (ul_ite (.same rfl rfl) (.same rfl rfl)) (ul_ite (ul_ite (.same rfl rfl) (.same rfl rfl)) (ul_ite (.same rfl rfl) (ul_ite (ul_ite (.same rfl rfl) (.same rfl rfl)) (ul_inBody b m))))
theorem ul_inAfter (b:BuD) (m:BMark):UL b m (b.inAfter m):=by
 have h:=sp_size m.text
 have hb:uw (if(m.kind==1)&& !(aheadF m.text).toList.isEmpty then(b.inBody ⟨1,⟨#[]⟩,[],false,aheadF m.text⟩).1 else b)+(BuD.blankM m).text.size≤uw b+m.text.size:=by
  by_cases hk:m.kind==1
  ·have e:(BuD.blankM m).text=restF m.text:=by unfold BuD.blankM;rw[if_pos hk]
   rw[e]
   split
   ·have:=(ul_inBody b ⟨1,⟨#[]⟩,[],false,aheadF m.text⟩).1
    have h2:(⟨1,⟨#[]⟩,[],false,aheadF m.text⟩:BMark).text.size=(aheadF m.text).size:=rfl
    omega
   ·omega
  ·have e:(BuD.blankM m)=m:=by unfold BuD.blankM;rw[if_neg hk]
   rw[e,if_neg (by simp[hk])]
   exact Nat.le_refl _
 unfold BuD.inAfter
 simp only
 generalize (if(m.kind==1)&& !(aheadF m.text).toList.isEmpty then(b.inBody ⟨1,⟨#[]⟩,[],false,aheadF m.text⟩).1 else b)=c at hb ⊢
 have hr: ∀(k:Bool) (d:BuD),uw d=uw c→UL b m (d,BuD.blankM m,k):=fun k d hd=>⟨by show uw d≤_;omega,fun _=>by show uw d+(BuD.blankM m).text.size≤_;omega⟩
 exact ul_ite (hr _ _ rfl) (ul_ite (hr _ _ rfl) (hr _ _ rfl))
theorem ul_rules (b:BuD) (m:BMark):UL b m (b.rules m):=by
 unfold BuD.rules
 exact ul_ite (ul_inStart b m) (ul_ite (ul_inAhead b m) (ul_ite (ul_inHead b m) (ul_ite (ul_inBehind b m) (ul_ite (ul_inBody b m) (ul_ite (ul_inText b m) (ul_ite (ul_inTable b m) (ul_ite (ul_inCaption b m) (ul_ite (ul_inColumns b m) (ul_ite (ul_inRows b m) (ul_ite (ul_inRow b m) (ul_ite (ul_inCell b m) (ul_inAfter b m))))))))))))
theorem ul_leaves (m:BMark) (b:BuD): ∀l,UL b m (BuD.leavesR m b l)
 | []=> .same rfl rfl
 | [_]=> .same rfl rfl
 |x::y::r=>by
  rw[BuD.leavesR]
  exact ul_ite (ul_rules b m) (ul_ite (.same rfl rfl) (ul_leaves m b (y::r)))
theorem ul_foreign (b:BuD) (m:BMark) (sp:Int):UL b m (b.foreign m sp):=by
 unfold BuD.foreign
 refine ul_ite ⟨?_,fun h=>by cases h⟩ (ul_ite ?_ (ul_ite (.same (uw_alien b m sp) rfl) (ul_ite (ul_leaves m b _) (.same rfl rfl))))
 ·show uw (b.putText m.text)≤_
  rw[uw_put]
  exact Nat.le_refl _
 ·have h:=ul_rules (BuD.breakR b b.S.l.reverse) m
  unfold UL at h ⊢
  rw[uw_breakR]at h
  exact h
theorem ul_once (b:BuD) (m:BMark):UL b m (b.once m):=by
 unfold BuD.once
 exact ul_ite (ul_foreign b m _) (ul_rules b m)
theorem uw_flush (b:BuD):uw b.flush≤uw b:=by
 have h1:uw ({b with wait:=⟨#[]⟩}:BuD)+b.wait.size=uw b:=by
  show b.used+0+b.wait.size=b.used+b.wait.size
  omega
 unfold BuD.flush
 simp only
 split
 ·omega
 ·split
  ·rw[uw_put];omega
  ·have:=(ul_astray ({b with wait:=⟨#[]⟩}:BuD) ⟨1,⟨#[]⟩,[],false,b.wait⟩).1
   have h2:(⟨1,⟨#[]⟩,[],false,b.wait⟩:BMark).text.size=b.wait.size:=rfl
   omega
end
end
end Go.Proofs.YtgepobccoffnaaaGreatDoor
