/- Texts joined for a claim: BuTm: plain laws and contracts. No conditions beyond those that each lemma types. -/
import Derived.Test.YtgepobccoffnaaaGreatDoorT26
set_option linter.unusedVariables false
set_option linter.unusedSimpArgs false
namespace Go.Proofs.YtgepobccoffnaaaGreatDoor
open Go.RowKit Mem
section
def MD (b:BuD):Prop:=b.mode=5→b.back≠5
section
variable {b c:BuD} {m:BMark}
theorem MD.of (h:b.mode≠5):MD b:=fun e=>absurd e h
theorem MD.same (h:MD b) (h1:c.mode=b.mode) (h2:c.back=b.back):MD c:=by unfold MD;rw[h1,h2];exact h
theorem mo_keep (b:BuD) (e:Int):(b.keep e).mode=b.mode:=(b.keep_all e).2.1
theorem mo_back (b:BuD) (e:Int):(b.keep e).back=b.back:=(b.keep_all e).2.2.1
theorem mo_insSp (b:BuD) (sp:Int) (nm:ByteArray) (l:List Pair):(b.insSp sp nm l).1.mode=b.mode:=mo_keep _ _
theorem mo_ins (b:BuD) (nm:ByteArray) (l:List Pair):(b.ins nm l).mode=b.mode:=mo_keep _ _
theorem mo_put (b:BuD) (t:ByteArray):(b.putText t).mode=b.mode:=mo_keep _ _
theorem mo_restore (b:BuD):b.restore.mode=b.mode:=mo_keep _ _
theorem mo_adopt (b:BuD) (nm:ByteArray):(b.adopt nm).mode=b.mode:=mo_keep _ _
theorem mo_ite {p:Prop} [Decidable p] {r q:BuD} {n:Int} (h1:r.mode=n) (h2:q.mode=n):(if p then r else q).mode=n:=by
 by_cases h:p
 ·rw[if_pos h];exact h1
 ·rw[if_neg h];exact h2
theorem MD.ite {p:Prop} [Decidable p] {r q:BuD} (h1:p→MD r) (h2: ¬p→MD q):MD (if p then r else q):=by
 by_cases h:p
 ·rw[if_pos h];exact h1 h
 ·rw[if_neg h];exact h2 h
theorem MD.ite1 {α:Type} {p:Prop} [Decidable p] {r q:BuD×α} (h1:p→MD r.1) (h2: ¬p→MD q.1):MD (if p then r else q).1:=by
 by_cases h:p
 ·rw[if_pos h];exact h1 h
 ·rw[if_neg h];exact h2 h
theorem MD.mo {n:Int} (h:c.mode=n) (hn:n≠5):MD c:=MD.of (by rw[h];exact hn)
theorem md_raws (h:b.mode≠5) (m:BMark) (k:Int):MD (b.raws m k):=fun _=>by
 show(b.ins m.name m.attrs).mode≠5
 rw[mo_ins];exact h
theorem md_heads (h:b.mode≠5) (m:BMark):MD (b.heads m).1:=by
 unfold BuD.heads
 refine MD.ite1 (fun _=> .mo (mo_ins b _ _) h) fun _=>MD.ite1 (fun _=>md_raws h m 1) fun _=>MD.ite1 (fun _=>md_raws h m 2) fun _=> .of h
theorem mo_paragraph (b:BuD):b.paragraph.mode=b.mode:=by unfold BuD.paragraph;split <;>rfl
theorem mo_itemR (names:List ByteArray) (b:BuD): ∀l,(BuD.itemR names b l).mode=b.mode
 | []=>rfl
 |x::r=>by
  rw[BuD.itemR]
  exact mo_ite rfl (mo_ite rfl (mo_itemR names b r))
theorem mo_otherR (want:ByteArray) (b:BuD): ∀l,(BuD.otherR want b l).mode=b.mode
 | []=>rfl
 |x::r=>by
  rw[BuD.otherR]
  exact mo_ite rfl (mo_ite rfl (mo_otherR want b r))
theorem mo_breakR (b:BuD): ∀l,(BuD.breakR b l).mode=b.mode∧(BuD.breakR b l).back=b.back∧(BuD.breakR b l).S.l.length≤l.length
 | []=>⟨rfl,rfl,Nat.le_refl _⟩
 |x::r=>by
  rw[BuD.breakR]
  by_cases h:((spaceQ b.S.T x==0)||(pointF (spaceQ b.S.T x) (nameQ b.S.T x) (attrsQ b.S.T x) !=0))=true
  ·rw[if_pos h]
   refine⟨rfl,rfl,?_⟩
   show(x::r).reverse.length≤_
   rw[List.length_reverse]
   exact Nat.le_refl _
  ·rw[if_neg h]
   obtain⟨h1,h2,h3⟩:=mo_breakR b r
   exact⟨h1,h2,Nat.le_succ_of_le h3⟩
theorem mo_other (b:BuD) (want:ByteArray):(b.other want).mode=b.mode:=mo_otherR _ _ _
theorem mo_forms (b:BuD) (m:BMark):(b.forms m).mode=b.mode:=by
 unfold BuD.forms
 exact mo_ite ((mo_ins _ _ _).trans (mo_restore b)) ((mo_ins _ _ _).trans (mo_restore b))
theorem md_verbatim (h:b.mode≠5) (m:BMark):MD (b.verbatim m):=by
 unfold BuD.verbatim
 refine MD.ite (fun _=>md_raws h m 1) fun _=>MD.ite (fun _=>md_raws ?_ m 2) fun _=>md_raws h m 2
 rw[mo_restore,mo_paragraph];exact h
theorem mo_phrases (b:BuD) (m:BMark):(b.phrases m).mode=b.mode:=by
 have h1: ∀c:BuD,c.mode=b.mode→(if oneF [⟨#[97,112,112,108,101,116]⟩,⟨#[109,97,114,113,117,101,101]⟩,⟨#[111,98,106,101,99,116]⟩] m.name then(c.restore.ins m.name m.attrs).lmark else c.restore.ins m.name m.attrs).mode=b.mode:=fun c hc=>by
  have h2:(c.restore.ins m.name m.attrs).mode=b.mode:=(mo_ins _ _ _).trans ((mo_restore c).trans hc)
  exact mo_ite h2 h2
 unfold BuD.phrases
 refine h1 _ (mo_ite (mo_ite rfl rfl) (mo_ite (mo_ite rfl rfl) rfl))
theorem mo_alien (b:BuD) (m:BMark) (sp:Int):(b.alien m sp).mode=b.mode∧(b.alien m sp).back=b.back:=by
 unfold BuD.alien
 simp only
 split
 ·exact⟨mo_insSp b sp _ _,mo_back _ _⟩
 ·exact⟨mo_insSp b sp _ _,mo_back _ _⟩
theorem md_blocks (h:b.mode≠5) (m:BMark):MD (b.blocks m):=by
 have h2:(BuD.paragraph (if m.name.toList==([108,105]:List UInt8)then b.item [⟨#[108,105]⟩]else if(m.name.toList==([100,100]:List UInt8))||(m.name.toList==([100,116]:List UInt8))then b.item [⟨#[100,100]⟩,⟨#[100,116]⟩]else b)).mode=b.mode :=
  (mo_paragraph _).trans (mo_ite (mo_itemR _ _ _) (mo_ite (mo_itemR _ _ _) rfl))
 unfold BuD.blocks
 simp only
 generalize BuD.paragraph (if m.name.toList==([108,105]:List UInt8)then b.item [⟨#[108,105]⟩]else if(m.name.toList==([100,100]:List UInt8))||(m.name.toList==([100,116]:List UInt8))then b.item [⟨#[100,100]⟩,⟨#[100,116]⟩]else b)=b2 at h2 ⊢
 have h4:(if headingB m.name&&b2.at' headN then b2.pop else b2).mode=b.mode:=mo_ite h2 h2
 generalize (if headingB m.name&&b2.at' headN then b2.pop else b2)=b3 at h4 ⊢
 have h5:(b3.ins m.name m.attrs).mode=b.mode:=(mo_ins _ _ _).trans h4
 exact MD.ite (fun _=> .mo ((mo_ins b2 _ _).trans h2) h) fun _=>MD.ite (fun _=> .mo h5 h) fun _=>MD.ite (fun _=> .mo (n:=6) rfl (by decide)) fun _=> .mo h5 h
theorem md_opens (h:b.mode≠5) (m:BMark):MD (b.opens m).1:=by
 rw[BuD.opens.eq_1]
 refine MD.ite1 (fun _=> .of h) fun _=>MD.ite1 (fun _=>md_heads h m) fun _=>MD.ite1 (fun _=>md_blocks h m) fun _=>MD.ite1 (fun _=> ?_) fun _=>MD.ite1 (fun _=> .mo (mo_forms b m) h) fun _=>MD.ite1 (fun _=> ?_) fun _=>MD.ite1 (fun _=> .mo (mo_ins b _ _) h) fun _=>MD.ite1 (fun _=> .mo ((mo_ins b.restore _ _).trans (mo_restore b)) h) fun _=>MD.ite1 (fun _=>md_verbatim h m) fun _=>MD.ite1 (fun _=> .mo ((mo_alien _ _ _).1.trans (mo_restore b)) h) fun _=> .mo (mo_phrases b m) h
 ·exact .mo ((mo_forms _ _).trans (mo_ite rfl (mo_adopt b _))) h
 ·exact .mo ((mo_forms _ _).trans (mo_ite ((mo_adopt _ _).trans (mo_restore b)) (mo_restore b))) h
theorem mo_ends (b:BuD) (sc:Int) (but:ByteArray) (names:List ByteArray):(b.ends sc but names).mode=b.mode:=mo_ite rfl rfl
theorem md_closes (h:b.mode≠5) (m:BMark):MD (b.closes m).1:=by
 rw[BuD.closes.eq_1]
 refine MD.ite1 (fun _=> ?_) fun _=>MD.ite1 (fun _=> .mo ?_ h) fun _=>MD.ite1 (fun _=> .mo (mo_ends b _ _ _) h) fun _=>MD.ite1 (fun _=> .mo (mo_ends b _ _ _) h) fun _=>MD.ite1 (fun _=> .mo (mo_ends b _ _ _) h) fun _=>MD.ite1 (fun _=> .mo (mo_ends b _ _ _) h) fun _=>MD.ite1 (fun _=> .mo ?_ h) fun _=>MD.ite1 (fun _=> .mo (mo_ite (mo_ends b _ _ _) rfl) h) fun _=>MD.ite1 (fun _=> .mo ((mo_ins b.restore _ _).trans (mo_restore b)) h) fun _=> .mo (mo_other b _) h
 ·exact MD.ite1 (fun _=> .mo (n:=12) rfl (by decide)) fun _=> .of h
 ·exact(mo_paragraph _).trans (mo_ite rfl (mo_ins b _ _))
 ·exact mo_ite ((mo_other _ _).trans (mo_adopt b _)) (mo_adopt b _)
theorem md_inBody (h:b.mode≠5) (m:BMark):MD (b.inBody m).1:=by
 rw[BuD.inBody.eq_1]
 exact MD.ite1 (fun _=> .mo ((mo_put _ _).trans (mo_restore b)) h) fun _=>MD.ite1 (fun _=>md_opens h m) fun _=>MD.ite1 (fun _=>md_closes h m) fun _=> .of h
theorem mo_blank (b:BuD) (m:BMark):(b.blankB m).mode=b.mode:=by
 unfold BuD.blankB
 exact mo_ite (mo_ite rfl (mo_put b _)) rfl
theorem md_astray (h:b.mode≠5) (m:BMark):MD (b.astray m).1:=md_inBody (b:= {b with on:=true}) h m
theorem mo_inText (b:BuD) (t:ByteArray):(b.inBody ⟨1,⟨#[]⟩,[],false,t⟩).1.mode=b.mode:=(mo_put _ _).trans (mo_restore b)
theorem modeR_five (T:TreeD): ∀l,BuD.modeR T l≠5∧BuD.modeR T l≠0∧BuD.modeR T l≠1∧BuD.modeR T l≠2∧BuD.modeR T l≠3∧(BuD.modeR T l=4∨BuD.modeR T l=6∨BuD.modeR T l=7∨BuD.modeR T l=8∨BuD.modeR T l=9∨BuD.modeR T l=10∨BuD.modeR T l=11)
 | []=>by rw[BuD.modeR];decide
 |x::r=>by
  rw[BuD.modeR]
  have h:=modeR_five T r
  split
  ·exact h
  ·split
   ·decide
   ·split
    ·decide
    ·split
     ·decide
     ·split
      ·decide
      ·split
       ·decide
       ·split
        ·decide
        ·split
         ·decide
         ·exact h
theorem md_inTable (h:b.mode≠5) (m:BMark):MD (b.inTable m).1:=by
 rw[BuD.inTable.eq_1]
 refine MD.ite1 (fun _=> .of h) fun _=>MD.ite1 (fun _=> .mo (n:=7) rfl (by decide)) fun _=>MD.ite1 (fun _=> .mo (n:=8) rfl (by decide)) fun _=>MD.ite1 (fun _=> .mo (n:=8) rfl (by decide)) fun _=>MD.ite1 (fun _=> .mo (n:=9) rfl (by decide)) fun _=>MD.ite1 (fun _=> .mo (n:=9) rfl (by decide)) fun _=>MD.ite1 (fun _=>MD.ite1 (fun _=> .of ?_) fun _=> .of h) fun _=>MD.ite1 (fun _=> .of h) fun _=>MD.ite1 (fun _=>md_heads h m) fun _=>MD.ite1 (fun _=> .of h) fun _=>md_astray h m
 exact(modeR_five _ _).1
theorem md_rules (h:MD b) (m:BMark):MD (b.rules m).1:=by
 rw[BuD.rules.eq_1]
 refine MD.ite1 (fun e=> ?_) fun e0=>MD.ite1 (fun e=> ?_) fun e1=>MD.ite1 (fun e=> ?_) fun e2=>MD.ite1 (fun e=> ?_) fun e3=>MD.ite1 (fun e=> ?_) fun e4=>MD.ite1 (fun e=> ?_) fun e5=>MD.ite1 (fun e=> ?_) fun e6=>MD.ite1 (fun e=> ?_) fun e7=>MD.ite1 (fun e=> ?_) fun e8=>MD.ite1 (fun e=> ?_) fun e9=>MD.ite1 (fun e=> ?_) fun e10=>MD.ite1 (fun e=> ?_) fun e11=> ?_
 ·have hn:b.mode≠5:=by omega
  rw[BuD.inStart.eq_1]
  exact MD.ite1 (fun _=> .of hn) fun _=>MD.ite1 (fun _=> .of hn) fun _=>MD.ite1 (fun _=> .mo (mo_ins (b.goto 1) _ _) (show(1:Int)≠5 by decide)) fun _=> .mo (mo_ins (b.goto 1) _ _) (show(1:Int)≠5 by decide)
 ·have hn:b.mode≠5:=by omega
  rw[BuD.inAhead.eq_1]
  exact MD.ite1 (fun _=> .of hn) fun _=>MD.ite1 (fun _=> .of hn) fun _=>MD.ite1 (fun _=> .mo (mo_ins (b.goto 2) _ _) (show(2:Int)≠5 by decide)) fun _=> .mo (mo_ins (b.goto 2) _ _) (show(2:Int)≠5 by decide)
 ·have hn:(b.blankB m).mode≠5:=by rw[mo_blank];omega
  rw[BuD.inHead.eq_1]
  exact MD.ite1 (fun _=> .of hn) fun _=>MD.ite1 (fun _=>md_heads hn _) fun _=>MD.ite1 (fun _=> .of hn) fun _=>MD.ite1 (fun _=> .mo (n:=3) rfl (by decide)) fun _=>MD.ite1 (fun _=> .of hn) fun _=> .mo (n:=3) rfl (by decide)
 ·have hn:(b.blankB m).mode≠5:=by rw[mo_blank];omega
  rw[BuD.inBehind.eq_1]
  exact MD.ite1 (fun _=> .of hn) fun _=>MD.ite1 (fun _=> .of hn) fun _=>MD.ite1 (fun _=> .mo (n:=4) rfl (by decide)) fun _=>MD.ite1 (fun _=>md_heads (b:=(b.blankB m).push (b.blankB m).head) hn _) fun _=>MD.ite1 (fun _=> .of hn) fun _=> .mo (n:=4) rfl (by decide)
 ·exact md_inBody (by omega) m
 ·rw[BuD.inText.eq_1]
  exact MD.ite1 (fun _=>h.same (mo_put b _) (mo_back _ _)) fun _=> .of (h e)
 ·exact md_inTable (by omega) m
 ·have hn:b.mode≠5:=by omega
  rw[BuD.inCaption.eq_1]
  exact MD.ite1 (fun _=>MD.ite1 (fun _=> .mo (n:=6) rfl (by decide)) fun _=> .of hn) fun _=>MD.ite1 (fun _=> .of hn) fun _=>md_inBody hn m
 ·have hn:(b.blankB m).mode≠5:=by rw[mo_blank];omega
  rw[BuD.inColumns.eq_1]
  exact MD.ite1 (fun _=> .of hn) fun _=>MD.ite1 (fun _=> .of hn) fun _=>MD.ite1 (fun _=> .mo (mo_ins (b.blankB m) _ _) hn) fun _=>MD.ite1 (fun _=> .of hn) fun _=> .mo (n:=6) rfl (by decide)
 ·have hn:b.mode≠5:=by omega
  rw[BuD.inRows.eq_1]
  exact MD.ite1 (fun _=>MD.ite1 (fun _=> .mo (mo_ins ((b.clear' _).goto 10) _ _) (show(10:Int)≠5 by decide)) fun _=> .mo (mo_ins ((b.clear' _).goto 10) _ _) (show(10:Int)≠5 by decide)) fun _=>MD.ite1 (fun _=>MD.ite1 (fun _=> .mo (n:=6) rfl (by decide)) fun _=> .of hn) fun _=>MD.ite1 (fun _=>MD.ite1 (fun _=> .mo (n:=6) rfl (by decide)) fun _=> .of hn) fun _=>MD.ite1 (fun _=> .of hn) fun _=>md_inTable hn m
 ·have hn:b.mode≠5:=by omega
  rw[BuD.inRow.eq_1]
  exact MD.ite1 (fun _=> .mo (n:=11) rfl (by decide)) fun _=>MD.ite1 (fun _=> .of hn) fun _=>MD.ite1 (fun _=>MD.ite1 (fun _=> .mo (n:=9) rfl (by decide)) fun _=> .of hn) fun _=>MD.ite1 (fun _=> .of hn) fun _=>md_inTable hn m
 ·have hn:b.mode≠5:=by omega
  rw[BuD.inCell.eq_1]
  exact MD.ite1 (fun _=>MD.ite1 (fun _=> .mo (n:=10) rfl (by decide)) fun _=> .of hn) fun _=>MD.ite1 (fun _=>MD.ite1 (fun _=> .mo (n:=10) rfl (by decide)) fun _=> .of hn) fun _=>MD.ite1 (fun _=> .of hn) fun _=>MD.ite1 (fun _=>MD.ite1 (fun _=> .mo (n:=10) rfl (by decide)) fun _=> .of hn) fun _=>md_inBody hn m
 ·have hn:(if(m.kind==1)&& !(aheadF m.text).toList.isEmpty then(b.inBody ⟨1,⟨#[]⟩,[],false,aheadF m.text⟩).1 else b).mode≠5:=by
   rw[mo_ite (n:=b.mode) (mo_inText b _) rfl];omega
  rw[BuD.inAfter.eq_1]
  exact MD.ite1 (fun _=> .of hn) fun _=>MD.ite1 (fun _=> .of hn) fun _=> .mo (n:=4) rfl (by decide)
theorem md_leaves (m:BMark) (h:MD b): ∀l,MD (BuD.leavesR m b l).1
 | []=>h
 | [_]=>h
 |x::y::r=>by
  rw[BuD.leavesR]
  exact MD.ite1 (fun _=>md_rules h m) fun _=>MD.ite1 (fun _=>h) fun _=>md_leaves m h (y::r)
theorem md_once (h:MD b) (m:BMark):MD (b.once m).1:=by
 rw[BuD.once.eq_1]
 refine MD.ite1 (fun _=> ?_) fun _=>md_rules h m
 rw[BuD.foreign.eq_1]
 refine MD.ite1 (fun _=>h.same (mo_put b _) (mo_back _ _)) fun _=>MD.ite1 (fun _=>md_rules (h.same (mo_breakR b _).1 (mo_breakR b _).2.1) m) fun _=>MD.ite1 (fun _=>h.same (mo_alien b m _).1 (mo_alien b m _).2) fun _=>MD.ite1 (fun _=>md_leaves m h _) fun _=>h
end
def rkc (mode:Int) (q1 q2 q4 q5:Bool):Nat :=
 if q1 then(if mode=4∨mode=10 then 0 else if mode=6 then 2 else if mode=7∨mode=8 then 3 else 1)
 else if q2 then(if mode=4∨mode=9 then 0 else if mode=7∨mode=8∨mode=11 then 2 else 1)
 else if q4 then(if mode=4∨mode=8 then 0 else if mode=7∨mode=9 then 2 else if mode=10 then 3 else if mode=11 then 4 else 1)
 else if q5 then(if mode=4∨mode=8 then 1 else 0)
 else(if mode=4∨mode=6 then 0 else if mode=10 then 2 else if mode=11 then 3 else 1)
def rankN (mode:Int) (len:Nat) (m:BMark):Nat :=
 if mode=5 then 8000
 else if mode=0 then 4004
 else if mode=1 then 4003
 else if mode=2 then 4002
 else if mode=3 then 4001
 else if startF m [⟨#[116,97,98,108,101]⟩]then 2*len+(if mode=4∨mode=6∨mode=7∨mode=8∨mode=9∨mode=10∨mode=11 then 0 else 1)
 else rkc mode (startF m [⟨#[116,100]⟩,⟨#[116,104]⟩]) (startF m [⟨#[116,114]⟩]) (startF m [⟨#[99,111,108]⟩]) (endF m [⟨#[104,116,109,108]⟩])
def rank (b:BuD) (m:BMark):Nat:=rankN b.mode b.S.l.length m
theorem rkc_le (mode:Int) (q1 q2 q4 q5:Bool):rkc mode q1 q2 q4 q5≤4:=by
 unfold rkc
 split
 ·split
  ·omega
  ·split
   ·omega
   ·split <;>omega
 ·split
  ·split
   ·omega
   ·split <;>omega
  ·split
   ·split
    ·omega
    ·split
     ·omega
     ·split
      ·omega
      ·split <;>omega
   ·split
    ·split <;>omega
    ·split
     ·omega
     ·split
      ·omega
      ·split <;>omega
theorem rank_low {mode:Int} {len:Nat} (m:BMark) (hm:mode≠5) (h0:mode≠0) (h1:mode≠1) (h2:mode≠2) (h3:mode≠3) (hl:len≤1900):rankN mode len m≤4000:=by
 unfold rankN
 rw[if_neg hm,if_neg h0,if_neg h1,if_neg h2,if_neg h3]
 split
 ·split <;>omega
 ·have:=rkc_le mode (startF m [⟨#[116,100]⟩,⟨#[116,104]⟩]) (startF m [⟨#[116,114]⟩]) (startF m [⟨#[99,111,108]⟩]) (endF m [⟨#[104,116,109,108]⟩])
  omega
theorem rank_five {mode:Int} {len:Nat} (m:BMark) (hm:mode≠5) (hl:len≤1900):rankN mode len m<8000:=by
 by_cases h0:mode=0
 ·subst h0;exact(by decide:(4004:Nat)<8000)
 by_cases h1:mode=1
 ·subst h1;exact(by decide:(4003:Nat)<8000)
 by_cases h2:mode=2
 ·subst h2;exact(by decide:(4002:Nat)<8000)
 by_cases h3:mode=3
 ·subst h3;exact(by decide:(4001:Nat)<8000)
 have:=rank_low m hm h0 h1 h2 h3 hl
 omega
theorem rank_at {m:BMark} {k:Int} {nm:ByteArray} (hk:m.kind=k) (hn:m.name=nm) (mode:Int) (len:Nat):rankN mode len m=rankN mode len ⟨k,nm,[],false,⟨#[]⟩⟩:=by
 subst hk hn
 rfl
theorem one_in {S:List ByteArray} {x:ByteArray} (h:oneF S x=true):x∈S:=by
 unfold oneF isW at h
 rw[Bool.and_eq_true,List.any_eq_true]at h
 obtain⟨⟨y,hy,he⟩, -⟩:=h
 have:x=y:=toList_inj (by simpa using he)
 rw[this];exact hy
theorem start_in {m:BMark} {S:List ByteArray} (h:startF m S=true):m.kind=2∧m.name∈S:=by
 unfold startF at h
 rw[Bool.and_eq_true]at h
 exact⟨by simpa using h.1,one_in h.2⟩
theorem end_in {m:BMark} {S:List ByteArray} (h:endF m S=true):m.kind=3∧m.name∈S:=by
 unfold endF at h
 rw[Bool.and_eq_true]at h
 exact⟨by simpa using h.1,one_in h.2⟩
def RK (b:BuD) (m:BMark) (r:BuD×BMark×Bool):Prop:=r.2.2=true→rank r.1 r.2.1<rank b m
section
variable {b c:BuD} {m:BMark}
theorem rk_ite {p:Prop} [Decidable p] {r q:BuD×BMark×Bool} (h1:p→RK b m r) (h2: ¬p→RK b m q):RK b m (if p then r else q):=by
 by_cases h:p
 ·rw[if_pos h];exact h1 h
 ·rw[if_neg h];exact h2 h
theorem RK.no {c:BuD} {n:BMark}:RK b m (c,n,false):=fun h=>by cases h
theorem rank_blank (mode:Int) (len:Nat) (m:BMark):rankN mode len (BuD.blankM m)=rankN mode len m:=by
 unfold BuD.blankM
 split <;>rfl
theorem closes_html (b:BuD) (m:BMark) (hk:m.kind=3) (h:endF m [⟨#[104,116,109,108]⟩]=false):(b.closes m).2=false:=by
 rw[BuD.closes.eq_1]
 have h0:(m.name.toList==([104,116,109,108]:List UInt8))=false:=by
  cases e:(m.name.toList==([104,116,109,108]:List UInt8))with
  |false=>rfl
  |true =>
   have e1:m.name.toList=([104,116,109,108]:List UInt8):=by simpa using e
   have:endF m [⟨#[104,116,109,108]⟩]=true:=by
    unfold endF oneF isW
    rw[hk,e1]
    decide +kernel
   rw[this]at h;cases h
 split
 ·split
  ·exact h0
  ·rfl
 ·split
  ·rfl
  ·split
   ·rfl
   ·split
    ·rfl
    ·split
     ·rfl
     ·split
      ·rfl
      ·split
       ·rfl
       ·split
        ·rfl
        ·split <;>rfl
theorem inBody_no (b:BuD) (m:BMark) (h:endF m [⟨#[104,116,109,108]⟩]=false):(b.inBody m).2.2=false:=by
 rw[BuD.inBody.eq_1]
 split
 ·rfl
 ·split
  ·rfl
  ·split
   ·rename_i hk
    exact closes_html b m (by simpa using hk) h
   ·rfl
theorem rk_inBody (hb:b.mode=4):RK b m (b.inBody m):=fun h=>by
 cases e:endF m [⟨#[104,116,109,108]⟩]with
 |false=>rw[inBody_no b m e]at h;cases h
 |true =>
  obtain⟨hk,hn⟩:=end_in e
  rw[List.mem_singleton]at hn
  have h1:b.inBody m=((b.closes m).1,m,(b.closes m).2):=by
   rw[BuD.inBody.eq_1,hk];rfl
  rw[h1]at h ⊢
  have h2:oneF [⟨#[98,111,100,121]⟩,⟨#[104,116,109,108]⟩] m.name=true:=by rw[hn];decide +kernel
  rw[BuD.closes.eq_1,if_pos h2]at h ⊢
  by_cases h3:b.has 0 [⟨#[98,111,100,121]⟩]=true
  ·rw[if_pos h3]at h ⊢
   unfold rank
   rw[hb,rank_at hk hn,rank_at hk hn]
   have e1: ∀len,rankN 12 len ⟨3,(⟨#[104,116,109,108]⟩:ByteArray),[],false,⟨#[]⟩⟩=0:=fun _=>by kernel_rfl
   have e2: ∀len,rankN 4 len ⟨3,(⟨#[104,116,109,108]⟩:ByteArray),[],false,⟨#[]⟩⟩=1:=fun _=>by kernel_rfl
   show rankN 12 _ _<_
   rw[e1,e2]
   decide
  ·rw[if_neg h3]at h;cases h
theorem rank_len {m:BMark} (h:startF m [⟨#[116,97,98,108,101]⟩]=false) (p:Int) (len len':Nat):rankN p len m=rankN p len' m:=by
 unfold rankN
 rw[h]
 rfl
theorem rank_less {k:Int} {nm:ByteArray} {p q:Int} (hk:m.kind=k) (hn:m.name=nm) (h0:startF ⟨k,nm,[],false,⟨#[]⟩⟩ [⟨#[116,97,98,108,101]⟩]=false) (h:rankN p 0 ⟨k,nm,[],false,⟨#[]⟩⟩<rankN q 0 ⟨k,nm,[],false,⟨#[]⟩⟩) (len len':Nat):rankN p len m<rankN q len' m:=by
 rw[rank_at hk hn,rank_at hk hn,rank_len h0 p len 0,rank_len h0 q len' 0];exact h
theorem rank_table {p q:Int} {len len':Nat} (h:startF m [⟨#[116,97,98,108,101]⟩]=true) (hp:p=4∨p=6∨p=7∨p=8∨p=9∨p=10∨p=11) (hq:q≠5∧q≠0∧q≠1∧q≠2∧q≠3) (hl:len<len'):rankN p len m<rankN q len' m:=by
 obtain⟨q5,q0,q1,q2,q3⟩:=hq
 unfold rankN
 rw[if_neg (show p≠5 by omega),if_neg (show p≠0 by omega),if_neg (show p≠1 by omega),if_neg (show p≠2 by omega),if_neg (show p≠3 by omega),if_pos h,if_pos hp,if_neg q5,if_neg q0,if_neg q1,if_neg q2,if_neg q3,if_pos h]
 omega
theorem untilF_less {T:TreeD} {names:List ByteArray}: ∀ {l:List Int},l≠ []→(untilF T names l).length<l.length
 | [],h=>absurd rfl h
 |x::r,_=>by
  rw[untilF]
  split
  ·exact Nat.lt_succ_self _
  ·exact Nat.lt_succ_of_le ((untilF_sub T names r).length_le)
theorem has_ne {sc:Int} {names:List ByteArray} (h:b.has sc names=true):b.S.l≠ []:=fun e=>by
 unfold BuD.has hasF at h
 rw[e]at h
 cases h
theorem until_less {names:List ByteArray} (h:b.S.l≠ []):(b.until' names).S.l.length<b.S.l.length:=by
 show(untilF b.S.T names b.S.l.reverse).reverse.length<_
 rw[List.length_reverse]
 have:=untilF_less (T:=b.S.T) (names:=names) (l:=b.S.l.reverse) (by simpa using h)
 rwa [List.length_reverse]at this
theorem name_zero (T:TreeD):nameQ T 0=⟨#[]⟩:=by
 unfold nameQ
 rw[if_neg]
 intro h
 obtain⟨k,hk,h0,h1, -⟩:=elemF_nat h
 omega
theorem at_ne {names:List ByteArray} (h:b.at' names=true):b.S.l≠ []:=fun e=>by
 unfold BuD.at' BuD.topn BuD.top at h
 rw[e]at h
 have e0:nameQ b.S.T (([]:List Int).getLast?.getD 0)=⟨#[]⟩:=name_zero _
 rw[e0]at h
 unfold oneF at h
 have:(⟨#[]⟩:ByteArray).toList.isEmpty=true:=by kernel_rfl
 rw[this]at h
 simp at h
theorem pop_less (h:b.S.l≠ []):b.pop.S.l.length<b.S.l.length:=by
 show b.S.l.dropLast.length<_
 rw[List.length_dropLast]
 have:=List.length_pos_iff.2 h
 omega
theorem rk_inTable (hb:b.mode=6∨b.mode=9∧(startF m [⟨#[116,100]⟩,⟨#[116,104]⟩,⟨#[116,114]⟩]=false∧startF m [⟨#[99,111,108]⟩]=false)∨b.mode=10∧(startF m [⟨#[116,100]⟩,⟨#[116,104]⟩,⟨#[116,114]⟩]=false∧startF m [⟨#[99,111,108]⟩]=false)):RK b m (b.inTable m):=by
 have hq:b.mode≠5∧b.mode≠0∧b.mode≠1∧b.mode≠2∧b.mode≠3:=by omega
 rw[BuD.inTable.eq_1]
 refine rk_ite (fun _=> .no) fun _=>rk_ite (fun _=> .no) fun _=>rk_ite (fun _=> .no) fun _=>rk_ite (fun h4=> ?_) fun _=>rk_ite (fun _=> .no) fun _=>rk_ite (fun h6=> ?_) fun _=>rk_ite (fun h7=>rk_ite (fun h8 hr=> ?_) fun _=> .no) fun _=>rk_ite (fun _=> .no) fun h9=>rk_ite (fun _=> .no) fun _=>rk_ite (fun _=> .no) fun _ hr=> ?_
 ·obtain⟨hk,hn⟩:=start_in h4
  rw[List.mem_singleton]at hn
  rcases hb with hb|hb|hb
  ·intro _
   unfold rank
   rw[hb]
   exact rank_less hk hn (p:=8) (by decide +kernel) (by decide +kernel) _ _
  ·rw[hb.2.2]at h4;cases h4
  ·rw[hb.2.2]at h4;cases h4
 ·rcases hb with hb|hb|hb
  ·intro _
   unfold rank
   rw[hb]
   obtain⟨hk,hn⟩:=start_in h6
   simp only[List.mem_cons,List.not_mem_nil,or_false]at hn
   rcases hn with hn|hn|hn
   ·exact rank_less hk hn (p:=9) (by decide +kernel) (by decide +kernel) _ _
   ·exact rank_less hk hn (p:=9) (by decide +kernel) (by decide +kernel) _ _
   ·exact rank_less hk hn (p:=9) (by decide +kernel) (by decide +kernel) _ _
  ·rw[hb.2.1]at h6;cases h6
  ·rw[hb.2.1]at h6;cases h6
 ·have hst:startF m [⟨#[116,97,98,108,101]⟩]=true:=by
   cases e:startF m [⟨#[116,97,98,108,101]⟩]with
   |true=>rfl
   |false =>
    rw[e,Bool.false_or]at h7
    obtain⟨hk, -⟩:=end_in h7
    rw[hk]at hr
    cases hr
  exact rank_table hst (modeR_five _ _).2.2.2.2.2 hq (until_less (has_ne h8))
 ·have hno:endF m [⟨#[104,116,109,108]⟩]=false:=by
   cases e:endF m [⟨#[104,116,109,108]⟩]with
   |false=>rfl
   |true =>
    obtain⟨hk,hn⟩:=end_in e
    rw[List.mem_singleton]at hn
    exact absurd (by unfold endF;rw[hk,hn];decide +kernel) h9
  rw[show(b.astray m).2.2=(({b with on:=true}:BuD).inBody m).2.2 from rfl,inBody_no _ _ hno]at hr
  cases hr
theorem rk_inBody' {S:List ByteArray} (h: ¬endF m S=true) (hs:oneF S (⟨#[104,116,109,108]⟩:ByteArray)=true):RK b m (b.inBody m):=fun hr=>by
 have hno:endF m [⟨#[104,116,109,108]⟩]=false:=by
  cases e:endF m [⟨#[104,116,109,108]⟩]with
  |false=>rfl
  |true =>
   obtain⟨hk,hn⟩:=end_in e
   rw[List.mem_singleton]at hn
   exact absurd (by unfold endF;rw[hk,hn,hs];rfl) h
 rw[inBody_no _ _ hno]at hr
 cases hr
theorem rkc_86 {q1 q2 q5:Bool}:rkc 6 q1 q2 false q5<rkc 8 q1 q2 false q5:=by
 cases q1 <;>cases q2 <;>cases q5 <;>decide
theorem rkc_124 {q:Int} {q1 q2 q4:Bool} (hq: ¬(q=4∨q=6∨q=7∨q=8∨q=9∨q=10∨q=11)):rkc 4 q1 q2 q4 false<rkc q q1 q2 q4 false:=by
 have n4:q≠4:=by omega
 have n6:q≠6:=by omega
 have n7:q≠7:=by omega
 have n8:q≠8:=by omega
 have n9:q≠9:=by omega
 have n10:q≠10:=by omega
 have n11:q≠11:=by omega
 cases q1 <;>cases q2 <;>cases q4 <;>simp[rkc,n4,n6,n7,n8,n9,n10,n11]
theorem rk_rules (h:MD b) (hl:(b.rules m).1.S.l.length≤1900):RK b m (b.rules m):=by
 have hl0:=hl
 rw[BuD.rules.eq_1]at hl ⊢
 by_cases e0:b.mode=0
 ·rw[if_pos e0]at hl ⊢
  rw[BuD.inStart.eq_1]
  refine rk_ite (fun _=> .no) fun _=>rk_ite (fun _=> .no) fun _=>rk_ite (fun _=> .no) fun _ _=> ?_
  unfold rank
  rw[e0]
  show rankN ((b.goto 1).ins _ _).mode _ _<4004
  rw[mo_ins]
  show 4003<4004
  decide
 rw[if_neg e0]at hl ⊢
 by_cases e1:b.mode=1
 ·rw[if_pos e1]at hl ⊢
  rw[BuD.inAhead.eq_1]
  refine rk_ite (fun _=> .no) fun _=>rk_ite (fun _=> .no) fun _=>rk_ite (fun _=> .no) fun _ _=> ?_
  unfold rank
  rw[e1]
  show rankN ((b.goto 2).ins _ _).mode _ _<4003
  rw[mo_ins]
  show 4002<4003
  decide
 rw[if_neg e1]at hl ⊢
 by_cases e2:b.mode=2
 ·rw[if_pos e2]at hl ⊢
  rw[BuD.inHead.eq_1]
  refine rk_ite (fun _=> .no) fun _=>rk_ite (fun _=> .no) fun _=>rk_ite (fun _=> .no) fun _=>rk_ite (fun _=> .no) fun _=>rk_ite (fun _=> .no) fun _ _=> ?_
  unfold rank
  rw[e2]
  show 4001<4002
  decide
 rw[if_neg e2]at hl ⊢
 by_cases e3:b.mode=3
 ·rw[if_pos e3]at hl ⊢
  rw[BuD.inBehind.eq_1]at hl ⊢
  by_cases f1:BuD.blankT m=true
  ·rw[if_pos f1];exact .no
  rw[if_neg f1]at hl ⊢
  by_cases f2:startF (BuD.blankM m) [⟨#[104,116,109,108]⟩,⟨#[104,101,97,100]⟩,⟨#[102,114,97,109,101,115,101,116]⟩]=true
  ·rw[if_pos f2];exact .no
  rw[if_neg f2]at hl ⊢
  by_cases f3:startF (BuD.blankM m) [⟨#[98,111,100,121]⟩]=true
  ·rw[if_pos f3];exact .no
  rw[if_neg f3]at hl ⊢
  by_cases f4:startF (BuD.blankM m) [⟨#[98,97,115,101]⟩,⟨#[98,97,115,101,102,111,110,116]⟩,⟨#[98,103,115,111,117,110,100]⟩,⟨#[108,105,110,107]⟩,⟨#[109,101,116,97]⟩,⟨#[116,105,116,108,101]⟩,⟨#[115,116,121,108,101]⟩,⟨#[115,99,114,105,112,116]⟩,⟨#[110,111,102,114,97,109,101,115]⟩]=true
  ·rw[if_pos f4];exact .no
  rw[if_neg f4]at hl ⊢
  by_cases f5:(((BuD.blankM m).kind==3)&& !(endF (BuD.blankM m) [⟨#[98,111,100,121]⟩,⟨#[104,116,109,108]⟩,⟨#[98,114]⟩]))=true
  ·rw[if_pos f5];exact .no
  rw[if_neg f5]at hl ⊢
  intro _
  unfold rank
  rw[e3]
  have:=rank_low (mode:=4) (BuD.blankM m) (by decide) (by decide) (by decide) (by decide) (by decide) hl
  exact Nat.lt_of_le_of_lt this (by show 4000<4001;decide)
 rw[if_neg e3]at hl ⊢
 by_cases e4:b.mode=4
 ·rw[if_pos e4];exact rk_inBody e4
 rw[if_neg e4]at hl ⊢
 by_cases e5:b.mode=5
 ·rw[if_pos e5]at hl ⊢
  rw[BuD.inText.eq_1]at hl ⊢
  by_cases f1:(m.kind==1)=true
  ·rw[if_pos f1];exact .no
  rw[if_neg f1]at hl ⊢
  intro _
  unfold rank
  rw[e5]
  exact rank_five m (h e5) hl
 rw[if_neg e5]at hl ⊢
 by_cases e6:b.mode=6
 ·rw[if_pos e6];exact rk_inTable (.inl e6)
 rw[if_neg e6]at hl ⊢
 by_cases e7:b.mode=7
 ·rw[if_pos e7]
  rw[BuD.inCaption.eq_1]
  refine rk_ite (fun f1=>rk_ite (fun _ hr=> ?_) fun _=> .no) fun _=>rk_ite (fun _=> .no) fun f2=>rk_inBody' f2 (by decide +kernel)
  unfold rank
  rw[e7]
  show rankN 6 _ m<_
  have hr':endF m [⟨#[99,97,112,116,105,111,110]⟩]=false:=by simpa using hr
  rw[hr',Bool.false_or,Bool.or_eq_true]at f1
  rcases f1 with f1|f1
  ·obtain⟨hk,hn⟩:=start_in f1
   simp only[partN,List.mem_cons,List.not_mem_nil,or_false]at hn
   rcases hn with hn|hn|hn|hn|hn|hn|hn|hn|hn
   ·exact rank_less hk hn (by decide +kernel) (by decide +kernel) _ _
   ·exact rank_less hk hn (by decide +kernel) (by decide +kernel) _ _
   ·exact rank_less hk hn (by decide +kernel) (by decide +kernel) _ _
   ·exact rank_less hk hn (by decide +kernel) (by decide +kernel) _ _
   ·exact rank_less hk hn (by decide +kernel) (by decide +kernel) _ _
   ·exact rank_less hk hn (by decide +kernel) (by decide +kernel) _ _
   ·exact rank_less hk hn (by decide +kernel) (by decide +kernel) _ _
   ·exact rank_less hk hn (by decide +kernel) (by decide +kernel) _ _
   ·exact rank_less hk hn (by decide +kernel) (by decide +kernel) _ _
  ·obtain⟨hk,hn⟩:=end_in f1
   rw[List.mem_singleton]at hn
   exact rank_less hk hn (by decide +kernel) (by decide +kernel) _ _
 rw[if_neg e7]at hl ⊢
 by_cases e8:b.mode=8
 ·rw[if_pos e8]
  rw[BuD.inColumns.eq_1]
  refine rk_ite (fun _=> .no) fun f1=>rk_ite (fun _=> .no) fun f2=>rk_ite (fun _=> .no) fun f3=>rk_ite (fun _=> .no) fun f4 _=> ?_
  unfold rank
  rw[e8]
  show rankN 6 (b.blankB m).pop.S.l.length (BuD.blankM m)<_
  rw[rank_blank]
  have f3':startF m [⟨#[99,111,108]⟩]=false:=by
   have:startF (BuD.blankM m) [⟨#[99,111,108]⟩]=startF m [⟨#[99,111,108]⟩]:=by unfold BuD.blankM;split <;>rfl
   rw[this]at f3
   simpa using f3
  have hne:(b.blankB m).S.l≠ []:=at_ne (names:= [⟨#[99,111,108,103,114,111,117,112]⟩]) (by simpa using f4)
  have hlen:=pop_less hne
  have hbl:(b.blankB m).S.l=b.S.l:=by
   unfold BuD.blankB
   split
   ·split
    ·rfl
    ·show(b.putText _).S.l=_
     unfold BuD.putText
     rw[BuD.keep_S]
   ·rfl
  rw[hbl]at hlen
  cases ht:startF m [⟨#[116,97,98,108,101]⟩]with
  |true=>exact rank_table ht (.inr (.inl rfl)) (by decide) hlen
  |false =>
   unfold rankN
   rw[ht,f3']
   exact rkc_86
 rw[if_neg e8]at hl ⊢
 by_cases e9:b.mode=9
 ·rw[if_pos e9]
  rw[BuD.inRows.eq_1]
  refine rk_ite (fun f1=> ?_) fun f1=>rk_ite (fun _=>rk_ite (fun _=> .no) fun _=> .no) fun _=>rk_ite (fun f3=>rk_ite (fun _ _=> ?_) fun _=> .no) fun f3=>rk_ite (fun _=> .no) fun _=>rk_inTable (.inr (.inl ⟨e9,?_,?_⟩))
  ·refine rk_ite (fun _=> .no) fun f2 _=> ?_
   unfold rank
   rw[e9]
   show rankN (((b.clear' _).goto 10).ins _ _).mode _ m<_
   rw[mo_ins]
   show rankN 10 _ m<_
   obtain⟨hk,hn⟩:=start_in f1
   simp only[List.mem_cons,List.not_mem_nil,or_false]at hn
   rcases hn with hn|hn|hn
   ·exact absurd (by rw[hn];decide +kernel) f2
   ·exact rank_less hk hn (by decide +kernel) (by decide +kernel) _ _
   ·exact rank_less hk hn (by decide +kernel) (by decide +kernel) _ _
  ·unfold rank
   rw[e9]
   show rankN 6 _ m<_
   rw[Bool.or_eq_true]at f3
   rcases f3 with f3|f3
   ·obtain⟨hk,hn⟩:=start_in f3
    simp only[List.mem_cons,List.not_mem_nil,or_false]at hn
    rcases hn with hn|hn|hn|hn|hn|hn
    ·exact rank_less hk hn (by decide +kernel) (by decide +kernel) _ _
    ·exact rank_less hk hn (by decide +kernel) (by decide +kernel) _ _
    ·exact rank_less hk hn (by decide +kernel) (by decide +kernel) _ _
    ·exact rank_less hk hn (by decide +kernel) (by decide +kernel) _ _
    ·exact rank_less hk hn (by decide +kernel) (by decide +kernel) _ _
    ·exact rank_less hk hn (by decide +kernel) (by decide +kernel) _ _
   ·obtain⟨hk,hn⟩:=end_in f3
    rw[List.mem_singleton]at hn
    exact rank_less hk hn (by decide +kernel) (by decide +kernel) _ _
  ·cases e:startF m [⟨#[116,100]⟩,⟨#[116,104]⟩,⟨#[116,114]⟩]with
   |false=>rfl
   |true =>
    obtain⟨hk,hn⟩:=start_in e
    simp only[List.mem_cons,List.not_mem_nil,or_false]at hn
    rcases hn with hn|hn|hn
    ·exact absurd (by unfold startF;rw[hk,hn];decide +kernel) f1
    ·exact absurd (by unfold startF;rw[hk,hn];decide +kernel) f1
    ·exact absurd (by unfold startF;rw[hk,hn];decide +kernel) f1
  ·cases e:startF m [⟨#[99,111,108]⟩]with
   |false=>rfl
   |true =>
    obtain⟨hk,hn⟩:=start_in e
    rw[List.mem_singleton]at hn
    exact absurd (by unfold startF endF;rw[hk,hn];decide +kernel) f3
 rw[if_neg e9]at hl ⊢
 by_cases e10:b.mode=10
 ·rw[if_pos e10]
  rw[BuD.inRow.eq_1]
  refine rk_ite (fun _=> .no) fun f1=>rk_ite (fun _=> .no) fun _=>rk_ite (fun f3=>rk_ite (fun _ hr=> ?_) fun _=> .no) fun f3=>rk_ite (fun _=> .no) fun _=>rk_inTable (.inr (.inr ⟨e10,?_,?_⟩))
  ·unfold rank
   rw[e10]
   show rankN 9 _ m<_
   rw[Bool.or_eq_true]at f3
   rcases f3 with f3|f3
   ·obtain⟨hk,hn⟩:=end_in f3
    simp only[List.mem_cons,List.not_mem_nil,or_false]at hn
    rcases hn with hn|hn|hn|hn|hn
    ·exact absurd (show endF m [⟨#[116,114]⟩]=true by unfold endF;rw[hk,hn];decide +kernel) (by simpa using hr)
    ·exact rank_less hk hn (by decide +kernel) (by decide +kernel) _ _
    ·exact rank_less hk hn (by decide +kernel) (by decide +kernel) _ _
    ·exact rank_less hk hn (by decide +kernel) (by decide +kernel) _ _
    ·exact rank_less hk hn (by decide +kernel) (by decide +kernel) _ _
   ·obtain⟨hk,hn⟩:=start_in f3
    simp only[partN,List.mem_cons,List.not_mem_nil,or_false]at hn
    rcases hn with hn|hn|hn|hn|hn|hn|hn|hn|hn
    ·exact rank_less hk hn (by decide +kernel) (by decide +kernel) _ _
    ·exact rank_less hk hn (by decide +kernel) (by decide +kernel) _ _
    ·exact rank_less hk hn (by decide +kernel) (by decide +kernel) _ _
    ·exact rank_less hk hn (by decide +kernel) (by decide +kernel) _ _
    ·exact absurd (by unfold startF;rw[hk,hn];decide +kernel) f1
    ·exact rank_less hk hn (by decide +kernel) (by decide +kernel) _ _
    ·exact absurd (by unfold startF;rw[hk,hn];decide +kernel) f1
    ·exact rank_less hk hn (by decide +kernel) (by decide +kernel) _ _
    ·exact rank_less hk hn (by decide +kernel) (by decide +kernel) _ _
  ·cases e:startF m [⟨#[116,100]⟩,⟨#[116,104]⟩,⟨#[116,114]⟩]with
   |false=>rfl
   |true =>
    obtain⟨hk,hn⟩:=start_in e
    simp only[List.mem_cons,List.not_mem_nil,or_false]at hn
    rcases hn with hn|hn|hn
    ·exact absurd (by unfold rowedF startF endF;rw[hk,hn];decide +kernel) f3
    ·exact absurd (by unfold rowedF startF endF;rw[hk,hn];decide +kernel) f3
    ·exact absurd (by unfold rowedF startF endF;rw[hk,hn];decide +kernel) f3
  ·cases e:startF m [⟨#[99,111,108]⟩]with
   |false=>rfl
   |true =>
    obtain⟨hk,hn⟩:=start_in e
    rw[List.mem_singleton]at hn
    exact absurd (by unfold rowedF startF endF;rw[hk,hn];decide +kernel) f3
 rw[if_neg e10]at hl ⊢
 by_cases e11:b.mode=11
 ·rw[if_pos e11]
  rw[BuD.inCell.eq_1]
  refine rk_ite (fun _=>rk_ite (fun _=> .no) fun _=> .no) fun _=>rk_ite (fun f2=>rk_ite (fun _ _=> ?_) fun _=> .no) fun _=>rk_ite (fun _=> .no) fun f3=>rk_ite (fun f4=>rk_ite (fun _ _=> ?_) fun _=> .no) fun _=>rk_inBody' f3 (by decide +kernel)
  ·unfold rank
   rw[e11]
   show rankN 10 _ m<_
   obtain⟨hk,hn⟩:=start_in f2
   simp only[partN,List.mem_cons,List.not_mem_nil,or_false]at hn
   rcases hn with hn|hn|hn|hn|hn|hn|hn|hn|hn
   ·exact rank_less hk hn (by decide +kernel) (by decide +kernel) _ _
   ·exact rank_less hk hn (by decide +kernel) (by decide +kernel) _ _
   ·exact rank_less hk hn (by decide +kernel) (by decide +kernel) _ _
   ·exact rank_less hk hn (by decide +kernel) (by decide +kernel) _ _
   ·exact rank_less hk hn (by decide +kernel) (by decide +kernel) _ _
   ·exact rank_less hk hn (by decide +kernel) (by decide +kernel) _ _
   ·exact rank_less hk hn (by decide +kernel) (by decide +kernel) _ _
   ·exact rank_less hk hn (by decide +kernel) (by decide +kernel) _ _
   ·exact rank_less hk hn (by decide +kernel) (by decide +kernel) _ _
  ·unfold rank
   rw[e11]
   show rankN 10 _ m<_
   obtain⟨hk,hn⟩:=end_in f4
   simp only[List.mem_cons,List.not_mem_nil,or_false]at hn
   rcases hn with hn|hn|hn|hn|hn
   ·exact rank_less hk hn (by decide +kernel) (by decide +kernel) _ _
   ·exact rank_less hk hn (by decide +kernel) (by decide +kernel) _ _
   ·exact rank_less hk hn (by decide +kernel) (by decide +kernel) _ _
   ·exact rank_less hk hn (by decide +kernel) (by decide +kernel) _ _
   ·exact rank_less hk hn (by decide +kernel) (by decide +kernel) _ _
 rw[if_neg e11]
 rw[BuD.inAfter.eq_1]
 refine rk_ite (fun _=> .no) fun f1=>rk_ite (fun _=> .no) fun f2 _=> ?_
 have f2':endF m [⟨#[104,116,109,108]⟩]=false:=by
  have:endF (BuD.blankM m) [⟨#[104,116,109,108]⟩]=endF m [⟨#[104,116,109,108]⟩]:=by unfold BuD.blankM;split <;>rfl
  rw[this]at f2
  simp at f2
  exact f2.1.2
 have hlb:(m.kind==2)=true→(if(m.kind==1)&& !(aheadF m.text).toList.isEmpty then(b.inBody ⟨1,⟨#[]⟩,[],false,aheadF m.text⟩).1 else b).S.l.length=b.S.l.length:=fun hk=>by
  have:m.kind=2:=by simpa using hk
  rw[this]
  rfl
 unfold rank
 show rankN 4 (if(m.kind==1)&& !(aheadF m.text).toList.isEmpty then(b.inBody ⟨1,⟨#[]⟩,[],false,aheadF m.text⟩).1 else b).S.l.length (BuD.blankM m)<_
 rw[rank_blank]
 have hq: ¬(b.mode=4∨b.mode=6∨b.mode=7∨b.mode=8∨b.mode=9∨b.mode=10∨b.mode=11):=by omega
 unfold rankN
 rw[if_neg e5,if_neg e0,if_neg e1,if_neg e2,if_neg e3,if_neg (show ¬((4:Int)=5) by decide),if_neg (show ¬((4:Int)=0) by decide),if_neg (show ¬((4:Int)=1) by decide),if_neg (show ¬((4:Int)=2) by decide),if_neg (show ¬((4:Int)=3) by decide)]
 cases ht:startF m [⟨#[116,97,98,108,101]⟩]with
 |true =>
  rw[hlb (by rw[(start_in ht).1];rfl),if_pos rfl,if_pos rfl,if_pos (Or.inl rfl),if_neg hq]
  omega
 |false =>
  rw[f2',if_neg (by decide),if_neg (by decide)]
  exact rkc_124 hq
theorem rank_mono (mode:Int) (m:BMark) {len len':Nat} (h:len≤len'):rankN mode len m≤rankN mode len' m:=by
 unfold rankN
 split
 ·exact Nat.le_refl _
 ·split
  ·exact Nat.le_refl _
  ·split
   ·exact Nat.le_refl _
   ·split
    ·exact Nat.le_refl _
    ·split
     ·exact Nat.le_refl _
     ·split
      ·omega
      ·exact Nat.le_refl _
theorem rank_le (b:BuD) (m:BMark) (h:b.S.l.length≤1900):rank b m≤8000:=by
 by_cases e:b.mode=5
 ·unfold rank
  rw[e]
  exact Nat.le_refl _
 ·exact Nat.le_of_lt (rank_five m e h)
theorem RK.less {c:BuD} {r:BuD×BMark×Bool} (h:RK c m r) (h1:c.mode=b.mode) (h2:c.S.l.length≤b.S.l.length):RK b m r:=fun hr=>by
 have:=h hr
 have h3:rank c m≤rank b m:=by
  unfold rank
  rw[h1]
  exact rank_mono _ _ h2
 omega
theorem rk_leaves (h:MD b): ∀l,(BuD.leavesR m b l).1.S.l.length≤1900→RK b m (BuD.leavesR m b l)
 | [],_=> .no
 | [_],_=> .no
 |x::y::r,hl=>by
  rw[BuD.leavesR]at hl ⊢
  by_cases e:spaceQ b.S.T x=0
  ·rw[if_pos e]at hl ⊢
   exact rk_rules h hl
  ·rw[if_neg e]at hl ⊢
   by_cases e1:(BuD.smallS (nameQ b.S.T x)).toList=m.name.toList
   ·rw[if_pos e1];exact .no
   ·rw[if_neg e1]at hl ⊢
    exact rk_leaves h (y::r) hl
theorem rk_once (h:MD b) (hl:(b.once m).1.S.l.length≤1900):RK b m (b.once m):=by
 rw[BuD.once.eq_1]at hl ⊢
 by_cases e:foreignF (pointF b.tops b.topn (attrsQ b.S.T b.top)) b.tops b.topn m.kind m.name=true
 ·rw[if_pos e]at hl ⊢
  rw[BuD.foreign.eq_1]at hl ⊢
  by_cases f1:(m.kind==1)=true
  ·rw[if_pos f1];exact .no
  rw[if_neg f1]at hl ⊢
  by_cases f2:breaksF m.kind m.name m.attrs=true
  ·rw[if_pos f2]at hl ⊢
   obtain⟨h1,h2,h3⟩:=mo_breakR b b.S.l.reverse
   refine(rk_rules (b:=BuD.breakR b b.S.l.reverse) (h.same h1 h2) hl).less h1 ?_
   rwa [List.length_reverse]at h3
  rw[if_neg f2]at hl ⊢
  by_cases f3:(m.kind==2)=true
  ·rw[if_pos f3];exact .no
  rw[if_neg f3]at hl ⊢
  by_cases f4:(m.kind==3)=true
  ·rw[if_pos f4]at hl ⊢
   exact rk_leaves h _ hl
  rw[if_neg f4];exact .no
 ·rw[if_neg e]at hl ⊢
  exact rk_rules h hl
theorem mo_flush (b:BuD):b.flush.mode=b.mode∧b.flush.back=b.back:=by
 unfold BuD.flush
 simp only
 split
 ·exact⟨rfl,rfl⟩
 ·split
  ·exact⟨mo_put _ _,mo_back _ _⟩
  ·refine⟨(mo_put _ _).trans (mo_restore _),(mo_back _ _).trans (mo_back _ _)⟩
end
def trimNL (s:ByteArray):ByteArray:=⟨(Lib.trimPrefix s.data.toList [10]).toArray⟩
namespace BuD
def headM (b:BuD) (m:BMark):BMark:=if b.skip then {m with text:=trimNL m.text}else m
def ready (b:BuD):BuD:= {b with raw:=0,name:=⟨#[]⟩,skip:=false}
noncomputable def doF (b:BuD) (m:BMark):BuD :=
 if m.kind<1∨6<m.kind then b
 else if m.kind=1 then(if(b.headM m).text.toList.isEmpty then b.ready else again 9000 b.ready (b.headM m))
 else if m.kind=4∨m.kind=5 then b.ready.flush else again 9000 b.ready.flush m
end BuD
end
end Go.Proofs.YtgepobccoffnaaaGreatDoor
