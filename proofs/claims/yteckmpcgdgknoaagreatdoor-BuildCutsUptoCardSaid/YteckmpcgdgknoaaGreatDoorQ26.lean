/- Texts joined for a claim: BuUw: plain laws and contracts. No conditions beyond those that each lemma types. -/
import Derived.Test.YteckmpcgdgknoaaGreatDoorQ19
set_option linter.unusedVariables false
set_option linter.unusedSimpArgs false
namespace Go.Proofs.YteckmpcgdgknoaaGreatDoor
open Go.RowKit Mem
section
def uw (b:BuD):Nat:=b.used+b.wait.size
section
variable {b:BuD} {m:BMark}
theorem uw_keep (b:BuD) (e:Int):uw (b.keep e)=uw b:=by
 obtain⟨-, -, -, -,h1, -, -, -,h2⟩:=b.keep_all e
 unfold uw
 rw[h1,h2]
theorem uw_insSp (b:BuD) (sp:Int) (nm:ByteArray) (l:List Pair):uw (b.insSp sp nm l).1=uw b:=uw_keep _ _
theorem uw_ins (b:BuD) (nm:ByteArray) (l:List Pair):uw (b.ins nm l)=uw b:=uw_keep _ _
theorem uw_put (b:BuD) (t:ByteArray):uw (b.putText t)=uw b+t.size:=by
 refine(uw_keep _ _).trans ?_
 show b.used+t.size+b.wait.size=b.used+b.wait.size+t.size
 omega
theorem uw_restore (b:BuD):uw b.restore=uw b:=uw_keep _ _
theorem uw_adopt (b:BuD) (nm:ByteArray):uw (b.adopt nm)=uw b:=uw_keep _ _
theorem uw_raws (b:BuD) (m:BMark) (k:Int):uw (b.raws m k)=uw b:=uw_ins b m.name m.attrs
theorem uw_single (b:BuD) (nm:ByteArray) (l:List Pair):uw (b.single nm l)=uw b:=uw_ins b nm l
theorem uw_headed (b:BuD) (l:List Pair):uw (b.headed l)=uw b:=uw_ins b _ l
theorem uw_heads (b:BuD) (m:BMark):uw (b.heads m).1=uw b:=by
 unfold BuD.heads
 split
 ·exact uw_ins b m.name m.attrs
 ·split
  ·exact uw_raws b m 1
  ·split
   ·exact uw_raws b m 2
   ·rfl
theorem uw_paragraph (b:BuD):uw b.paragraph=uw b:=by unfold BuD.paragraph;split <;>rfl
theorem uw_itemR (names:List ByteArray) (b:BuD): ∀l,uw (BuD.itemR names b l)=uw b
 | []=>rfl
 |x::r=>by
  rw[BuD.itemR]
  split
  ·rfl
  ·split
   ·rfl
   ·exact uw_itemR names b r
theorem uw_otherR (want:ByteArray) (b:BuD): ∀l,uw (BuD.otherR want b l)=uw b
 | []=>rfl
 |x::r=>by
  rw[BuD.otherR]
  split
  ·rfl
  ·split
   ·rfl
   ·exact uw_otherR want b r
theorem uw_breakR (b:BuD): ∀l,uw (BuD.breakR b l)=uw b
 | []=>rfl
 |x::r=>by
  rw[BuD.breakR]
  split
  ·rfl
  ·exact uw_breakR b r
theorem uw_item (b:BuD) (names:List ByteArray):uw (b.item names)=uw b:=uw_itemR _ _ _
theorem uw_other (b:BuD) (want:ByteArray):uw (b.other want)=uw b:=uw_otherR _ _ _
theorem uw_forms (b:BuD) (m:BMark):uw (b.forms m)=uw b:=by
 unfold BuD.forms
 simp only
 split
 ·exact(uw_ins _ _ _).trans (uw_restore b)
 ·exact(uw_ins b.restore m.name m.attrs).trans (uw_restore b)
theorem uw_verbatim (b:BuD) (m:BMark):uw (b.verbatim m)=uw b:=by
 unfold BuD.verbatim
 split
 ·exact uw_raws b m 1
 ·split
  ·exact(uw_raws _ m 2).trans ((uw_restore _).trans (uw_paragraph b))
  ·exact uw_raws b m 2
theorem uw_phrases (b:BuD) (m:BMark):uw (b.phrases m)=uw b:=by
 have h1: ∀c:BuD,uw c=uw b→uw (if oneF [⟨#[97,112,112,108,101,116]⟩,⟨#[109,97,114,113,117,101,101]⟩,⟨#[111,98,106,101,99,116]⟩] m.name then(c.restore.ins m.name m.attrs).lmark else c.restore.ins m.name m.attrs)=uw b:=fun c hc=>by
  have h2:uw (c.restore.ins m.name m.attrs)=uw b:=(uw_ins _ _ _).trans ((uw_restore c).trans hc)
  split
  ·exact h2
  ·exact h2
 unfold BuD.phrases
 simp only
 refine h1 _ ?_
 split
 ·split <;>rfl
 ·split
  ·split <;>rfl
  ·rfl
theorem uw_alien (b:BuD) (m:BMark) (sp:Int):uw (b.alien m sp)=uw b:=by
 unfold BuD.alien
 simp only
 split
 ·exact uw_insSp b sp _ _
 ·exact uw_insSp b sp _ _
theorem uw_blocks (b:BuD) (m:BMark):uw (b.blocks m)=uw b:=by
 have h1: ∀c:BuD,uw c=uw b→uw (c.ins m.name m.attrs)=uw b:=fun c hc=>(uw_ins _ _ _).trans hc
 have h2:uw (BuD.paragraph (if m.name.toList==([108,105]:List UInt8)then b.item [⟨#[108,105]⟩]else if(m.name.toList==([100,100]:List UInt8))||(m.name.toList==([100,116]:List UInt8))then b.item [⟨#[100,100]⟩,⟨#[100,116]⟩]else b))=uw b:=by
  refine(uw_paragraph _).trans ?_
  split
  ·exact uw_item b _
  ·split
   ·exact uw_item b _
   ·rfl
 have h3: ∀c:BuD,uw c=uw b→uw (if(m.name.toList==([112,114,101]:List UInt8))||(m.name.toList==([108,105,115,116,105,110,103]:List UInt8))then c.setSkip true else if m.name.toList==([116,97,98,108,101]:List UInt8)then c.goto 6 else c)=uw b:=fun c hc=>by
  split
  ·exact hc
  ·split <;>exact hc
 unfold BuD.blocks
 simp only
 generalize BuD.paragraph (if m.name.toList==([108,105]:List UInt8)then b.item [⟨#[108,105]⟩]else if(m.name.toList==([100,100]:List UInt8))||(m.name.toList==([100,116]:List UInt8))then b.item [⟨#[100,100]⟩,⟨#[100,116]⟩]else b)=b2 at h2 ⊢
 have h4:uw (if headingB m.name&&b2.at' headN then b2.pop else b2)=uw b:=by split <;>exact h2
 generalize (if headingB m.name&&b2.at' headN then b2.pop else b2)=b3 at h4 ⊢
 split
 ·exact(uw_single _ _ _).trans h2
 ·exact h3 _ (h1 _ h4)
theorem uw_ite {p:Prop} [Decidable p] {r q:BuD×BMark} {n:Nat} (h1:uw r.1=n) (h2:uw q.1=n):uw (if p then r else q).1=n:=by
 by_cases h:p
 ·rw[if_pos h];exact h1
 ·rw[if_neg h];exact h2
theorem uw_iteb {p:Prop} [Decidable p] {r q:BuD} {n:Nat} (h1:uw r=n) (h2:uw q=n):uw (if p then r else q)=n:=by
 by_cases h:p
 ·rw[if_pos h];exact h1
 ·rw[if_neg h];exact h2
theorem uw_opens (b:BuD) (m:BMark):uw (b.opens m).1=uw b:=by
 rw[BuD.opens.eq_1]
 refine uw_ite rfl (uw_ite (uw_heads b m) (uw_ite (uw_blocks b m) (uw_ite ?_ (uw_ite (uw_forms b m) (uw_ite ?_ (uw_ite (uw_single b _ _) (uw_ite ((uw_single _ _ _).trans (uw_restore b)) (uw_ite (uw_verbatim b m) (uw_ite ((uw_alien _ _ _).trans (uw_restore b)) (uw_phrases b m))))))))))
 ·exact(uw_forms _ _).trans (uw_iteb rfl (uw_adopt b _))
 ·exact(uw_forms _ _).trans (uw_iteb ((uw_adopt _ _).trans (uw_restore b)) (uw_restore b))
theorem uw_ends (b:BuD) (sc:Int) (but:ByteArray) (names:List ByteArray):uw (b.ends sc but names)=uw b:=by unfold BuD.ends;split <;>rfl
theorem uw_closes (b:BuD) (m:BMark):uw (b.closes m).1=uw b:=by
 unfold BuD.closes
 split
 ·split <;>rfl
 ·split
  ·refine(uw_paragraph _).trans ?_
   split
   ·rfl
   ·exact uw_ins b _ _
  ·split
   ·exact uw_ends b _ _ _
   ·split
    ·exact uw_ends b _ _ _
    ·split
     ·exact uw_ends b _ _ _
     ·split
      ·exact uw_ends b _ _ _
      ·split
       ·show uw (if _ then _ else _)=uw b
        split
        ·exact(uw_other _ _).trans (uw_adopt b _)
        ·exact uw_adopt b _
       ·split
        ·show uw (if _ then _ else _)=uw b
         split
         ·exact uw_ends b _ _ _
         ·rfl
        ·split
         ·exact(uw_single _ _ _).trans (uw_restore b)
         ·exact uw_other b _
def UL (b:BuD) (m:BMark) (r:BuD×BMark×Bool):Prop:=uw r.1≤uw b+m.text.size∧(r.2.2=true→uw r.1+r.2.1.text.size≤uw b+m.text.size)
theorem UL.same {r:BuD×BMark×Bool} (h1:uw r.1=uw b) (h2:r.2.1.text=m.text):UL b m r:=⟨by rw[h1];omega,fun _=>by rw[h1,h2];exact Nat.le_refl _⟩
theorem ul_inBody (b:BuD) (m:BMark):UL b m (b.inBody m):=by
 unfold BuD.inBody
 split
 ·refine⟨?_,fun h=>by cases h⟩
  show uw (b.restore.putText m.text)≤_
  rw[uw_put,uw_restore]
  exact Nat.le_refl _
 ·split
  ·refine⟨?_,fun h=>by cases h⟩
   show uw (b.opens m).1≤_
   rw[uw_opens]
   omega
  ·split
   ·exact UL.same (uw_closes b m) rfl
   ·exact UL.same rfl rfl
theorem mkB_len (l:List UInt8):(mkB l).size=l.length:=by simp[mkB,ByteArray.size]
theorem sp_size (s:ByteArray):(aheadF s).size+(restF s).size=s.size:=by
 unfold aheadF restF
 rw[mkB_len,mkB_len,←List.length_append,List.takeWhile_append_dropWhile,size_toList]
theorem size_empty {s:ByteArray} (h:s.toList.isEmpty=true):s.size=0:=by
 rw[←size_toList]
 rw[List.isEmpty_iff]at h
 rw[h]
 rfl
theorem uw_blank (b:BuD) (m:BMark):uw (b.blankB m)+(BuD.blankM m).text.size=uw b+m.text.size:=by
 have h:=sp_size m.text
 unfold BuD.blankB BuD.blankM
 split
 ·show uw (if _ then _ else _)+(restF m.text).size=_
  split
  ·rename_i h1
   have:=size_empty h1
   omega
  ·rw[uw_put]
   omega
 ·rfl
theorem blank_text (m:BMark):(BuD.blankM m).text.size≤m.text.size:=by
 have h:=sp_size m.text
 unfold BuD.blankM
 split
 ·show(restF m.text).size≤_
  omega
 ·exact Nat.le_refl _
theorem ul_ite {p:Prop} [Decidable p] {r q:BuD×BMark×Bool} (h1:UL b m r) (h2:UL b m q):UL b m (if p then r else q):=by
 by_cases h:p
 ·rw[if_pos h];exact h1
 ·rw[if_neg h];exact h2
theorem UL.blank {r:BuD×BMark×Bool} (h1:uw r.1=uw (b.blankB m)) (h2:r.2.1.text=(BuD.blankM m).text):UL b m r:=by
 have h:=uw_blank b m
 exact⟨by rw[h1];omega,fun _=>by rw[h1,h2];omega⟩
theorem UL.less {r:BuD×BMark×Bool} (h1:uw r.1=uw b) (h2:r.2.1.text.size≤m.text.size):UL b m r:=⟨by rw[h1];omega,fun _=>by rw[h1];omega⟩
theorem ul_inStart (b:BuD) (m:BMark):UL b m (b.inStart m):=by
 have ht:=blank_text m
 unfold BuD.inStart
 simp only
 refine ul_ite (.less rfl ht) (ul_ite (.less rfl ht) (ul_ite (.less (uw_ins _ _ _) ht) (.less (uw_ins _ _ _) ht)))
theorem ul_inAhead (b:BuD) (m:BMark):UL b m (b.inAhead m):=by
 have ht:=blank_text m
 unfold BuD.inAhead
 simp only
 refine ul_ite (.less rfl ht) (ul_ite (.less rfl ht) (ul_ite (.less (uw_headed _ _) ht) (.less (uw_headed _ _) ht)))
theorem ul_inHead (b:BuD) (m:BMark):UL b m (b.inHead m):=by
 unfold BuD.inHead
 simp only
 refine ul_ite (.blank rfl rfl) (ul_ite (.blank (uw_heads _ _) rfl) (ul_ite (.blank rfl rfl) (ul_ite (.blank rfl rfl) (ul_ite (.blank rfl rfl) (.blank rfl rfl)))))
theorem ul_inBehind (b:BuD) (m:BMark):UL b m (b.inBehind m):=by
 unfold BuD.inBehind
 simp only
 refine ul_ite (.blank rfl rfl) (ul_ite (.blank rfl rfl) (ul_ite (.blank (uw_ins _ _ _) rfl) (ul_ite (.blank ?_ rfl) (ul_ite (.blank rfl rfl) (.blank (uw_ins _ _ _) rfl)))))
 exact uw_heads ((b.blankB m).push (b.blankB m).head) (BuD.blankM m)
theorem ul_inText (b:BuD) (m:BMark):UL b m (b.inText m):=by
 unfold BuD.inText
 refine ul_ite ⟨?_,fun h=>by cases h⟩ (.same rfl rfl)
 show uw (b.putText m.text)≤_
 rw[uw_put]
 exact Nat.le_refl _
theorem ul_astray (b:BuD) (m:BMark):UL b m (b.astray m):=ul_inBody {b with on:=true} m
theorem ul_inTable (b:BuD) (m:BMark):UL b m (b.inTable m):=by
 unfold BuD.inTable
 refine ul_ite ⟨?_,fun h=>by cases h⟩ (ul_ite (.same (uw_ins _ _ _) rfl) (ul_ite (.same (uw_ins _ _ _) rfl) (ul_ite (.same (uw_ins _ _ _) rfl) (ul_ite (.same (uw_ins _ _ _) rfl) (ul_ite (.same (uw_ins _ _ _) rfl) (ul_ite (ul_ite (.same rfl rfl) (.same rfl rfl)) (ul_ite (.same rfl rfl) (ul_ite (.same (uw_heads b m) rfl) (ul_ite (.same rfl rfl) (ul_astray b m))))))))))
 show b.used+(b.wait++m.text).size≤b.used+b.wait.size+m.text.size
 rw[ByteArray.size_append]
 omega
theorem ul_inCaption (b:BuD) (m:BMark):UL b m (b.inCaption m):=by
 unfold BuD.inCaption
 exact ul_ite (ul_ite (.same rfl rfl) (.same rfl rfl)) (ul_ite (.same rfl rfl) (ul_inBody b m))
theorem ul_inColumns (b:BuD) (m:BMark):UL b m (b.inColumns m):=by
 unfold BuD.inColumns
 simp only
 exact ul_ite (.blank rfl rfl) (ul_ite (.blank rfl rfl) (ul_ite (.blank (uw_single _ _ _) rfl) (ul_ite (.blank rfl rfl) (.blank rfl rfl))))
theorem ul_inRows (b:BuD) (m:BMark):UL b m (b.inRows m):=by
 unfold BuD.inRows
 simp only
 exact ul_ite (ul_ite (.same (uw_ins _ _ _) rfl) (.same (uw_ins _ _ _) rfl)) (ul_ite (ul_ite (.same rfl rfl) (.same rfl rfl)) (ul_ite (ul_ite (.same rfl rfl) (.same rfl rfl)) (ul_ite (.same rfl rfl) (ul_inTable b m))))
theorem ul_inRow (b:BuD) (m:BMark):UL b m (b.inRow m):=by
 unfold BuD.inRow
 exact ul_ite (.same (uw_ins (b.clear' _) m.name m.attrs) rfl) (ul_ite (.same rfl rfl) (ul_ite (ul_ite (.same rfl rfl) (.same rfl rfl)) (ul_ite (.same rfl rfl) (ul_inTable b m))))
theorem ul_inCell (b:BuD) (m:BMark):UL b m (b.inCell m):=by
 unfold BuD.inCell
 exact ul_ite (ul_ite (.same rfl rfl) (.same rfl rfl)) (ul_ite (ul_ite (.same rfl rfl) (.same rfl rfl)) (ul_ite (.same rfl rfl) (ul_ite (ul_ite (.same rfl rfl) (.same rfl rfl)) (ul_inBody b m))))
theorem ul_inAfter (b:BuD) (m:BMark):UL b m (b.inAfter m):=by
 have h:=sp_size m.text
 have hb:uw (if(m.kind==1)&& !(aheadF m.text).toList.isEmpty then(b.inBody ⟨1,⟨#[]⟩,[],false,aheadF m.text⟩).1 else b)+(BuD.blankM m).text.size≤uw b+m.text.size:=by
  by_cases hk:m.kind==1
  ·have e:(BuD.blankM m).text=restF m.text:=by unfold BuD.blankM;rw[if_pos hk]
   rw[e]
   split
   ·have:=(ul_inBody b ⟨1,⟨#[]⟩,[],false,aheadF m.text⟩).1
    have h2:(⟨1,⟨#[]⟩,[],false,aheadF m.text⟩:BMark).text.size=(aheadF m.text).size:=rfl
    omega
   ·omega
  ·have e:(BuD.blankM m)=m:=by unfold BuD.blankM;rw[if_neg hk]
   rw[e,if_neg (by simp[hk])]
   exact Nat.le_refl _
 unfold BuD.inAfter
 simp only
 generalize (if(m.kind==1)&& !(aheadF m.text).toList.isEmpty then(b.inBody ⟨1,⟨#[]⟩,[],false,aheadF m.text⟩).1 else b)=c at hb ⊢
 have hr: ∀(k:Bool) (d:BuD),uw d=uw c→UL b m (d,BuD.blankM m,k):=fun k d hd=>⟨by show uw d≤_;omega,fun _=>by show uw d+(BuD.blankM m).text.size≤_;omega⟩
 exact ul_ite (hr _ _ rfl) (ul_ite (hr _ _ rfl) (hr _ _ rfl))
theorem ul_rules (b:BuD) (m:BMark):UL b m (b.rules m):=by
 unfold BuD.rules
 exact ul_ite (ul_inStart b m) (ul_ite (ul_inAhead b m) (ul_ite (ul_inHead b m) (ul_ite (ul_inBehind b m) (ul_ite (ul_inBody b m) (ul_ite (ul_inText b m) (ul_ite (ul_inTable b m) (ul_ite (ul_inCaption b m) (ul_ite (ul_inColumns b m) (ul_ite (ul_inRows b m) (ul_ite (ul_inRow b m) (ul_ite (ul_inCell b m) (ul_inAfter b m))))))))))))
theorem ul_leaves (m:BMark) (b:BuD): ∀l,UL b m (BuD.leavesR m b l)
 | []=> .same rfl rfl
 | [_]=> .same rfl rfl
 |x::y::r=>by
  rw[BuD.leavesR]
  exact ul_ite (ul_rules b m) (ul_ite (.same rfl rfl) (ul_leaves m b (y::r)))
theorem ul_foreign (b:BuD) (m:BMark) (sp:Int):UL b m (b.foreign m sp):=by
 unfold BuD.foreign
 refine ul_ite ⟨?_,fun h=>by cases h⟩ (ul_ite ?_ (ul_ite (.same (uw_alien b m sp) rfl) (ul_ite (ul_leaves m b _) (.same rfl rfl))))
 ·show uw (b.putText m.text)≤_
  rw[uw_put]
  exact Nat.le_refl _
 ·have h:=ul_rules (BuD.breakR b b.S.l.reverse) m
  unfold UL at h ⊢
  rw[uw_breakR]at h
  exact h
theorem ul_once (b:BuD) (m:BMark):UL b m (b.once m):=by
 unfold BuD.once
 exact ul_ite (ul_foreign b m _) (ul_rules b m)
theorem uw_flush (b:BuD):uw b.flush≤uw b:=by
 have h1:uw ({b with wait:=⟨#[]⟩}:BuD)+b.wait.size=uw b:=by
  show b.used+0+b.wait.size=b.used+b.wait.size
  omega
 unfold BuD.flush
 simp only
 split
 ·omega
 ·split
  ·rw[uw_put];omega
  ·have:=(ul_astray ({b with wait:=⟨#[]⟩}:BuD) ⟨1,⟨#[]⟩,[],false,b.wait⟩).1
   have h2:(⟨1,⟨#[]⟩,[],false,b.wait⟩:BMark).text.size=b.wait.size:=rfl
   omega
end
end
end Go.Proofs.YteckmpcgdgknoaaGreatDoor
