/- Texts joined for a claim: CuCu: plain laws and contracts. No conditions beyond those that each lemma types. -/
import Derived.Test.YteckmpcgdgknoaaGreatDoorQ40
set_option linter.unusedVariables false
set_option linter.unusedSimpArgs false
namespace Go.Proofs.YteckmpcgdgknoaaGreatDoor
open Go.RowKit Mem
section
section
variable {b x c d:BuD} {u v s t:ByteArray}
structure Vw (b x:BuD):Prop where
 mo:x.mode=b.mode
 on:x.on=b.on
 l:x.S.l=b.S.l
 els:Els b.S.T x.S.T
theorem Vw.top (h:Vw b x):x.top=b.top:=by unfold BuD.top;rw[h.l]
theorem Vw.names (h:Vw b x):x.tops=b.tops∧x.topn=b.topn:=by
 unfold BuD.tops BuD.topn
 rw[h.top,h.els.sp,h.els.nm]
 exact⟨rfl,rfl⟩
theorem Vw.fgn (h:Vw b x):x.fgn=b.fgn:=by
 unfold BuD.fgn
 rw[h.names.1,h.names.2,h.top,h.els.at']
theorem Vw.at' (h:Vw b x) (S:List ByteArray):x.at' S=b.at' S:=by unfold BuD.at';rw[h.names.1,h.names.2]
theorem put_S (b:BuD) (t:ByteArray):(b.putText t).S=⟨(textE b.S.T (placeQ b.S.T b.S.l b.on 0).1 (placeQ b.S.T b.S.l b.on 0).2 t).1,b.S.l,b.S.ent⟩:=BuD.keep_S _ _
theorem put_vw (h1:1≤b.S.T.nodes.length) (t:ByteArray):Vw b (b.putText t):=by
 obtain⟨k1,k2, -⟩:=({b with S:=⟨(textE b.S.T (placeQ b.S.T b.S.l b.on 0).1 (placeQ b.S.T b.S.l b.on 0).2 t).1,b.S.l,b.S.ent⟩,used:=b.used+t.size}:BuD).keep_all (textE b.S.T (placeQ b.S.T b.S.l b.on 0).1 (placeQ b.S.T b.S.l b.on 0).2 t).2
 exact⟨k2,k1,by rw[put_S],by rw[put_S];exact els_text h1 _ _ _⟩
theorem keep_err2 (h:c.err=d.err) (e:Int):(c.keep e).err=(d.keep e).err:=by
 unfold BuD.keep BuD.fail
 by_cases he:e=0
 ·rw[if_pos he,if_pos he];exact h
 ·rw[if_neg he,if_neg he]
  by_cases hd:d.err=0
  ·rw[if_pos hd,if_pos (h.trans hd)]
  ·rw[if_neg hd,if_neg (fun q=>hd (h.symm.trans q))];exact h
theorem keep_bad (h:b.err≠0) (e:Int):(b.keep e).err=b.err:=by
 unfold BuD.keep BuD.fail
 by_cases he:e=0
 ·rw[if_pos he]
 ·rw[if_neg he,if_neg h]
theorem put_two (h1:1≤b.S.T.nodes.length) (hs:s.size≠0) (ht:t.size≠0):((b.putText s).err=0→(b.putText s).putText t=b.putText (s++t))∧(b.putText (s++t)).err=(b.putText s).err:=by
 obtain⟨e1,e2⟩:=textE_two (T:=b.S.T) h1 (a:=(placeQ b.S.T b.S.l b.on 0).1) (b:=(placeQ b.S.T b.S.l b.on 0).2) (place_b h1) hs ht
 constructor
 ·intro he
  have h0:=(BuD.keep_err he).1
  have hv:=put_vw h1 s
  have hp:placeQ (b.putText s).S.T (b.putText s).S.l (b.putText s).on 0=placeQ b.S.T b.S.l b.on 0:=by rw[hv.l,hv.on];exact hv.els.place _ _ _
  have e3:b.putText s= {b with S:=⟨(textE b.S.T (placeQ b.S.T b.S.l b.on 0).1 (placeQ b.S.T b.S.l b.on 0).2 s).1,b.S.l,b.S.ent⟩,used:=b.used+s.size}:=by
   unfold BuD.putText
   simp only
   rw[h0]
   exact BuD.keep_zero _
  have e4:(b.putText s).putText t=({(b.putText s)with S:=⟨(textE (b.putText s).S.T (placeQ (b.putText s).S.T (b.putText s).S.l (b.putText s).on 0).1 (placeQ (b.putText s).S.T (b.putText s).S.l (b.putText s).on 0).2 t).1,(b.putText s).S.l,(b.putText s).S.ent⟩,used:=(b.putText s).used+t.size}:BuD).keep (textE (b.putText s).S.T (placeQ (b.putText s).S.T (b.putText s).S.l (b.putText s).on 0).1 (placeQ (b.putText s).S.T (b.putText s).S.l (b.putText s).on 0).2 t).2:=rfl
  rw[e4,hp,e3]
  simp only
  rw[e2 h0]
  unfold BuD.putText
  simp only
  rw[ByteArray.size_append,Nat.add_assoc]
 ·unfold BuD.putText
  simp only
  rw[e1]
  refine keep_err2 ?_ _
  rfl
theorem rest_eq (he:b.restore.err=0):b.restore= {b with S:=(restL b.on b.S).1}:=by
 have h0:=(BuD.keep_err he).1
 unfold BuD.restore
 rw[h0]
 exact BuD.keep_zero _
theorem rest_again (he:b.restore.err=0) (hl:x.S.l=b.restore.S.l) (hn:x.S.ent=b.restore.S.ent):x.restore=x:=by
 have h0:=(BuD.keep_err he).1
 rw[rest_eq he]at hl hn
 have hx:x.S=⟨x.S.T,(restL b.on b.S).1.l,(restL b.on b.S).1.ent⟩:=by rw[←hl,←hn]
 have h1:restL x.on x.S=(x.S,0):=by
  have:=restL_again (on:=b.on) (on':=x.on) (S:=b.S) h0 x.S.T
  rw[←hx]at this
  exact this
 unfold BuD.restore
 rw[h1]
 exact BuD.keep_zero _
theorem restR_last (on:Bool): ∀(r i:Nat) (S:AS),i+r=S.ent.length→0<r→(restR on r i S).2=0→ ∃y,(restR on r i S).1.l.getLast?=some y∧y∈(restR on r i S).1.ent
 |0,_,_,_,hr,_=>absurd hr (by omega)
 |r+1,i,S,hi,_,h=>by
  rw[restR]at h ⊢
  split at h
  ·rename_i h0
   rw[if_pos h0]
   have hm:(S.T.nodes.length:Int)-1<S.T.most:=by
    refine Classical.byContradiction fun hm=> ?_
    rw[insertL_no hm]at h0
    cases h0
   obtain⟨i1,i2, -⟩:=insertL_yes hm S.l on (spaceQ S.T (S.ent.getD i 0)) (nameQ S.T (S.ent.getD i 0)) (attrsQ S.T (S.ent.getD i 0))
   generalize insertL S.T S.l on (spaceQ S.T (S.ent.getD i 0)) (nameQ S.T (S.ent.getD i 0)) (attrsQ S.T (S.ent.getD i 0))=q at *
   rcases Nat.eq_zero_or_pos r with hr|hr
   ·subst hr
    refine⟨q.2.2.1,?_,?_⟩
    ·show q.2.1.getLast?=_
     rw[i1,i2]
     simp
    ·show q.2.2.1∈S.ent.set i q.2.2.1
     exact List.mem_set (by omega) _
   ·exact restR_last on r (i+1) ⟨q.1,q.2.1,S.ent.set i q.2.2.1⟩ (by show _=(S.ent.set i q.2.2.1).length;rw[List.length_set];omega) hr h
  ·rename_i h0
   exact absurd h h0
theorem rest_top (h:WC b) (he:b.restore.err=0):b.restore=b∨(b.restore.tops=0∧enL b.restore.topn=false):=by
 have h0:=(BuD.keep_err he).1
 have e:=rest_eq he
 have hle:=begF_le b.S.l b.S.ent
 rcases Nat.lt_or_ge (begF b.S.l b.S.ent) b.S.ent.length with hlt|hge
 ·right
  obtain⟨y,h1,h2⟩:=restR_last b.on (b.S.ent.length-begF b.S.l b.S.ent) (begF b.S.l b.S.ent) b.S (by omega) (by omega) h0
  obtain⟨h3, -⟩:=restL_c h.c b.on
  have ht:b.restore.top=y:=by
   unfold BuD.top
   rw[e]
   show(restL b.on b.S).1.l.getLast?.getD 0=y
   unfold restL
   rw[h1]
   rfl
  have ho:=h3.e y h2
  unfold BuD.tops BuD.topn
  rw[ht,e]
  exact ho.2
 ·left
  have h1:restL b.on b.S=(b.S,0):=by unfold restL;rw[show b.S.ent.length-begF b.S.l b.S.ent=0 by omega];rfl
  rw[e,h1]
theorem rest_len (h:WC b):1≤b.restore.S.T.nodes.length:=h.restore.c.len
theorem row_enL {y:ByteArray} (h:enL y=false):oneF rowS y=false:=by
 unfold enL at h
 rw[Bool.or_eq_false_iff]at h
 unfold oneF
 rw[show isW rowS y=isW rowN y from rfl,h.2]
 rfl
theorem cut_rest (h:WC b) (hu:u.size≠0) (hv:v.size≠0) (hf:b.fgn=false):(b.restore.putText (u++v)).err=(b.restore.putText u).err∧((b.restore.putText u).err=0→(b.restore.putText u).fgn=false∧(b.restore.putText u).restore=b.restore.putText u∧(b.restore.putText u).mode=b.mode∧(b.restore.putText u).on=b.on∧(b.at' rowS=false→(b.restore.putText u).at' rowS=false)∧(b.restore.putText u).putText v=b.restore.putText (u++v)):=by
 have hl:=rest_len h
 obtain⟨p1,p2⟩:=put_two (b:=b.restore) hl hu hv
 refine⟨p2,fun he=> ?_⟩
 have hw:=put_vw (b:=b.restore) hl u
 have her:b.restore.err=0:=(BuD.keep_err he).2
 obtain⟨k1,k2, -⟩:=({b with S:=(restL b.on b.S).1}:BuD).keep_all (restL b.on b.S).2
 refine⟨?_,rest_again her (by rw[put_S]) (by rw[put_S]),hw.mo.trans k2,hw.on.trans k1,fun ha=> ?_,p1 he⟩
 ·rw[hw.fgn]
  rcases rest_top h her with e|⟨e, -⟩
  ·rw[e];exact hf
  ·unfold BuD.fgn foreignF foreignB
   rw[e]
   rfl
 ·rw[hw.at']
  rcases rest_top h her with e|⟨e,e2⟩
  ·rw[e];exact ha
  ·unfold BuD.at'
   rw[row_enL e2,Bool.and_false]
def CutT (b:BuD) (u v:ByteArray):Prop:= ∃x w,b.tOnce u=(x,w,false)∧(x.err≠0→(b.tOnce (u++v)).1.err=x.err) ∧
 (x.err=0→x.mode=b.mode∧(x.tOnce v).1=(b.tOnce (u++v)).1∧(x.tOnce v).2.2=(b.tOnce (u++v)).2.2∧((x.tOnce v).2.2=true→(x.tOnce v).2.1=(b.tOnce (u++v)).2.1))
def CutG (b:BuD) (u v:ByteArray):Prop:= ∃d w,w.size≠0∧b.tOnce u=(d,w,true)∧b.tOnce (u++v)=(d,w++v,true)
theorem jlen (h:WC b∨W8 b):1≤b.S.T.nodes.length:=by
 rcases h with h|h
 ·exact h.c.len
 ·obtain⟨l,y, -,q, -⟩:=h.top
  omega
theorem tOnce_f (hf:b.fgn=true) (t:ByteArray):b.tOnce t=(b.putText t,t,false):=by unfold BuD.tOnce;rw[if_pos hf]
theorem ahead_empty (h:(aheadF v).toList.isEmpty=true):aheadF v=⟨#[]⟩:=by
 apply toList_inj
 rw[List.isEmpty_iff.1 h]
 kernel_rfl
theorem app_nil (u:ByteArray):u++⟨#[]⟩=u:=by
 apply toList_inj
 rw[toL_app,show(ByteArray.toList ⟨#[]⟩)= [] by kernel_rfl,List.append_nil]
theorem ne_empty (h:u.size≠0):u.toList.isEmpty=false:=by
 cases hl:u.toList with
 |nil=>rw[←size_toList,hl]at h;exact absurd rfl h
 |cons _ _=>rfl
theorem size_ne (h:u.toList.isEmpty=false):u.size≠0:=fun e=>by
 have:=List.eq_nil_of_length_eq_zero ((size_toList u).trans e)
 rw[this]at h
 cases h
theorem blk_two (h1:1≤b.S.T.nodes.length) (hu:u.size≠0) (hr:restE u=true):b.blk u=b.putText u∧(b.blk (u++v)).err=(b.blk u).err∧((b.blk u).err=0→(b.blk u).blk v=b.blk (u++v)):=by
 obtain⟨a1, -,a3⟩:=rest_all (v:=v) hr
 have e1:b.blk u=b.putText u:=by unfold BuD.blk;rw[a1,ne_empty hu];rfl
 have e2:b.blk (u++v)=b.putText (u++aheadF v):=by
  unfold BuD.blk
  rw[a3,if_neg (by rw[toL_app];cases hl:u.toList with|nil=>rw[←size_toList,hl]at hu;exact absurd rfl hu|cons _ _=>exact Bool.false_ne_true)]
 rw[e1,e2]
 by_cases ha:(aheadF v).toList.isEmpty=true
 ·rw[ahead_empty ha,app_nil]
  exact⟨rfl,rfl,fun _=>by unfold BuD.blk;rw[if_pos ha]⟩
 ·have ha':(aheadF v).toList.isEmpty=false:=by simpa using ha
  obtain⟨p1,p2⟩:=put_two h1 hu (size_ne ha')
  exact⟨rfl,p2,fun he=>by unfold BuD.blk;rw[if_neg ha];exact p1 he⟩
theorem blk_some (hr:restE u=false):b.blk (u++v)=b.blk u:=by
 unfold BuD.blk
 rw[(rest_some (v:=v) hr).2.2.1]
theorem blk_vw (h1:1≤b.S.T.nodes.length) (t:ByteArray):Vw b (b.blk t):=by
 unfold BuD.blk
 split
 ·exact⟨rfl,rfl,rfl,.refl _⟩
 ·exact put_vw h1 _
theorem ins_bad (h:b.err≠0) (nm:ByteArray) (al:List Pair):(b.ins nm al).err=b.err:=keep_bad (b:= {b with S:=⟨(insertL b.S.T b.S.l b.on 0 nm al).1,(insertL b.S.T b.S.l b.on 0 nm al).2.1,b.S.ent⟩}) h _
theorem cut_blk {f:BuD→BuD} {k:Int} (hb:b.mode=k) (hf:b.fgn=false) (h1:1≤b.S.T.nodes.length) (hu:u.size≠0)
 (he: ∀(c:BuD) (t:ByteArray),Vw b c→c.tOnce t=if restE t then(c.blk t,restF t,false)else(f (c.blk t),restF t,true)) (hE: ∀c:BuD,c.err≠0→(f c).err=c.err):CutT b u v∨CutG b u v:=by
 have hV:Vw b b:=⟨rfl,rfl,rfl,.refl _⟩
 cases hr:restE u with
 |true =>
  left
  obtain⟨e1,e2,e3⟩:=blk_two (v:=v) h1 hu hr
  obtain⟨-,a2, -⟩:=rest_all (v:=v) hr
  have hrr:restE (u++v)=restE v:=by unfold restE;rw[a2]
  refine⟨b.blk u,restF u,by rw[he b u hV,hr];rfl,fun hx=> ?_,fun hx=> ?_⟩
  ·rw[he b _ hV,hrr]
   split
   ·exact e2
   ·exact(hE _ (by rw[e2];exact hx)).trans e2
  ·have hw:=blk_vw h1 (b:=b) u
   refine⟨hw.mo,?_⟩
   rw[he b _ hV,he _ v hw,hrr,e3 hx,a2]
   exact⟨rfl,rfl,fun _=>rfl⟩
 |false =>
  right
  obtain⟨a1,a2, -,a4⟩:=rest_some (v:=v) hr
  exact⟨f (b.blk u),restF u,a4,by rw[he b u hV,hr];rfl,by rw[he b _ hV,a1,a2,blk_some hr];rfl⟩
theorem cut_drop {D:BuD} (he0:b.err=0) (he: ∀t:ByteArray,b.tOnce t=if restE t then(b,restF t,false)else(D,restF t,true)):CutT b u v∨CutG b u v:=by
 cases hr:restE u with
 |true =>
  left
  obtain⟨-,a2, -⟩:=rest_all (v:=v) hr
  have hrr:restE (u++v)=restE v:=by unfold restE;rw[a2]
  refine⟨b,restF u,by rw[he u,hr];rfl,fun hx=>absurd he0 hx,fun _=>⟨rfl,?_⟩⟩
  rw[he v,he (u++v),hrr,a2]
  exact⟨rfl,rfl,fun _=>rfl⟩
 |false =>
  right
  obtain⟨a1,a2, -,a4⟩:=rest_some (v:=v) hr
  exact⟨D,restF u,a4,by rw[he u,hr];rfl,by rw[he,a1,a2];rfl⟩
theorem cut_body (h:WC b) (hf:b.fgn=false) (hu:u.size≠0) (hv:v.size≠0) (he: ∀(c:BuD) (t:ByteArray),c.fgn=false→c.mode=b.mode→c.tOnce t=(c.restore.putText t,t,false)):CutT b u v:=by
 obtain⟨p1,p2⟩:=cut_rest h hu hv hf
 refine⟨_,_,he b u hf rfl,fun _=>by rw[he b _ hf rfl];exact p1,fun hx=> ?_⟩
 obtain⟨q1,q2,q3, -, -,q6⟩:=p2 hx
 refine⟨q3,?_⟩
 rw[he _ v q1 q3,he b _ hf rfl,q2,q6]
 exact⟨rfl,rfl,fun h=>by cases h⟩
theorem cut_put (hl:1≤b.S.T.nodes.length) (hu:u.size≠0) (hv:v.size≠0) (he: ∀(c:BuD) (t:ByteArray),Vw b c→c.tOnce t=(c.putText t,t,false)):CutT b u v:=by
 obtain⟨p1,p2⟩:=put_two hl hu hv
 have hV:Vw b b:=⟨rfl,rfl,rfl,.refl _⟩
 have hw:=put_vw hl u
 refine⟨_,_,he b u hV,fun _=>by rw[he b _ hV];exact p2,fun hx=>⟨hw.mo,?_⟩⟩
 rw[he _ v hw,he b _ hV,p1 hx]
 exact⟨rfl,rfl,fun h=>by cases h⟩
theorem onB_onB (b:BuD):(b.onB false).onB true=b.onB true:=rfl
theorem onB_same (h:b.on=true):b.onB true=b:=by
 cases b
 cases h
 rfl
theorem cut_table (h:WC b) (hf:b.fgn=false) (hu:u.size≠0) (hv:v.size≠0) (he0:b.err=0) (he: ∀(c:BuD) (t:ByteArray),c.fgn=false→c.mode=b.mode→c.tOnce t=c.tTab t):CutT b u v:=by
 cases ha:b.at' rowS with
 |true =>
  have e1: ∀c:BuD,c.at' rowS=true→ ∀t,c.tTab t=(c.waits t,t,false):=fun c hc t=>by unfold BuD.tTab;rw[if_pos hc]
  have hf2:(b.waits u).fgn=false:=hf
  have ha2:(b.waits u).at' rowS=true:=ha
  refine⟨_,_,(he b u hf rfl).trans (e1 b ha u),fun hx=>absurd he0 hx,fun _=>⟨rfl,?_⟩⟩
  rw[he _ v hf2 rfl,he b _ hf rfl,e1 _ ha2,e1 _ ha]
  refine⟨?_,rfl,fun h=>by cases h⟩
  show({b with wait:=b.wait++u++v}:BuD)= {b with wait:=b.wait++(u++v)}
  rw[ByteArray.append_assoc]
 |false =>
  have e1: ∀c:BuD,c.at' rowS=false→ ∀t,c.tTab t=(((c.onB true).restore.putText t).onB false,t,false):=fun c hc t=>by unfold BuD.tTab;rw[if_neg (by rw[hc];decide)]
  have h2:WC (b.onB true):=⟨h.c,h.hd,h.mo,h.ba⟩
  obtain⟨p1,p2⟩:=cut_rest (b:=b.onB true) h2 hu hv hf
  refine⟨_,_,(he b u hf rfl).trans (e1 b ha u),fun _=>by rw[he b _ hf rfl,e1 b ha];exact p1,fun hx=> ?_⟩
  obtain⟨q1,q2,q3,q4,q5,q6⟩:=p2 hx
  have hf2:(((b.onB true).restore.putText u).onB false).fgn=false:=q1
  have ha2:(((b.onB true).restore.putText u).onB false).at' rowS=false:=q5 ha
  refine⟨q3,?_⟩
  rw[he _ v hf2 q3,he b _ hf rfl,e1 _ ha2,e1 _ ha,onB_onB,onB_same q4,q2,q6]
  exact⟨rfl,rfl,fun h=>by cases h⟩
theorem cut_after (h:WC b) (hf:b.fgn=false) (hu:u.size≠0) (he: ∀(c:BuD) (t:ByteArray),c.fgn=false→c.mode=b.mode→c.tOnce t=if restE t then(c.blr t,restF t,false)else((c.blr t).goto 4,restF t,true)):CutT b u v∨CutG b u v:=by
 cases hr:restE u with
 |true =>
  left
  obtain⟨a1,a2,a3⟩:=rest_all (v:=v) hr
  have hrr:restE (u++v)=restE v:=by unfold restE;rw[a2]
  have e1:b.blr u=b.restore.putText u:=by unfold BuD.blr;rw[a1,ne_empty hu];rfl
  have e2:b.blr (u++v)=b.restore.putText (u++aheadF v):=by
   unfold BuD.blr
   rw[a3,if_neg (by rw[toL_app];cases hl:u.toList with|nil=>rw[←size_toList,hl]at hu;exact absurd rfl hu|cons _ _=>exact Bool.false_ne_true)]
  have key:(b.blr (u++v)).err=(b.blr u).err∧((b.blr u).err=0→(b.blr u).fgn=false∧(b.blr u).mode=b.mode∧(b.blr u).blr v=b.blr (u++v)):=by
   rw[e1,e2]
   by_cases hz:(aheadF v).toList.isEmpty=true
   ·rw[ahead_empty hz,app_nil]
    refine⟨rfl,fun hx=> ?_⟩
    obtain⟨-,p2⟩:=cut_rest (v:=u) h hu hu hf
    obtain⟨q1, -,q3, -⟩:=p2 hx
    exact⟨q1,q3,by unfold BuD.blr;rw[if_pos hz]⟩
   ·have hz':(aheadF v).toList.isEmpty=false:=by simpa using hz
    obtain⟨p1,p2⟩:=cut_rest h hu (size_ne hz') hf
    refine⟨p1,fun hx=> ?_⟩
    obtain⟨q1,q2,q3, -, -,q6⟩:=p2 hx
    exact⟨q1,q3,by unfold BuD.blr;rw[if_neg hz,q2,q6]⟩
  refine⟨b.blr u,restF u,by rw[he b u hf rfl,hr];rfl,fun hx=> ?_,fun hx=> ?_⟩
  ·rw[he b _ hf rfl]
   split
   ·exact key.1
   ·exact key.1
  ·obtain⟨k1,k2,k3⟩:=key.2 hx
   refine⟨k2,?_⟩
   rw[he _ v k1 k2,he b _ hf rfl,hrr,k3,a2]
   exact⟨rfl,rfl,fun _=>rfl⟩
 |false =>
  right
  obtain⟨a1,a2,a3,a4⟩:=rest_some (v:=v) hr
  have e:b.blr (u++v)=b.blr u:=by unfold BuD.blr;rw[a3]
  exact⟨(b.blr u).goto 4,restF u,a4,by rw[he b u hf rfl,hr];rfl,by rw[he b _ hf rfl,a1,a2,e];rfl⟩
theorem wc_of (h:WC b∨W8 b) (hm:b.mode≠8):WC b:=by
 rcases h with h|h
 ·exact h
 ·exact absurd h.md hm
theorem cut_once (h:WC b∨W8 b) (hu:u.size≠0) (hv:v.size≠0) (he:b.err=0):CutT b u v∨CutG b u v:=by
 have hl:=jlen h
 by_cases hf0:b.fgn=true
 ·exact .inl (cut_put hl hu hv fun c t hw=>tOnce_f (hw.fgn.trans hf0) t)
 have hf:b.fgn=false:=by simpa using hf0
 have hV: ∀ {c:BuD},Vw b c→c.fgn=false∧c.mode=b.mode:=fun hw=>⟨hw.fgn.trans hf,hw.mo⟩
 by_cases m0:b.mode=0
 ·exact cut_drop he fun t=>by unfold BuD.tOnce;rw[hf,m0];rfl
 by_cases m1:b.mode=1
 ·exact cut_drop he fun t=>by unfold BuD.tOnce;rw[hf,m1];rfl
 by_cases m2:b.mode=2
 ·exact cut_blk (f:=fun c=>c.pop.goto 3) m2 hf hl hu (fun c t hw=>by unfold BuD.tOnce;rw[(hV hw).1,(hV hw).2,m2];rfl) fun c _=>rfl
 by_cases m3:b.mode=3
 ·exact cut_blk (f:=fun c=>(c.ins (⟨#[98,111,100,121]⟩:ByteArray) []).goto 4) m3 hf hl hu (fun c t hw=>by unfold BuD.tOnce;rw[(hV hw).1,(hV hw).2,m3];rfl) fun c hc=>ins_bad hc _ _
 by_cases m4:b.mode=4
 ·exact .inl (cut_body (wc_of h (by omega)) hf hu hv fun c t k1 k2=>by unfold BuD.tOnce;rw[k1,k2,m4];rfl)
 by_cases m5:b.mode=5
 ·exact .inl (cut_put hl hu hv fun c t hw=>by unfold BuD.tOnce;rw[(hV hw).1,(hV hw).2,m5];rfl)
 by_cases m6:b.mode=6
 ·exact .inl (cut_table (wc_of h (by omega)) hf hu hv he fun c t k1 k2=>by unfold BuD.tOnce;rw[k1,k2,m6];rfl)
 by_cases m7:b.mode=7
 ·exact .inl (cut_body (wc_of h (by omega)) hf hu hv fun c t k1 k2=>by unfold BuD.tOnce;rw[k1,k2,m7];rfl)
 by_cases m8:b.mode=8
 ·rcases h with h|h
  ·exact absurd m8 h.mo
  ·have hat:b.at' [⟨#[99,111,108,103,114,111,117,112]⟩]=true:=h.cg.2
   refine cut_blk (f:=fun c=>c.pop.goto 6) m8 hf hl hu (fun c t hw=> ?_) fun c _=>rfl
   have hl2:1≤c.S.T.nodes.length∨True:= .inr trivial
   have h2:(c.blk t).at' [⟨#[99,111,108,103,114,111,117,112]⟩]=true:=by
    unfold BuD.blk
    split
    ·rw[hw.at'];exact hat
    ·have hc8:Vw c (c.putText (aheadF t))∨c.S.T.nodes.length=0:=by
      rcases Nat.eq_zero_or_pos c.S.T.nodes.length with hz|hz
      ·exact .inr hz
      ·exact .inl (put_vw hz _)
     rcases hc8 with k|k
     ·rw[k.at',hw.at'];exact hat
     ·exfalso
      have hn:=hat
      rw[←hw.at']at hn
      unfold BuD.at' BuD.topn at hn
      have he2:elemF c.S.T c.top=false:=by
       unfold elemF isF
       rw[k]
       cases hq:decide (1≤c.top)with
       |false=>rfl
       |true =>
        rw[show decide (c.top<((0:Nat):Int))=false by have:=of_decide_eq_true hq;simp;omega]
        rfl
      unfold nameQ at hn
      rw[he2,if_neg (by decide),show oneF [⟨#[99,111,108,103,114,111,117,112]⟩] ⟨#[]⟩=false by kernel_rfl,Bool.and_false]at hn
      cases hn
   unfold BuD.tOnce
   rw[(hV hw).1,(hV hw).2,m8,h2]
   rfl
 by_cases m9:b.mode=9
 ·exact .inl (cut_table (wc_of h (by omega)) hf hu hv he fun c t k1 k2=>by unfold BuD.tOnce;rw[k1,k2,m9];rfl)
 by_cases mA:b.mode=10
 ·exact .inl (cut_table (wc_of h (by omega)) hf hu hv he fun c t k1 k2=>by unfold BuD.tOnce;rw[k1,k2,mA];rfl)
 by_cases mB:b.mode=11
 ·exact .inl (cut_body (wc_of h (by omega)) hf hu hv fun c t k1 k2=>by unfold BuD.tOnce;rw[k1,k2,mB];rfl)
 ·refine cut_after (wc_of h m8) hf hu fun c t k1 k2=> ?_
  unfold BuD.tOnce
  rw[k1,k2,if_neg (by decide),if_neg m0,if_neg m1,if_neg m2,if_neg m3,if_neg m4,if_neg m5,if_neg m6,if_neg m7,if_neg m8,if_neg m9,if_neg mA,if_neg mB]
end
end
end Go.Proofs.YteckmpcgdgknoaaGreatDoor
