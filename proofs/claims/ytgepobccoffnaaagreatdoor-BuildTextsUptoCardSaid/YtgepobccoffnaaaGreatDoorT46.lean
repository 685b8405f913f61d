/- Texts joined for a claim: TxD, TxE: plain laws and contracts. No conditions beyond those that each lemma types. -/
import Derived.Test.YtgepobccoffnaaaGreatDoorT19
import Derived.Test.YtgepobccoffnaaaGreatDoorT45
import Derived.Test.YtgepobccoffnaaaGreatDoorT39
set_option linter.unusedVariables false
set_option linter.unusedSimpArgs false
namespace Go.Proofs.YtgepobccoffnaaaGreatDoor
open Go.RowKit Mem
section
def SZ (T:TreeD):Prop:=True∧ ∀d∈T.nodes,d.space=0
section
variable {T:TreeD}
theorem attrsQ_sz (h:SZ T) (n:Int):spaceQ T n=0:=by
 unfold spaceQ
 split
 ·cases e:T.nodes[n.toNat]? with
  |none=>rfl
  |some d=>exact h.2 d (List.mem_of_getElem? e)
 ·rfl
theorem addF_sz (h:SZ T) {d:ND} (hd:d.space=0):SZ (addF T d):=⟨h.1,fun x hx=>by
 rcases List.mem_append.1 hx with hx|hx
 ·exact h.2 x hx
 ·rw[List.mem_singleton.1 hx];exact hd⟩
theorem modN_sz (h:SZ T) (n:Int) {f:ND→ND} (hf: ∀d,(f d).space=d.space):SZ (modN T n f):=⟨h.1,fun x hx=>by
 obtain⟨i,hi⟩:=List.mem_iff_getElem?.1 hx
 simp only[modN,List.getElem?_modify]at hi
 cases e:T.nodes[i]? with
 |none=>rw[e]at hi;cases hi
 |some d =>
  rw[e]at hi
  have hd:=h.2 d (List.mem_of_getElem? e)
  simp only[Option.map_eq_map,Option.map_some,Option.some.injEq]at hi
  rw[←hi]
  split
  ·rw[hf d];exact hd
  ·exact hd⟩
theorem mkF_sz (h:SZ T) {d:ND} (hd:d.space=0):SZ (mkF T d).1:=by
 unfold mkF
 split
 ·exact addF_sz h hd
 ·exact h
theorem likeF_sz (h:SZ T) (n:Int):SZ (likeF T n).1:=by
 unfold likeF
 split
 ·exact mkF_sz h (attrsQ_sz h n)
 ·exact h
theorem insertF_sz (h:SZ T) (a:Int) (i:Nat) (n:Int):SZ (insertF T a i n):=modN_sz (f:=setParent a) (modN_sz (f:=setKids _) h _ fun _=>rfl) _ fun _=>rfl
theorem takeF_sz (h:SZ T) (n:Int):SZ (takeF T n):=by
 refine modN_sz (f:=setParent (-1)) ?_ _ fun _=>rfl
 unfold kidsOff
 split
 ·exact modN_sz (f:=setKids _) h _ fun _=>rfl
 ·exact h
theorem putE_sz (h:SZ T) (a b n:Int):SZ (putE T a b n).1:=by
 unfold putE
 split
 ·exact insertF_sz (takeF_sz h n) _ _ _
 ·exact h
theorem moveF_sz (b:Int): ∀(l:List Int) (U:TreeD),SZ U→SZ (moveF U b l)
 | [],_,h=>h
 |_::r,_,h=>moveF_sz b r _ (putE_sz h _ _ _)
theorem moveE_sz (h:SZ T) (a b:Int):SZ (moveE T a b).1:=by
 unfold moveE
 split
 ·exact moveF_sz _ _ _ h
 ·exact h
theorem textE_sz (h:SZ T) (a b:Int) (s:ByteArray):SZ (textE T a b s).1:=by
 unfold textE
 split
 ·split
  ·exact h
  ·unfold textAt
   split
   ·exact modN_sz (f:=addText s) h _ fun _=>rfl
   ·split
    ·exact insertF_sz (addF_sz h rfl) _ _ _
    ·exact h
 ·exact h
theorem insertL_sz (h:SZ T) (l:List Int) (on:Bool) {sp:Int} (nm:ByteArray) (at':List Pair) (ha:sp=0):SZ (insertL T l on sp nm at').1:=by
 unfold insertL
 simp only
 split
 ·exact putE_sz (mkF_sz h ha) _ _ _
 ·exact mkF_sz h ha
theorem turnR_sz (b:Int): ∀(r:List Int) (c:Nat) (S:TS),SZ S.T→SZ (turnR b r c S).1.T
 | [],_,_,h=>h
 |x::r,c,S,h=>by
  rw[turnR]
  split
  ·split
   ·exact turnR_sz b r (c+1) _ h
   ·split
    ·exact turnR_sz b r (c+1) _ (putE_sz (likeF_sz h x) _ _ _)
    ·exact likeF_sz h x
  ·exact turnR_sz b r (c+1) _ h
theorem closeL_sz (h:SZ T) (l ent:List Int) (f b keep:Int):SZ (closeL T l ent f b keep).1:=by
 unfold closeL
 split
 ·exact putE_sz (moveE_sz (likeF_sz h f) _ _) _ _ _
 ·exact likeF_sz h f
theorem turnL_sz (h:SZ T) (l ent:List Int) (on:Bool) (f b:Int):SZ (turnL T l ent on f b).1:=by
 have h1:=turnR_sz b (betweenF l f b).reverse 1 ⟨T,l,ent,rfind ent f,b⟩ h
 unfold turnL
 simp only
 split
 ·exact closeL_sz (putE_sz h1 _ _ _) _ _ _ _ _
 ·exact h1
theorem adoptR_sz (on:Bool) (name:ByteArray): ∀(r t:Nat) (S:AS),SZ S.T→SZ (adoptR on name r t S).1.T
 |0,_,_,h=>h
 |r+1,t,S,h=>by
  rw[adoptR]
  split
  ·exact h
  ·split
   ·exact h
   ·split
    ·exact h
    ·split
     ·exact h
     ·have h1:=turnL_sz h S.l S.ent on (findF S.T S.ent name) (blockF S.T S.l (findF S.T S.ent name))
      split
      ·exact adoptR_sz on name r (t+1) ⟨_,_,_⟩ h1
      ·exact h1
theorem adoptL_sz {S:AS} (h:SZ S.T) (on:Bool) (name:ByteArray):SZ (adoptL on name S).1.T:=by
 unfold adoptL
 split
 ·exact h
 ·exact adoptR_sz on name 8 0 S h
theorem restR_sz (on:Bool): ∀(r i:Nat) (S:AS),SZ S.T→SZ (restR on r i S).1.T
 |0,_,_,h=>h
 |r+1,i,S,h=>by
  rw[restR]
  have h1:=insertL_sz h S.l on (nameQ S.T (S.ent.getD i 0)) (attrsQ S.T (S.ent.getD i 0)) (attrsQ_sz h (S.ent.getD i 0))
  split
  ·exact restR_sz on r (i+1) ⟨_,_,_⟩ h1
  ·exact h1
theorem restL_sz {S:AS} (h:SZ S.T) (on:Bool):SZ (restL on S).1.T:=restR_sz on _ _ S h
end
section
variable {T:TreeD} {l:List Int} {W:List UInt8}
theorem rf_split {l:List Int} {x:Int} (h:0≤rfind l x): ∃A B,l=A++x::B∧l.drop (rfind l x+1).toNat=B∧l.take (rfind l x).toNat=A:=by
 obtain⟨h1,h2,h3,h4⟩:=rfind_spec l x
 have hk:(rfind l x).toNat<l.length:=by omega
 have he:=h4 (rfind l x).toNat hk (by omega)
 refine⟨l.take (rfind l x).toNat,l.drop ((rfind l x).toNat+1),?_,by rw[show(rfind l x+1).toNat=(rfind l x).toNat+1 by omega],rfl⟩
 conv=>lhs;rw[←List.take_append_drop (rfind l x).toNat l,List.drop_eq_getElem_cons hk,he]
theorem html_list:((⟨#[104,116,109,108]⟩:ByteArray):ByteArray).toList=([104,116,109,108]:List UInt8):=by kernel_rfl
theorem isW_eq {S:List ByteArray} {x y:ByteArray} (h:x.toList=y.toList):isW S x=isW S y:=by unfold isW;rw[h]
theorem named_one {names:List ByteArray} {x:Int} (h:TL W T l) (hn:isW names (⟨#[104,116,109,108]⟩:ByteArray)=false) (hx:namedF T x names=true):x≠1:=by
 rintro rfl
 unfold namedF at hx
 rw[h.n1,hn,Bool.and_false,Bool.and_false]at hx
 cases hx
theorem isW_one {nm:ByteArray} (hn:(nm.toList==([104,116,109,108]:List UInt8))=false):isW [nm] (⟨#[104,116,109,108]⟩:ByteArray)=false:=by
 unfold isW
 rw[List.any_cons,List.any_nil,Bool.or_false,html_list,beq_eq_false_iff_ne]
 intro e
 rw[←e,beq_self_eq_true]at hn
 cases hn
theorem findR_named (T:TreeD) (name:ByteArray): ∀l:List Int,findR T name l≠0→namedF T (findR T name l) [name]=true
 | [],h=>absurd rfl h
 |x::r,h=>by
  rw[findR]at h ⊢
  by_cases hx:namedF T x [name]=true
  ·rw[if_pos hx];exact hx
  ·rw[if_neg hx]at h ⊢
   exact findR_named T name r h
theorem hd_drop (h: ∃r,l=1::r) (h1:l.getLast?.getD 0≠1): ∃r,l.dropLast=1::r:=by
 obtain⟨r,rfl⟩:=h
 cases r with
 |nil=>exact absurd rfl h1
 |cons y r=>exact⟨(y::r).dropLast,rfl⟩
theorem hd_take {A B:List Int} {x:Int} (h: ∃r,l=1::r) (e:l=A++x::B) (hx:x≠1):A≠ []∧ ∃r,A=1::r:=by
 obtain⟨r,hr⟩:=h
 cases A with
 |nil=>rw[e]at hr;exact absurd (List.cons.inj hr).1 hx
 |cons y A=>rw[e]at hr;exact⟨List.cons_ne_nil _ _,A,by rw[(List.cons.inj hr).1]⟩
theorem adoptR_tl {name:ByteArray} (hnm:(name.toList==([104,116,109,108]:List UInt8))=false): ∀(r t:Nat) (S:AS),TL W S.T S.l→((adoptR false name r t S).2.2=0→TL W (adoptR false name r t S).1.T (adoptR false name r t S).1.l)∧((adoptR false name r t S).2.2=0∨(adoptR false name r t S).2.2=43)
 |0,_,_,h=>⟨fun _=>h,.inl rfl⟩
 |r+1,t,S,h=>by
  rw[adoptR]
  split
  ·exact⟨fun _=>h,.inl rfl⟩
  ·rename_i hf0
   have hf1:=named_one h (isW_one hnm) (findR_named S.T name _ hf0)
   split
   ·exact⟨fun _=>h,.inl rfl⟩
   ·rename_i hf
    obtain⟨A,B,e1,e2,e4⟩:=rf_split (show 0≤rfind S.l (findF S.T S.ent name) by omega)
    obtain⟨ha1,ha2⟩:=hd_take h.hd e1 hf1
    split
    ·exact⟨fun _=>h,.inl rfl⟩
    ·split
     ·exact⟨fun _=>h.sub (List.take_sublist _ _) (by rw[e4];exact ha2),.inl rfl⟩
     ·rename_i hb
      have hm:=blockR_mem S.T _ hb
      unfold blockF at hb ⊢
      rw[e2]at hm hb ⊢
      obtain⟨m,l2,e3⟩:=List.append_of_mem hm
      have h':=h
      rw[e1,e3]at h'
      have h1:=h'.turn ha1 S.ent
      rw[←e3,←e1]at h1
      obtain⟨k1,k2⟩:=h1
      split
      ·rename_i h0
       exact adoptR_tl hnm r (t+1) ⟨_,_,_⟩ (k1 h0)
      ·rename_i h0
       exact⟨fun hh=>absurd hh h0,k2⟩
theorem adoptL_tl {S:AS} (h:TL W S.T S.l) {name:ByteArray} (hnm:(name.toList==([104,116,109,108]:List UInt8))=false):((adoptL false name S).2.2=0→TL W (adoptL false name S).1.T (adoptL false name S).1.l)∧((adoptL false name S).2.2=0∨(adoptL false name S).2.2=43):=by
 unfold adoptL
 split
 ·rename_i hc
  rw[Bool.and_eq_true]at hc
  exact⟨fun _=>h.sub (List.dropLast_sublist _) (hd_drop h.hd (named_one h (isW_one hnm) hc.1)),.inl rfl⟩
 ·exact adoptR_tl hnm 8 0 S h
theorem restR_tl: ∀(r i:Nat) (S:AS),TL W S.T S.l→TL W (restR false r i S).1.T (restR false r i S).1.l∧((restR false r i S).2=0∨(restR false r i S).2=43)
 |0,_,_,h=>⟨h,.inl rfl⟩
 |r+1,i,S,h=>by
  rw[restR]
  obtain⟨k1,k2⟩:=h.ins (spaceQ S.T (S.ent.getD i 0)) (nameQ S.T (S.ent.getD i 0)) (attrsQ S.T (S.ent.getD i 0))
  split
  ·exact restR_tl r (i+1) ⟨_,_,_⟩ k1
  ·exact⟨k1,k2⟩
theorem restL_tl {S:AS} (h:TL W S.T S.l):TL W (restL false S).1.T (restL false S).1.l∧((restL false S).2=0∨(restL false S).2=43):=restR_tl _ _ S h
end
section
variable {T:TreeD} {l:List Int} {W:List UInt8}
theorem hd_suf {s:List Int} (h: ∃r,l=1::r) (hs:s <:+l.reverse) (hne:s≠ []): ∃r,s.reverse=1::r:=by
 obtain⟨r,rfl⟩:=h
 obtain⟨p,hp⟩:=hs
 obtain⟨q,y,rfl⟩: ∃q y,s=q++ [y]:=⟨_,_,(List.dropLast_concat_getLast hne).symm⟩
 rw[←List.append_assoc,List.reverse_cons]at hp
 have:=List.append_inj_right' hp rfl
 rw[(List.cons.inj this).1]
 exact⟨q.reverse,by simp⟩
theorem imply_suf (T:TreeD) (but:ByteArray): ∀r,stImply T but r <:+r
 | []=>List.suffix_refl _
 |x::r=>by
  rw[stImply]
  split
  ·exact(imply_suf T but r).trans (List.suffix_cons _ _)
  ·exact List.suffix_refl _
theorem until_suf (T:TreeD) (names:List ByteArray): ∀r,untilF T names r <:+r
 | []=>List.suffix_refl _
 |x::r=>by
  rw[untilF]
  split
  ·exact List.suffix_cons _ _
  ·exact(until_suf T names r).trans (List.suffix_cons _ _)
theorem imply_mem {but:ByteArray} {x:Int} (hx:(namedF T x impN&& !namedF T x [but])=false): ∀r:List Int,x∈r→x∈stImply T but r
 | [],h=>by cases h
 |y::r,h=>by
  rw[stImply]
  split
  ·rename_i hy
   rcases List.mem_cons.1 h with rfl|h
   ·rw[hx]at hy;cases hy
   ·exact imply_mem hx r h
  ·exact h
theorem imply_hd (h:TL W T l) (but:ByteArray): ∃r,(stImply T but l.reverse).reverse=1::r:=by
 refine hd_suf h.hd (imply_suf T but _) fun e=> ?_
 have h1:(1:Int)∈l.reverse:=by obtain⟨r,rfl⟩:=h.hd;simp
 have h2:namedF T 1 impN=false:=by
  unfold namedF
  rw[h.n1,show isW impN (⟨#[104,116,109,108]⟩:ByteArray)=false by kernel_rfl,Bool.and_false,Bool.and_false]
 have:=imply_mem (T:=T) (but:=but) (x:=1) (by rw[h2];rfl) _ h1
 rw[e]at this
 cases this
theorem until_ne {names:List ByteArray} {y:Int}: ∀r:List Int,(∃x∈r,namedF T x names=true)→untilF T names (r++ [y])≠ []
 | [],h=>by obtain⟨x,hx,_⟩:=h;cases hx
 |x::r,h=>by
  rw[List.cons_append,untilF]
  split
  ·simp
  ·rename_i hx
   refine until_ne r ?_
   obtain⟨z,hz,hz2⟩:=h
   rcases List.mem_cons.1 hz with rfl|hz
   ·exact absurd hz2 hx
   ·exact⟨z,hz,hz2⟩
theorem until_hd (h:TL W T l) {names:List ByteArray} (hx: ∃x∈l,namedF T x names=true) (h1:isW names (⟨#[104,116,109,108]⟩:ByteArray)=false): ∃r,(untilF T names l.reverse).reverse=1::r:=by
 refine hd_suf h.hd (until_suf T names _) ?_
 obtain⟨x,hx,hn⟩:=hx
 have hne:=named_one h h1 hn
 obtain⟨r,rfl⟩:=h.hd
 rw[List.reverse_cons]
 refine until_ne _ ⟨x,?_,hn⟩
 rcases List.mem_cons.1 hx with rfl|hx
 ·exact absurd rfl hne
 ·exact List.mem_reverse.2 hx
theorem popto_hd {x:Int} (h: ∃r,l=1::r) (hx:x∈l) (hne:x≠1): ∃r,(((l.reverse.dropWhile fun y=>y !=x).drop 1).reverse)=1::r:=by
 refine hd_suf h ((List.drop_suffix _ _).trans (List.dropWhile_suffix _)) ?_
 obtain⟨r,rfl⟩:=h
 rw[List.reverse_cons]
 have hr:x∈r.reverse:=by
  rcases List.mem_cons.1 hx with rfl|hx
  ·exact absurd rfl hne
  ·exact List.mem_reverse.2 hx
 generalize r.reverse=q at hr
 induction q with
 |nil=>cases hr
 |cons y q ih =>
  rw[List.cons_append,List.dropWhile_cons]
  by_cases e:y=x
  ·rw[if_neg (by simp[e])]
   simp
  ·rw[if_pos (by simp[e])]
   rcases List.mem_cons.1 hr with rfl|hr
   ·exact absurd rfl e
   ·exact ih hr
theorem search_mem {p st:Int→Bool}: ∀r:List Int,searchF p st r=true→ ∃x∈r,p x=true
 | [],h=>by cases h
 |x::r,h=>by
  rw[searchF,Bool.or_eq_true]at h
  rcases h with h|h
  ·exact⟨x,List.mem_cons_self,h⟩
  ·rw[Bool.and_eq_true]at h
   obtain⟨y,hy,hp⟩:=search_mem r h.2
   exact⟨y,List.mem_cons_of_mem _ hy,hp⟩
theorem has_mem {sc:Int} {names:List ByteArray} (h:hasF T l sc names=true): ∃x∈l,namedF T x names=true:=by
 obtain⟨x,hx,hp⟩:=search_mem _ h
 exact⟨x,List.mem_reverse.1 hx,hp⟩
theorem rm_hd {x:Int} (h: ∃r,l=1::r) (hx:x≠1): ∃r,rmF l x=1::r:=by
 obtain⟨r,rfl⟩:=h
 unfold rmF dropF
 split
 ·rename_i h0
  obtain⟨h1,h2,h3,h4⟩:=rfind_spec (1::r) x
  obtain⟨k,hk⟩: ∃k:Nat,rfind (1::r) x=k:=⟨_,(Int.toNat_of_nonneg h0).symm⟩
  have he:=h4 k (by omega) hk
  rw[hk,Int.toNat_natCast]
  cases k with
  |zero=>exact absurd he.symm hx
  |succ k=>exact⟨_,rfl⟩
 ·exact⟨r,rfl⟩
def notImp (names:List ByteArray) (but:ByteArray):Prop:=names= [but]∨ ∀n∈names,isW impN n=false
theorem not_imp {names:List ByteArray} {but:ByteArray} (h:notImp names but) {x:Int} (hx:namedF T x names=true):(namedF T x impN&& !namedF T x [but])=false:=by
 rcases h with rfl|h
 ·rw[hx,Bool.not_true,Bool.and_false]
 ·have:namedF T x impN=false:=by
   unfold namedF at hx ⊢
   rw[Bool.and_eq_true,Bool.and_eq_true]at hx
   obtain⟨n,hn,he⟩:=List.any_eq_true.1 hx.2.2
   rw[isW_eq (eq_of_beq he),h n hn,Bool.and_false,Bool.and_false]
  rw[this]
  rfl
end
structure JT (W:List UInt8) (b:BuD):Prop where
 on:b.on=false
 tl:b.err=0→TL W b.S.T b.S.l∧SZ b.S.T
 er:b.err=0∨b.err=43
section
variable {b c:BuD} {m:BMark} {W:List UInt8}
theorem JT.keep' (h:JT W b) {S:AS} {u:Nat} {V:List UInt8} {e:Int} (h1:b.err=0→e=0→TL V S.T S.l∧SZ S.T) (h2:b.err=0→e=0∨e=43):JT V (({b with S:=S,used:=u}:BuD).keep e):=by
 unfold BuD.keep
 by_cases he:e=0
 ·rw[if_pos he]
  exact⟨h.on,fun hb=>h1 hb he,h.er⟩
 ·rw[if_neg he]
  unfold BuD.fail
  by_cases hb:b.err=0
  ·rw[if_pos (show({b with S:=S,used:=u}:BuD).err=0 from hb)]
   exact⟨h.on,fun hx=>absurd hx he,.inr ((h2 hb).resolve_left he)⟩
  ·rw[if_neg (show ¬({b with S:=S,used:=u}:BuD).err=0 from hb)]
   exact⟨h.on,fun hx=>absurd hx hb,h.er⟩
theorem JT.ins (h:JT W b) (nm:ByteArray) (l:List Pair):JT W (b.ins nm l):=by
 have e:insertL b.S.T b.S.l b.on 0 nm l=insertL b.S.T b.S.l false 0 nm l:=by rw[h.on]
 have k:=h.keep' (S:=⟨(insertL b.S.T b.S.l false 0 nm l).1,(insertL b.S.T b.S.l false 0 nm l).2.1,b.S.ent⟩) (u:=b.used) (e:=(insertL b.S.T b.S.l false 0 nm l).2.2.2) (fun hb _=>⟨((h.tl hb).1.ins 0 nm l).1,insertL_sz (h.tl hb).2 _ _ nm l rfl⟩) fun hb=>((h.tl hb).1.ins 0 nm l).2
 rw[←e]at k
 exact k
theorem JT.put (h:JT W b) (t:ByteArray):JT (W++t.toList) (b.putText t):=by
 have e:placeQ b.S.T b.S.l b.on 0=(b.S.l.getLast?.getD 0,0):=by rw[h.on,place_top]
 unfold BuD.putText
 simp only
 rw[e]
 exact h.keep' (S:=⟨(textE b.S.T (b.S.l.getLast?.getD 0) 0 t).1,b.S.l,b.S.ent⟩) (u:=b.used+t.size) (fun hb he=>⟨((h.tl hb).1.text t).1 he,textE_sz (h.tl hb).2 _ _ t⟩) fun hb=>((h.tl hb).1.text t).2
theorem JT.stk (h:JT W b) {l:List Int} (hl:l.Sublist b.S.l) (hh:b.err=0→ ∃r,l=1::r):JT W (b.stk l):=⟨h.on,fun hb=>⟨(h.tl hb).1.sub hl (hh hb),(h.tl hb).2⟩,h.er⟩
theorem JT.lst (h:JT W b) (e:List Int):JT W (b.lst e):=⟨h.on,h.tl,h.er⟩
theorem JT.goto (h:JT W b) (n:Int):JT W (b.goto n):=⟨h.on,h.tl,h.er⟩
theorem JT.pop (h:JT W b) (h1:b.err=0→b.top≠1):JT W b.pop:=h.stk (List.dropLast_sublist _) fun hb=>hd_drop (h.tl hb).1.hd (h1 hb)
theorem JT.sremove (h:JT W b) (n:Int) (hn:b.err=0→n≠1):JT W (b.sremove n):=h.stk (rmF_sub _ _) fun hb=>rm_hd (h.tl hb).1.hd (hn hb)
theorem JT.until' (h:JT W b) (names:List ByteArray) (hx:b.err=0→ ∃x∈b.S.l,namedF b.S.T x names=true) (h1:isW names (⟨#[104,116,109,108]⟩:ByteArray)=false):JT W (b.until' names):=h.stk (rev_sub (untilF_sub _ _ _)) fun hb=>until_hd (h.tl hb).1 (hx hb) h1
theorem JT.imply (h:JT W b) (but:ByteArray):JT W (b.imply but):=h.stk (rev_sub (stImply_sub _ _ _)) fun hb=>imply_hd (h.tl hb).1 but
theorem JT.popTo (h:JT W b) (x:Int) (hx:b.err=0→x∈b.S.l∧x≠1):JT W (b.popTo x):=h.stk (rev_sub ((List.drop_sublist _ _).trans (List.dropWhile_sublist _))) fun hb=>popto_hd (h.tl hb).1.hd (hx hb).1 (hx hb).2
theorem JT.close (h:JT W b) {but:ByteArray} {names:List ByteArray} (hx:b.err=0→ ∃x∈b.S.l,namedF b.S.T x names=true) (h1:isW names (⟨#[104,116,109,108]⟩:ByteArray)=false) (h2:notImp names but):JT W ((b.imply but).until' names):=by
 refine(h.imply but).until' names (fun hb=> ?_) h1
 obtain⟨x,hx,hn⟩:=hx hb
 exact⟨x,List.mem_reverse.2 (imply_mem (not_imp h2 hn) _ (List.mem_reverse.2 hx)),hn⟩
theorem JT.restore (h:JT W b):JT W b.restore:=by
 have e:restL b.on b.S=restL false b.S:=by rw[h.on]
 have k:=h.keep' (S:=(restL false b.S).1) (u:=b.used) (e:=(restL false b.S).2) (fun hb _=>⟨(restL_tl (h.tl hb).1).1,restL_sz (h.tl hb).2 _⟩) fun hb=>(restL_tl (h.tl hb).1).2
 rw[←e]at k
 exact k
theorem JT.adopt (h:JT W b) {nm:ByteArray} (hn:(nm.toList==([104,116,109,108]:List UInt8))=false):JT W (b.adopt nm):=by
 have e:adoptL b.on nm b.S=adoptL false nm b.S:=by rw[h.on]
 have k:=h.keep' (S:=(adoptL false nm b.S).1) (u:=b.used) (e:=(adoptL false nm b.S).2.2) (fun hb he=>⟨(adoptL_tl (h.tl hb).1 hn).1 he,adoptL_sz (h.tl hb).2 _ nm⟩) fun hb=>(adoptL_tl (h.tl hb).1 hn).2
 rw[←e]at k
 exact k
theorem JT.iteH {p:Prop} [Decidable p] {r q:BuD} (h1:p→JT W r) (h2: ¬p→JT W q):JT W (if p then r else q):=by
 by_cases h:p
 ·rw[if_pos h];exact h1 h
 ·rw[if_neg h];exact h2 h
theorem JT.iteH1 {α:Type} {p:Prop} [Decidable p] {r q:BuD×α} (h1:p→JT W r.1) (h2: ¬p→JT W q.1):JT W (if p then r else q).1:=by
 by_cases h:p
 ·rw[if_pos h];exact h1 h
 ·rw[if_neg h];exact h2 h
theorem ins_top (h:JT W b) (nm:ByteArray) (l:List Pair) (he:(b.ins nm l).err=0):(b.ins nm l).top≠1:=by
 obtain⟨e1,e2⟩:=BuD.keep_err he
 have h2:=(h.tl e2).1.two
 have hl:(b.ins nm l).S.l=(insertL b.S.T b.S.l b.on 0 nm l).2.1:=by
  unfold BuD.ins BuD.insSp
  simp only
  rw[BuD.keep_S]
 unfold BuD.top
 rw[hl]
 by_cases hm:(b.S.T.nodes.length:Int)-1<b.S.T.most
 ·rw[(insertL_yes hm _ _ _ _ _).1,List.getLast?_concat,Option.getD_some]
  omega
 ·have:(insertL b.S.T b.S.l b.on 0 nm l).2.2.2=0:=e1
  rw[insertL_no hm]at this
  exact absurd (show(43:Int)=0 from this) (by decide)
theorem JT.ite {p:Prop} [Decidable p] {r q:BuD} (h1:JT W r) (h2:JT W q):JT W (if p then r else q):=by
 by_cases h:p
 ·rw[if_pos h];exact h1
 ·rw[if_neg h];exact h2
theorem JT.ite1 {α:Type} {p:Prop} [Decidable p] {r q:BuD×α} (h1:JT W r.1) (h2:JT W q.1):JT W (if p then r else q).1:=by
 by_cases h:p
 ·rw[if_pos h];exact h1
 ·rw[if_neg h];exact h2
theorem JT.ite1n {α:Type} {p:Prop} [Decidable p] {r q:BuD×α} (h: ¬p) (h2:JT W q.1):JT W (if p then r else q).1:=by rw[if_neg h];exact h2
theorem JT.raws (h:JT W b) (m:BMark) (k:Int):JT W (b.raws m k):=⟨(h.ins m.name m.attrs).on,(h.ins m.name m.attrs).tl,(h.ins m.name m.attrs).er⟩
theorem JT.single (h:JT W b) (nm:ByteArray) (l:List Pair):JT W (b.single nm l):=(h.ins nm l).pop (ins_top h nm l)
theorem JT.heads (h:JT W b) (m:BMark):JT W (b.heads m).1:=by
 unfold BuD.heads
 exact .ite1 (h.single m.name m.attrs) (.ite1 (h.raws m 1) (.ite1 (h.raws m 2) h))
theorem JT.paragraph (h:JT W b):JT W b.paragraph:=by
 unfold BuD.paragraph
 exact .iteH (fun hc=>h.close (fun _=>has_mem hc) (by kernel_rfl) (.inl rfl)) fun _=>h
theorem one_word {S:List ByteArray} {x:ByteArray} (h:oneF S x=true) (hS:isW S (⟨#[104,116,109,108]⟩:ByteArray)=false):(x.toList==([104,116,109,108]:List UInt8))=false:=by
 unfold oneF at h
 rw[Bool.and_eq_true]at h
 rw[beq_eq_false_iff_ne]
 intro e
 rw[isW_eq (y:=(⟨#[104,116,109,108]⟩:ByteArray)) (e.trans html_list.symm),hS]at h
 cases h.1
theorem named_self {T:TreeD} {x:Int} (he:elemF T x=true) (hs:spaceQ T x=0):namedF T x [nameQ T x]=true:=by
 unfold namedF isW
 rw[he,hs]
 simp
theorem JT.itemR (h:JT W b) {names:List ByteArray} (hS:isW names (⟨#[104,116,109,108]⟩:ByteArray)=false): ∀l,(∀x∈l,x∈b.S.l)→JT W (BuD.itemR names b l)
 | [],_=>h
 |x::r,hl=>by
  rw[BuD.itemR]
  refine .iteH (fun hc=> ?_) fun _=> .ite h (h.itemR hS r fun y hy=>hl y (List.mem_cons_of_mem _ hy))
  rw[Bool.and_eq_true]at hc
  exact h.close (fun hb=>⟨x,hl x List.mem_cons_self,named_self ((h.tl hb).1.el x (hl x List.mem_cons_self)) (eq_of_beq hc.1)⟩) (isW_one (one_word hc.2 hS)) (.inl rfl)
theorem JT.otherR (h:JT W b) {want:ByteArray} (hw:(want.toList==([104,116,109,108]:List UInt8))=false): ∀l,(∀x∈l,x∈b.S.l)→JT W (BuD.otherR want b l)
 | [],_=>h
 |x::r,hl=>by
  rw[BuD.otherR]
  refine .iteH (fun hc=> ?_) fun _=> .ite h (h.otherR hw r fun y hy=>hl y (List.mem_cons_of_mem _ hy))
  rw[Bool.and_eq_true]at hc
  refine(h.imply want).popTo x fun hb=> ?_
  have hb':b.err=0:=hb
  have hx:=hl x List.mem_cons_self
  have hc2:=hc.2
  unfold oneF at hc2
  rw[Bool.and_eq_true]at hc2
  have hn:namedF b.S.T x [want]=true:=by
   unfold namedF
   rw[(h.tl hb').1.el x hx,hc.1,hc2.1]
   rfl
  exact⟨List.mem_reverse.2 (imply_mem (not_imp (.inl rfl) hn) _ (List.mem_reverse.2 hx)),named_one (h.tl hb').1 (isW_one hw) hn⟩
theorem JT.other (h:JT W b) {want:ByteArray} (hw:(want.toList==([104,116,109,108]:List UInt8))=false):JT W (b.other want):=h.otherR hw _ fun _ hx=>List.mem_reverse.1 hx
theorem JT.forms (h:JT W b) (m:BMark):JT W (b.forms m):=by
 unfold BuD.forms
 exact .ite (h.restore.ins _ _) ((h.restore.ins _ _).lst _)
theorem JT.verbatim (h:JT W b) (m:BMark):JT W (b.verbatim m):=by
 unfold BuD.verbatim
 have h1:=h.raws m 1
 exact .ite ⟨h1.on,h1.tl,h1.er⟩ (.ite (h.paragraph.restore.raws m 2) (h.raws m 2))
theorem at_top {S:List ByteArray} (h:JT W b) (hS:isW S (⟨#[104,116,109,108]⟩:ByteArray)=false) (hc:b.at' S=true) (hb:b.err=0):b.top≠1:=by
 intro e
 unfold BuD.at' BuD.topn oneF at hc
 rw[e,(h.tl hb).1.n1,hS,Bool.false_and,Bool.and_false]at hc
 cases hc
theorem JT.phrases (h:JT W b) (m:BMark):JT W (b.phrases m):=by
 have h1: ∀c:BuD,JT W c→JT W (if oneF [⟨#[97,112,112,108,101,116]⟩,⟨#[109,97,114,113,117,101,101]⟩,⟨#[111,98,106,101,99,116]⟩] m.name then(c.restore.ins m.name m.attrs).lmark else c.restore.ins m.name m.attrs):=fun c hc=> .ite ((hc.restore.ins _ _).lst _) (hc.restore.ins _ _)
 unfold BuD.phrases
 refine h1 _ (.ite (.iteH (fun hc=>h.close (fun _=>has_mem hc) (by kernel_rfl) (.inr ?_)) fun _=>h) (.ite (.iteH (fun hc=>h.pop (at_top h (by kernel_rfl) hc)) fun _=>h) h))
 intro n hn
 rw[List.mem_singleton.1 hn]
 kernel_rfl
theorem JT.blocks (h:JT W b) (m:BMark):JT W (b.blocks m):=by
 have h2:JT W (BuD.paragraph (if m.name.toList==([108,105]:List UInt8)then b.item [⟨#[108,105]⟩]else if(m.name.toList==([100,100]:List UInt8))||(m.name.toList==([100,116]:List UInt8))then b.item [⟨#[100,100]⟩,⟨#[100,116]⟩]else b)) :=
  JT.paragraph (.ite (h.itemR (by kernel_rfl) _ fun _ hx=>List.mem_reverse.1 hx) (.ite (h.itemR (by kernel_rfl) _ fun _ hx=>List.mem_reverse.1 hx) h))
 unfold BuD.blocks
 simp only
 generalize BuD.paragraph (if m.name.toList==([108,105]:List UInt8)then b.item [⟨#[108,105]⟩]else if(m.name.toList==([100,100]:List UInt8))||(m.name.toList==([100,116]:List UInt8))then b.item [⟨#[100,100]⟩,⟨#[100,116]⟩]else b)=b2 at h2 ⊢
 have h4:JT W (if headingB m.name&&b2.at' headN then b2.pop else b2):= .iteH (fun hc=>h2.pop (at_top h2 (by kernel_rfl) ((Bool.and_eq_true _ _).mp hc).2)) fun _=>h2
 generalize (if headingB m.name&&b2.at' headN then b2.pop else b2)=b3 at h4 ⊢
 have h5:=h4.ins m.name m.attrs
 exact .ite (h2.single _ _) (.ite ⟨h5.on,h5.tl,h5.er⟩ (.ite (h5.goto _) h5))
theorem JT.opens (h:JT W b) (m:BMark) (hm:oneF [⟨#[115,118,103]⟩,⟨#[109,97,116,104]⟩] m.name=false):JT W (b.opens m).1:=by
 rw[BuD.opens.eq_1,hm]
 refine .ite1 h (.ite1 (h.heads m) (.ite1 (h.blocks m) (.ite1 ?_ (.ite1 (h.forms m) (.ite1 ?_ (.ite1 (h.single _ _) (.ite1 (h.restore.single _ _) (.ite1 (h.verbatim m) (.ite1n (by decide) (h.phrases m))))))))))
 ·refine(JT.iteH (p:=b.find (⟨#[97]⟩:ByteArray)=0) (fun _=>h) fun hf=>((h.adopt (by kernel_rfl)).lst _).sremove _ fun hb=> ?_).forms m
  have hb':(b.adopt (⟨#[97]⟩:ByteArray)).err=0:=hb
  exact named_one (h.tl (BuD.keep_err hb').2).1 (by kernel_rfl) (findR_named _ _ _ hf)
 ·exact(JT.ite (p:=b.restore.has 0 [⟨#[110,111,98,114]⟩]=true) (h.restore.adopt (by kernel_rfl)) h.restore).forms m
theorem JT.ends (h:JT W b) {sc:Int} {but:ByteArray} {names:List ByteArray} (h1:isW names (⟨#[104,116,109,108]⟩:ByteArray)=false) (h2:notImp names but):JT W (b.ends sc but names):= .iteH (fun hc=>h.close (fun _=>has_mem hc) h1 h2) fun _=>h
theorem word_imp {S:List ByteArray} {x:ByteArray} (h:oneF S x=true) (hS: ∀y∈S,isW impN y=false) (but:ByteArray):notImp [x] but:= .inr fun n hn=>by
 rw[List.mem_singleton.1 hn]
 unfold oneF at h
 rw[Bool.and_eq_true]at h
 obtain⟨y,hy,he⟩:=List.any_eq_true.1 h.1
 rw[isW_eq (eq_of_beq he)]
 exact hS y hy
theorem all_imp {S:List ByteArray} (h:(S.all fun y=> !isW impN y)=true): ∀y∈S,isW impN y=false:=fun y hy=>by
 have:=List.all_eq_true.1 h y hy
 simpa using this
theorem word_imp2 {S:List ByteArray} {x:ByteArray} (h:oneF S x=true) (hp:(x.toList==([112]:List UInt8))=false) (hS:(S.all fun y=> !isW impN y||(y.toList==([112]:List UInt8)))=true) (but:ByteArray):notImp [x] but:= .inr fun n hn=>by
 rw[List.mem_singleton.1 hn]
 unfold oneF at h
 rw[Bool.and_eq_true]at h
 obtain⟨y,hy,he⟩:=List.any_eq_true.1 h.1
 have h2:=List.all_eq_true.1 hS y hy
 rw[isW_eq (eq_of_beq he)]
 rw[eq_of_beq he]at hp
 rw[hp,Bool.or_false]at h2
 simpa using h2
theorem JT.closes (h:JT W b) (m:BMark):JT W (b.closes m).1:=by
 rw[BuD.closes.eq_1]
 refine .iteH1 (fun _=> .ite1 (h.goto _) h) fun hb=> ?_
 have hno:(m.name.toList==([104,116,109,108]:List UInt8))=false:=by
  rw[beq_eq_false_iff_ne]
  intro e
  apply hb
  unfold oneF
  rw[isW_eq (y:=(⟨#[104,116,109,108]⟩:ByteArray)) (e.trans html_list.symm),e]
  kernel_rfl
 refine .iteH1 (fun _=>(JT.ite (p:=b.has 2 [⟨#[112]⟩]=true) h (h.ins _ _)).paragraph) fun hnp=>(.iteH1 (fun hc=>h.ends (isW_one hno) ?_) fun _=> .ite1 (h.ends (by kernel_rfl) (.inl rfl)) (.ite1 (h.ends (isW_one hno) (.inl rfl)) (.ite1 (h.ends (by kernel_rfl) (.inr (all_imp (by kernel_rfl)))) (.ite1 ?_ (.iteH1 (fun hc=> .ite ((h.ends (isW_one hno) (word_imp hc (all_imp (by kernel_rfl)) _)).lst _) h) fun _=> .ite1 (h.restore.single _ _) (h.other hno))))))
 ·rw[Bool.or_eq_true]at hc
  rcases hc with hc|hc
  ·exact word_imp2 hc (Bool.eq_false_iff.2 hnp) (by kernel_rfl) _
  ·exact word_imp hc (all_imp (by kernel_rfl)) _
 ·exact .ite ((h.adopt hno).other hno) (h.adopt hno)
end
end
section
def okT (x:ByteArray):Prop:=(x.toList==([116,97,98,108,101]:List UInt8))=false∧(x.toList==([115,118,103]:List UInt8))=false∧(x.toList==([109,97,116,104]:List UInt8))=false
def MT (b:BuD):Prop:=b.mode=4∨b.mode=12∨(b.mode=5∧b.back=4∧(b.err=0→b.top≠1))
structure JB (W:List UInt8) (b:BuD):Prop where
 jt:JT W b
 md:MT b
 sw:sw false b=(false,⟨#[]⟩)
section
variable {b c:BuD} {m:BMark} {W:List UInt8}
theorem JT.dead (h:JT W b) (he:b.err≠0) (V:List UInt8):JT V b:=⟨h.on,fun hb=>absurd hb he,h.er⟩
theorem MT.four (h:b.mode=4):MT b:= .inl h
theorem raws_mt (h:JT W b) (h4:b.mode=4) (m:BMark) (k:Int):MT (b.raws m k) :=
 .inr (.inr ⟨rfl,(mo_ins b m.name m.attrs).trans h4,fun he=>ins_top h m.name m.attrs he⟩)
theorem mt_ite {p:Prop} [Decidable p] {r q:BuD} (h1:MT r) (h2:MT q):MT (if p then r else q):=by
 by_cases h:p
 ·rw[if_pos h];exact h1
 ·rw[if_neg h];exact h2
theorem mt_ite1 {α:Type} {p:Prop} [Decidable p] {r q:BuD×α} (h1:MT r.1) (h2:MT q.1):MT (if p then r else q).1:=by
 by_cases h:p
 ·rw[if_pos h];exact h1
 ·rw[if_neg h];exact h2
theorem heads_mt (h:JT W b) (h4:b.mode=4) (m:BMark):MT (b.heads m).1:=by
 unfold BuD.heads
 exact mt_ite1 (.four ((mo_ins b m.name m.attrs).trans h4)) (mt_ite1 (raws_mt h h4 m 1) (mt_ite1 (raws_mt h h4 m 2) (.four h4)))
theorem blocks_mt (h4:b.mode=4) (m:BMark) (hm:okT m.name):MT (b.blocks m):=by
 have h2:(BuD.paragraph (if m.name.toList==([108,105]:List UInt8)then b.item [⟨#[108,105]⟩]else if(m.name.toList==([100,100]:List UInt8))||(m.name.toList==([100,116]:List UInt8))then b.item [⟨#[100,100]⟩,⟨#[100,116]⟩]else b)).mode=4 :=
  (mo_paragraph _).trans (mo_ite ((mo_itemR _ _ _).trans h4) (mo_ite ((mo_itemR _ _ _).trans h4) h4))
 unfold BuD.blocks
 simp only
 generalize BuD.paragraph (if m.name.toList==([108,105]:List UInt8)then b.item [⟨#[108,105]⟩]else if(m.name.toList==([100,100]:List UInt8))||(m.name.toList==([100,116]:List UInt8))then b.item [⟨#[100,100]⟩,⟨#[100,116]⟩]else b)=b2 at h2 ⊢
 have h3:(if headingB m.name&&b2.at' headN then b2.pop else b2).mode=4:=mo_ite h2 h2
 generalize (if headingB m.name&&b2.at' headN then b2.pop else b2)=b3 at h3 ⊢
 rw[hm.1,if_neg (show ¬(false=true) by decide)]
 exact mt_ite (.four ((mo_ins b2 _ _).trans h2)) (mt_ite (.four ((mo_ins b3 _ _).trans h3)) (.four ((mo_ins b3 _ _).trans h3)))
theorem opens_mt (h:JT W b) (h4:b.mode=4) (m:BMark) (hm:okT m.name) (hs:oneF [⟨#[115,118,103]⟩,⟨#[109,97,116,104]⟩] m.name=false):MT (b.opens m).1:=by
 rw[BuD.opens.eq_1,hs]
 refine mt_ite1 (.four h4) (mt_ite1 (heads_mt h h4 m) (mt_ite1 (blocks_mt h4 m hm) (mt_ite1 ?_ (mt_ite1 (.four ((mo_forms b m).trans h4)) (mt_ite1 ?_ (mt_ite1 (.four ((mo_ins b _ _).trans h4)) (mt_ite1 (.four ((mo_ins b.restore _ _).trans ((mo_restore b).trans h4))) (mt_ite1 ?_ ?_))))))))
 ·exact .four ((mo_forms _ m).trans (mo_ite h4 ((mo_adopt b _).trans h4)))
 ·exact .four ((mo_forms _ m).trans (mo_ite ((mo_adopt _ _).trans ((mo_restore b).trans h4)) ((mo_restore b).trans h4)))
 ·unfold BuD.verbatim
  refine mt_ite ?_ (mt_ite (raws_mt h.paragraph.restore ((mo_restore _).trans ((mo_paragraph b).trans h4)) m 2) (raws_mt h h4 m 2))
  have:=raws_mt h h4 m 1
  rcases this with h|h|h
  ·exact .inl h
  ·exact .inr (.inl h)
  ·exact .inr (.inr h)
 ·rw[if_neg (by decide)]
  exact .four ((mo_phrases b m).trans h4)
theorem closes_mt (h4:b.mode=4) (m:BMark):MT (b.closes m).1:=by
 rw[BuD.closes.eq_1]
 refine mt_ite1 (mt_ite1 (.inr (.inl rfl)) (.four h4)) (mt_ite1 (.four ((mo_paragraph _).trans (mo_ite h4 ((mo_ins b _ _).trans h4)))) (mt_ite1 (.four ((mo_ends _ _ _ _).trans h4)) (mt_ite1 (.four ((mo_ends _ _ _ _).trans h4)) (mt_ite1 (.four ((mo_ends _ _ _ _).trans h4)) (mt_ite1 (.four ((mo_ends _ _ _ _).trans h4)) (mt_ite1 ?_ (mt_ite1 (mt_ite (.four ((mo_ends b _ _ _).trans h4)) (.four h4)) (mt_ite1 (.four ((mo_ins b.restore _ _).trans ((mo_restore b).trans h4))) (.four ((mo_other b _).trans h4))))))))))
 exact mt_ite (.four ((mo_other _ _).trans ((mo_adopt b _).trans h4))) (.four ((mo_adopt b _).trans h4))
theorem tops_zero (h:JT W b) (he:b.err=0):b.tops=0:=attrsQ_sz (h.tl he).2 _
theorem once_rules (h:JT W b) (he:b.err=0) (m:BMark):b.once m=b.rules m:=by
 rw[BuD.once.eq_1,if_neg]
 intro hc
 rw[tops_zero h he]at hc
 unfold foreignF foreignB at hc
 simp at hc
theorem svg_no (h:okT m.name):oneF [⟨#[115,118,103]⟩,⟨#[109,97,116,104]⟩] m.name=false:=by
 unfold oneF isW
 rw[Bool.and_eq_false_iff]
 left
 rw[List.any_cons,List.any_cons,List.any_nil,show((⟨#[115,118,103]⟩:ByteArray):ByteArray).toList=([115,118,103]:List UInt8) by kernel_rfl,show((⟨#[109,97,116,104]⟩:ByteArray):ByteArray).toList=([109,97,116,104]:List UInt8) by kernel_rfl,h.2.1,h.2.2]
 rfl
theorem JB.once (h:JB W b) (he:b.err=0) (hk:m.kind≠1) (hn:okN m.name) (ht:okT m.name):JB W (b.once m).1∧((b.once m).2.2=true→(b.once m).2.1=m):=by
 have hk1:(m.kind==1)=false:=beq_eq_false_iff_ne.2 hk
 rw[once_rules h.jt he]
 rcases h.md with h4|h12|⟨h5,hb,htop⟩
 ·have e:b.rules m=b.inBody m:=by
   rw[BuD.rules.eq_1,h4]
   rfl
  rw[e]
  have hsw:=(sl_inBody (k:=false) b hn).1.trans h.sw
  rw[BuD.inBody.eq_1,if_neg (by rw[hk1];decide)]at hsw ⊢
  by_cases k2:(m.kind==2)=true
  ·rw[if_pos k2]at hsw ⊢
   exact⟨⟨h.jt.opens m (svg_no ht),opens_mt h.jt h4 m ht (svg_no ht),hsw⟩,fun hh=>by cases hh⟩
  ·rw[if_neg k2]at hsw ⊢
   by_cases k3:(m.kind==3)=true
   ·rw[if_pos k3]at hsw ⊢
    exact⟨⟨h.jt.closes m,closes_mt h4 m,hsw⟩,fun _=>rfl⟩
   ·rw[if_neg k3]at hsw ⊢
    exact⟨h,fun _=>rfl⟩
 ·have e:b.rules m=b.inAfter m:=by
   rw[BuD.rules.eq_1,h12]
   rfl
  rw[e,BuD.inAfter.eq_1]
  have e2:BuD.blankM m=m:=by unfold BuD.blankM;rw[if_neg (by rw[hk1];decide)]
  have e3:BuD.blankT m=false:=by unfold BuD.blankT;rw[hk1];rfl
  simp only[hk1,e2,e3,Bool.false_and,Bool.false_eq_true,if_false]
  split
  ·exact⟨h,fun _=>rfl⟩
  ·exact⟨⟨h.jt.goto 4,.four rfl,h.sw⟩,fun _=>rfl⟩
 ·have e:b.rules m=b.inText m:=by
   rw[BuD.rules.eq_1,h5]
   rfl
  rw[e,BuD.inText.eq_1,if_neg (by rw[hk1];decide)]
  exact⟨⟨(h.jt.pop htop).goto b.back,.four hb,h.sw⟩,fun _=>rfl⟩
theorem JB.again (hk:m.kind≠1) (hn:okN m.name) (ht:okT m.name): ∀(n:Nat) {b:BuD},JB W b→JB W (BuD.again n b m)
 |0,_,h=>h
 |n+1,b,h=>by
  rw[BuD.again]
  by_cases he:b.err=0
  ·rw[if_pos he]
   obtain⟨h1,h2⟩:=h.once he hk hn ht
   by_cases hd:(b.once m).2.2=true
   ·rw[if_pos hd,h2 hd]
    exact JB.again hk hn ht n h1
   ·rw[if_neg hd]
    exact h1
  ·rw[if_neg he]
   exact h
theorem JB.text (h:JB W b) (h4:b.mode=4) (hk:m.kind=1) (n:Nat):JB (W++m.text.toList) (BuD.again (n+1) b m):=by
 rw[BuD.again]
 by_cases he:b.err=0
 ·rw[if_pos he,once_rules h.jt he]
  have e:b.rules m=(b.restore.putText m.text,m,false):=by
   rw[BuD.rules.eq_1,h4]
   show b.inBody m=_
   rw[BuD.inBody.eq_1,if_pos (by rw[hk];rfl)]
  rw[e,if_neg (show ¬(false=true) by decide)]
  exact⟨h.jt.restore.put _,.four ((mo_put _ _).trans ((mo_restore b).trans h4)),((sw_put _ _).trans (sw_restore b)).trans h.sw⟩
 ·rw[if_neg he]
  exact⟨h.jt.dead he _,h.md,h.sw⟩
theorem list_mk (l:List UInt8):(mkB l).toList=l:=by
 unfold mkB
 rw[ByteArray.toList_eq]
theorem parts (s:ByteArray):(aheadF s).toList++(restF s).toList=s.toList:=by
 unfold aheadF restF
 rw[list_mk,list_mk,List.takeWhile_append_dropWhile]
theorem JB.texts (h:JB W b) (hk:m.kind=1) (n:Nat):JB (W++m.text.toList) (BuD.again (n+2) b m):=by
 rcases h.md with h4|h12|⟨h5,hb,htop⟩
 ·exact h.text h4 hk (n+1)
 ·rw[BuD.again]
  by_cases he:b.err=0
  ·rw[if_pos he,once_rules h.jt he]
   have e:b.rules m=b.inAfter m:=by
    rw[BuD.rules.eq_1,h12]
    rfl
   have hk1:(m.kind==1)=true:=by rw[hk];rfl
   have hp:=parts m.text
   have hc:JB (W++(aheadF m.text).toList) (if(m.kind==1)&& !(aheadF m.text).toList.isEmpty then(b.inBody ⟨1,⟨#[]⟩,[],false,aheadF m.text⟩).1 else b):=by
    by_cases hh:((m.kind==1)&& !(aheadF m.text).toList.isEmpty)=true
    ·rw[if_pos hh]
     show JB _ (b.restore.putText (aheadF m.text))
     exact⟨h.jt.restore.put _,.inr (.inl ((mo_put _ _).trans ((mo_restore b).trans h12))),((sw_put _ _).trans (sw_restore b)).trans h.sw⟩
    ·rw[if_neg hh]
     rw[hk1,Bool.true_and,Bool.not_eq_true',Bool.not_eq_false,List.isEmpty_iff]at hh
     rw[hh,List.append_nil]
     exact h
   rw[e,BuD.inAfter.eq_1]
   generalize (if(m.kind==1)&& !(aheadF m.text).toList.isEmpty then(b.inBody ⟨1,⟨#[]⟩,[],false,aheadF m.text⟩).1 else b)=c at hc ⊢
   have e2:BuD.blankM m= {m with text:=restF m.text}:=by unfold BuD.blankM;rw[if_pos hk1]
   have e3:BuD.blankT m=(restF m.text).toList.isEmpty:=by unfold BuD.blankT;rw[hk1];rfl
   simp only[e2,e3]
   by_cases hr:(restF m.text).toList.isEmpty=true
   ·rw[if_pos hr,if_neg (show ¬(false=true) by decide)]
    rw[List.isEmpty_iff]at hr
    rw[hr,List.append_nil]at hp
    rw[←hp]
    exact hc
   ·rw[if_neg hr]
    have hs:(startF ({m with text:=restF m.text}:BMark) [⟨#[104,116,109,108]⟩]||endF ({m with text:=restF m.text}:BMark) [⟨#[104,116,109,108]⟩]||(({m with text:=restF m.text}:BMark).kind==6))=false:=by
     unfold startF endF
     show((m.kind==2)&&_||(m.kind==3)&&_||(m.kind==6))=false
     rw[hk]
     rfl
    rw[hs,if_neg (show ¬(false=true) by decide),if_pos rfl]
    have:=JB.text (b:=c.goto 4) (m:= {m with text:=restF m.text}) ⟨hc.jt.goto 4,.four rfl,hc.sw⟩ rfl hk n
    rw[←hp,←List.append_assoc]
    exact this
  ·rw[if_neg he]
   exact⟨h.jt.dead he _,h.md,h.sw⟩
 ·rw[BuD.again]
  by_cases he:b.err=0
  ·rw[if_pos he,once_rules h.jt he]
   have e:b.rules m=(b.putText m.text,m,false):=by
    rw[BuD.rules.eq_1,h5]
    show b.inText m=_
    rw[BuD.inText.eq_1,if_pos (by rw[hk];rfl)]
   rw[e,if_neg (show ¬(false=true) by decide)]
   refine⟨h.jt.put _,.inr (.inr ⟨(mo_put _ _).trans h5,?_,fun _=> ?_⟩),(sw_put _ _).trans h.sw⟩
   ·show(b.putText m.text).back=4
    unfold BuD.putText
    simp only
    rw[mo_back]
    exact hb
   ·have e1:(b.putText m.text).S.l=b.S.l:=by
     unfold BuD.putText
     simp only
     rw[BuD.keep_S]
    unfold BuD.top
    rw[e1]
    exact htop he
  ·rw[if_neg he]
   exact⟨h.jt.dead he _,h.md,h.sw⟩
def addS (m:BMark):List UInt8:=if m.kind=1 then m.text.toList else []
theorem JB.done (h:JB W b) (hn:okN m.name) (ht:okT m.name):JB (W++addS m) (b.DoF m):=by
 unfold BuD.DoF
 by_cases he:b.err=0
 ·rw[if_pos he]
  have hr:JB W b.ready:=by
   obtain⟨⟨h1,h2,h3⟩,h4,h5⟩:=h
   refine⟨⟨h1,h2,h3⟩,h4,?_⟩
   unfold _root_.Go.Proofs.YtgepobccoffnaaaGreatDoor.sw at h5 ⊢
   rw[Prod.mk.injEq]at h5
   exact Prod.ext rfl h5.2
  unfold BuD.doF addS
  by_cases h0:m.kind<1∨6<m.kind
  ·rw[if_pos h0,if_neg (by omega),List.append_nil]
   exact h
  ·rw[if_neg h0]
   by_cases h1:m.kind=1
   ·have hs:b.skip=false:=congrArg Prod.fst h.sw
    have hm:b.headM m=m:=by unfold BuD.headM;rw[hs];rfl
    rw[if_pos h1,if_pos h1,hm]
    by_cases h2:m.text.toList.isEmpty=true
    ·rw[if_pos h2]
     rw[List.isEmpty_iff]at h2
     rw[h2,List.append_nil]
     exact hr
    ·rw[if_neg h2]
     exact hr.texts h1 8998
   ·have hf:b.ready.flush=b.ready:=flush_none (congrArg Prod.snd hr.sw)
    rw[if_neg h1,if_neg h1,List.append_nil,hf]
    by_cases h2:m.kind=4∨m.kind=5
    ·rw[if_pos h2];exact hr
    ·rw[if_neg h2]
     exact JB.again h1 hn ht 9000 hr
 ·rw[if_neg he]
  exact⟨h.jt.dead he _,h.md,h.sw⟩
theorem JB.runs: ∀(l:List BMark) {b:BuD} {W:List UInt8},JB W b→(∀m∈l,okN m.name∧okT m.name)→JB (W++(l.map addS).flatten) (b.runs l)
 | [],b,W,h,_=>by rw[List.map_nil,List.flatten_nil,List.append_nil];exact h
 |m::l,b,W,h,hl=>by
  obtain⟨h1,h2⟩:=hl m List.mem_cons_self
  have:=JB.runs l (h.done h1 h2) fun x hx=>hl x (List.mem_cons_of_mem _ hx)
  rw[List.map_cons,List.flatten_cons,←List.append_assoc]
  exact this
end
end
end Go.Proofs.YtgepobccoffnaaaGreatDoor
