/- Texts joined for a claim: BuCnt, BuAt, BuOk, BuBase, BuA: plain laws and contracts. No conditions beyond those that each lemma types. -/
import Derived.Test.YtpnagbgpbajfeaaGreatDoorQ18
import Derived.Test.YtpnagbgpbajfeaaGreatDoorQ21
set_option linter.unusedVariables false
set_option linter.unusedSimpArgs false
set_option maxRecDepth 100000
set_option maxHeartbeats 8000000
namespace Go.Proofs.YtpnagbgpbajfeaaGreatDoor
open Go.RowKit Mem
theorem elemF_lt {T:TreeD} {x:Int} (h:elemF T x=true):0≤x∧x<T.nodes.length:=by
 unfold elemF isF at h
 simp at h
 omega
theorem set_cnt {n:Int} (hn:n≠ -1): ∀(e:List Int) (i:Nat),(e.set i n).count (-1)≤e.count (-1)
 | [],_=>Nat.le_refl _
 |x::r,0=>by
  rw[List.set_cons_zero,List.count_cons,List.count_cons,if_neg (by simpa using hn)]
  omega
 |x::r,i+1=>by
  rw[List.set_cons_succ,List.count_cons,List.count_cons]
  have:=set_cnt hn r i
  omega
theorem turnR_cnt (b:Int): ∀(r:List Int) (c:Nat) (S:TS),(turnR b r c S).1.ent.count (-1)≤S.ent.count (-1)
 | [],_,_=>Nat.le_refl _
 |x::r,c,S=>by
  rw[turnR]
  split
  ·split
   ·exact Nat.le_trans (turnR_cnt b r (c+1) _) ((dropF_sub _ _).count_le _)
   ·split
    ·rename_i h0 _ he
     obtain⟨hn, -⟩:=likeF_new he
     exact Nat.le_trans (turnR_cnt b r (c+1) ⟨(putE (likeF S.T x).1 (likeF S.T x).2.1 0 S.last).1,swapF S.l x (likeF S.T x).2.1,S.ent.set (rfind S.ent x).toNat (likeF S.T x).2.1,if S.last=b then rfind S.ent x+1 else S.keep,(likeF S.T x).2.1⟩) (set_cnt (by rw[hn];omega) _ _)
    ·exact Nat.le_refl _
  ·exact turnR_cnt b r (c+1) _
theorem closeL_cnt {T:TreeD} {l ent:List Int} (f b keep:Int):(closeL T l ent f b keep).2.2.1.count (-1)≤ent.count (-1):=by
 unfold closeL
 split
 ·rename_i he
  obtain⟨hn, -⟩:=likeF_new he
  refine Nat.le_trans (Nat.le_of_eq (insAt_count _ _ _ _)) ?_
  rw[if_neg (by rw[hn];omega)]
  exact(dropF_sub _ _).count_le _
 ·exact Nat.le_refl _
theorem turnL_cnt {T:TreeD} {l ent:List Int} (on:Bool) (f b:Int):(turnL T l ent on f b).2.2.1.count (-1)≤ent.count (-1):=by
 have h1:=turnR_cnt b (betweenF l f b).reverse 1 ⟨T,l,ent,rfind ent f,b⟩
 unfold turnL
 simp only
 split
 ·exact Nat.le_trans (closeL_cnt _ _ _) h1
 ·exact h1
theorem adoptR_cnt (on:Bool) (name:ByteArray): ∀(r t:Nat) (S:AS),(adoptR on name r t S).1.ent.count (-1)≤S.ent.count (-1)
 |0,_,_=>Nat.le_refl _
 |r+1,t,S=>by
  rw[adoptR]
  split
  ·exact Nat.le_refl _
  ·split
   ·exact(rmF_sub _ _).count_le _
   ·split
    ·exact Nat.le_refl _
    ·split
     ·exact(rmF_sub _ _).count_le _
     ·have h1:=turnL_cnt (T:=S.T) (l:=S.l) (ent:=S.ent) on (findF S.T S.ent name) (blockF S.T S.l (findF S.T S.ent name))
      split
      ·exact Nat.le_trans (adoptR_cnt on name r (t+1) ⟨_,_,_⟩) h1
      ·exact h1
theorem adoptL_cnt (S:AS) (on:Bool) (name:ByteArray):(adoptL on name S).1.ent.count (-1)≤S.ent.count (-1):=by
 unfold adoptL
 split
 ·exact Nat.le_refl _
 ·exact adoptR_cnt on name 8 0 S
theorem restR_cnt (on:Bool): ∀(r i:Nat) (S:AS),(restR on r i S).1.ent.count (-1)≤S.ent.count (-1)
 |0,_,_=>Nat.le_refl _
 |r+1,i,S=>by
  rw[restR]
  split
  ·rename_i he
   by_cases hmm:(S.T.nodes.length:Int)-1<S.T.most
   ·obtain⟨q1,q2,q3⟩:=insertL_yes hmm S.l on (spaceQ S.T (S.ent.getD i 0)) (nameQ S.T (S.ent.getD i 0)) (attrsQ S.T (S.ent.getD i 0))
    have hn:(insertL S.T S.l on (spaceQ S.T (S.ent.getD i 0)) (nameQ S.T (S.ent.getD i 0)) (attrsQ S.T (S.ent.getD i 0))).2.2.1=S.T.nodes.length:=congrArg Prod.fst q2
    exact Nat.le_trans (restR_cnt on r (i+1) ⟨(insertL S.T S.l on (spaceQ S.T (S.ent.getD i 0)) (nameQ S.T (S.ent.getD i 0)) (attrsQ S.T (S.ent.getD i 0))).1,(insertL S.T S.l on (spaceQ S.T (S.ent.getD i 0)) (nameQ S.T (S.ent.getD i 0)) (attrsQ S.T (S.ent.getD i 0))).2.1,S.ent.set i (insertL S.T S.l on (spaceQ S.T (S.ent.getD i 0)) (nameQ S.T (S.ent.getD i 0)) (attrsQ S.T (S.ent.getD i 0))).2.2.1⟩) (set_cnt (by rw[hn];omega) _ _)
   ·rw[insertL_no hmm]at he
    cases he
  ·exact Nat.le_refl _
theorem restL_cnt (S:AS) (on:Bool):(restL on S).1.ent.count (-1)≤S.ent.count (-1):=restR_cnt on _ _ S
theorem pushF_cnt (T:TreeD) (ent:List Int) {n:Int} (hn:n≠ -1):(pushF T ent n).count (-1)≤ent.count (-1):=by
 unfold pushF
 have h1:([n]:List Int).count (-1)=0:=List.count_eq_zero.2 fun h=>hn (List.mem_singleton.1 h).symm
 rw[List.count_append,h1]
 split
 ·exact(dropF_sub _ _).count_le _
 ·exact Nat.le_refl _
theorem len_cnt: ∀(n:Nat) (e:List Int),(∀x∈e,x= -1∨(0≤x∧x<n))→(∀x,x≠ -1→e.count x≤1)→e.length≤e.count (-1)+n
 |0,e,h,_=>by
  rw[List.count_eq_length.2 fun x hx=>by rcases h x hx with h|h <;>omega]
  exact Nat.le_refl _
 |n+1,e,h,h1=>by
  have hf: ∀x,x≠(n:Int)→(e.filter fun y=>y !=(n:Int)).count x=e.count x:=fun x hx=>List.count_filter (by simpa using hx)
  have h0:(e.filter fun y=>y !=(n:Int)).count (n:Int)=0:=List.count_eq_zero.2 fun hx=>by simpa using (List.mem_filter.1 hx).2
  have:=len_cnt n (e.filter fun y=>y !=(n:Int)) (fun x hx=>by
   obtain⟨hx1,hx2⟩:=List.mem_filter.1 hx
   have hne:x≠(n:Int):=by simpa using hx2
   rcases h x hx1 with h|h
   ·exact .inl h
   ·exact .inr (by omega)) (fun x hx=>by
   by_cases hxn:x=(n:Int)
   ·rw[hxn,h0];omega
   ·rw[hf x hxn];exact h1 x hx)
  rw[hf (-1) (by omega)]at this
  have hl:=List.length_eq_countP_add_countP (fun y=>y !=(n:Int)) (l:=e)
  rw[←List.countP_eq_length_filter]at this
  have hc:e.countP (fun y=>decide ¬((y !=(n:Int))=true))=e.count (n:Int):=by
   rw[List.count]
   congr 1
   funext y
   cases h:(y==(n:Int)) <;>simp[bne,h]
  have:=h1 (n:Int) (by omega)
  rw[hc]at hl
  omega
theorem FI.ent_len {T:TreeD} {l ent:List Int} (h:FI T l ent):ent.length≤ent.count (-1)+T.nodes.length :=
 len_cnt _ _ (fun x hx=>(h.eel x hx).imp id elemF_lt) h.one
theorem FI.l_len {T:TreeD} {l ent:List Int} (h:FI T l ent):l.length≤T.nodes.length:=by
 have:=len_cnt T.nodes.length l (fun x hx=> .inr (elemF_lt (h.lel x hx))) (fun x _=>h.lnd x)
 have h0:l.count (-1)=0:=List.count_eq_zero.2 fun hx=>by have:=elemF_lt (h.lel _ hx);omega
 omega
section
def AtP (P:ByteArray→List Pair→Prop) (T:TreeD):Prop:=P ⟨#[]⟩ []∧ ∀d∈T.nodes,P d.name d.attrs
section
variable {P:ByteArray→List Pair→Prop} {T:TreeD}
theorem attrsQ_at (h:AtP P T) (n:Int):P (nameQ T n) (attrsQ T n):=by
 unfold nameQ attrsQ
 split
 ·cases e:T.nodes[n.toNat]? with
  |none=>exact h.1
  |some d=>exact h.2 d (List.mem_of_getElem? e)
 ·exact h.1
theorem addF_at (h:AtP P T) {d:ND} (hd:P d.name d.attrs):AtP P (addF T d):=⟨h.1,fun x hx=>by
 rcases List.mem_append.1 hx with hx|hx
 ·exact h.2 x hx
 ·rw[List.mem_singleton.1 hx];exact hd⟩
theorem modN_at (h:AtP P T) (n:Int) {f:ND→ND} (hf: ∀d,(f d).name=d.name∧(f d).attrs=d.attrs):AtP P (modN T n f):=⟨h.1,fun x hx=>by
 obtain⟨i,hi⟩:=List.mem_iff_getElem?.1 hx
 simp only[modN,List.getElem?_modify]at hi
 cases e:T.nodes[i]? with
 |none=>rw[e]at hi;cases hi
 |some d =>
  rw[e]at hi
  have hd:=h.2 d (List.mem_of_getElem? e)
  simp only[Option.map_eq_map,Option.map_some,Option.some.injEq]at hi
  rw[←hi]
  split
  ·rw[(hf d).1,(hf d).2];exact hd
  ·exact hd⟩
theorem mkF_at (h:AtP P T) {d:ND} (hd:P d.name d.attrs):AtP P (mkF T d).1:=by
 unfold mkF
 split
 ·exact addF_at h hd
 ·exact h
theorem likeF_at (h:AtP P T) (n:Int):AtP P (likeF T n).1:=by
 unfold likeF
 split
 ·exact mkF_at h (attrsQ_at h n)
 ·exact h
theorem insertF_at (h:AtP P T) (a:Int) (i:Nat) (n:Int):AtP P (insertF T a i n):=modN_at (f:=setParent a) (modN_at (f:=setKids _) h _ fun _=>⟨rfl,rfl⟩) _ fun _=>⟨rfl,rfl⟩
theorem takeF_at (h:AtP P T) (n:Int):AtP P (takeF T n):=by
 refine modN_at (f:=setParent (-1)) ?_ _ fun _=>⟨rfl,rfl⟩
 unfold kidsOff
 split
 ·exact modN_at (f:=setKids _) h _ fun _=>⟨rfl,rfl⟩
 ·exact h
theorem putE_at (h:AtP P T) (a b n:Int):AtP P (putE T a b n).1:=by
 unfold putE
 split
 ·exact insertF_at (takeF_at h n) _ _ _
 ·exact h
theorem moveF_at (b:Int): ∀(l:List Int) (U:TreeD),AtP P U→AtP P (moveF U b l)
 | [],_,h=>h
 |_::r,_,h=>moveF_at b r _ (putE_at h _ _ _)
theorem moveE_at (h:AtP P T) (a b:Int):AtP P (moveE T a b).1:=by
 unfold moveE
 split
 ·exact moveF_at _ _ _ h
 ·exact h
theorem textE_at (h:AtP P T) (a b:Int) (s:ByteArray):AtP P (textE T a b s).1:=by
 unfold textE
 split
 ·split
  ·exact h
  ·unfold textAt
   split
   ·exact modN_at (f:=addText s) h _ fun _=>⟨rfl,rfl⟩
   ·split
    ·exact insertF_at (addF_at h h.1) _ _ _
    ·exact h
 ·exact h
theorem insertL_at (h:AtP P T) (l:List Int) (on:Bool) (sp:Int) (nm:ByteArray) {at':List Pair} (ha:P nm at'):AtP P (insertL T l on sp nm at').1:=by
 unfold insertL
 simp only
 split
 ·exact putE_at (mkF_at h ha) _ _ _
 ·exact mkF_at h ha
theorem turnR_at (b:Int): ∀(r:List Int) (c:Nat) (S:TS),AtP P S.T→AtP P (turnR b r c S).1.T
 | [],_,_,h=>h
 |x::r,c,S,h=>by
  rw[turnR]
  split
  ·split
   ·exact turnR_at b r (c+1) _ h
   ·split
    ·exact turnR_at b r (c+1) _ (putE_at (likeF_at h x) _ _ _)
    ·exact likeF_at h x
  ·exact turnR_at b r (c+1) _ h
theorem closeL_at (h:AtP P T) (l ent:List Int) (f b keep:Int):AtP P (closeL T l ent f b keep).1:=by
 unfold closeL
 split
 ·exact putE_at (moveE_at (likeF_at h f) _ _) _ _ _
 ·exact likeF_at h f
theorem turnL_at (h:AtP P T) (l ent:List Int) (on:Bool) (f b:Int):AtP P (turnL T l ent on f b).1:=by
 have h1:=turnR_at b (betweenF l f b).reverse 1 ⟨T,l,ent,rfind ent f,b⟩ h
 unfold turnL
 simp only
 split
 ·exact closeL_at (putE_at h1 _ _ _) _ _ _ _ _
 ·exact h1
theorem adoptR_at (on:Bool) (name:ByteArray): ∀(r t:Nat) (S:AS),AtP P S.T→AtP P (adoptR on name r t S).1.T
 |0,_,_,h=>h
 |r+1,t,S,h=>by
  rw[adoptR]
  split
  ·exact h
  ·split
   ·exact h
   ·split
    ·exact h
    ·split
     ·exact h
     ·have h1:=turnL_at h S.l S.ent on (findF S.T S.ent name) (blockF S.T S.l (findF S.T S.ent name))
      split
      ·exact adoptR_at on name r (t+1) ⟨_,_,_⟩ h1
      ·exact h1
theorem adoptL_at {S:AS} (h:AtP P S.T) (on:Bool) (name:ByteArray):AtP P (adoptL on name S).1.T:=by
 unfold adoptL
 split
 ·exact h
 ·exact adoptR_at on name 8 0 S h
theorem restR_at (on:Bool): ∀(r i:Nat) (S:AS),AtP P S.T→AtP P (restR on r i S).1.T
 |0,_,_,h=>h
 |r+1,i,S,h=>by
  rw[restR]
  have h1:=insertL_at h S.l on (spaceQ S.T (S.ent.getD i 0)) (nameQ S.T (S.ent.getD i 0)) (attrsQ_at h (S.ent.getD i 0))
  split
  ·exact restR_at on r (i+1) ⟨_,_,_⟩ h1
  ·exact h1
theorem restL_at {S:AS} (h:AtP P S.T) (on:Bool):AtP P (restL on S).1.T:=restR_at on _ _ S h
end
def Shorts:Pair→Prop:=fun p=>p.2.size≤maxLen
def Fits (nm:ByteArray) (l:List Pair):Prop:=nm.size≤maxLen∧ ∀p∈l,Shorts p
theorem fits_none {nm:ByteArray} (h:nm.size≤maxLen):Fits nm []:=⟨h,fun _ hp=>absurd hp (by simp)⟩
end
section
structure Ok (c:Nat) (s:Int) (b:BuD):Prop where
 fi:FI b.S.T b.S.l b.S.ent
 n1:1≤b.S.T.nodes.length
 lm:Lm 1000 b.S.T
 hard:b.S.ent.count (-1)≤c
 soft:b.err=0→(b.S.ent.count (-1):Int)≤b.S.T.nodes.length+s
 at':AtP Fits b.S.T
namespace BuD
theorem keep_S (b:BuD) (e:Int):(b.keep e).S=b.S:=by
 unfold keep fail
 split
 ·rfl
 ·split <;>rfl
theorem keep_err {b:BuD} {e:Int} (h:(b.keep e).err=0):e=0∧b.err=0:=by
 unfold keep fail at h
 split at h
 ·exact⟨‹_›,h⟩
 ·split at h
  ·exact absurd h ‹_›
  ·exact absurd h ‹_›
theorem keep_zero (b:BuD):b.keep 0=b:=by simp[keep]
theorem keep_all (b:BuD) (e:Int):(b.keep e).on=b.on∧(b.keep e).mode=b.mode∧(b.keep e).back=b.back∧(b.keep e).head=b.head∧(b.keep e).wait=b.wait∧(b.keep e).skip=b.skip∧(b.keep e).raw=b.raw∧(b.keep e).name=b.name∧(b.keep e).used=b.used:=by
 unfold keep fail
 split
 ·exact⟨rfl,rfl,rfl,rfl,rfl,rfl,rfl,rfl,rfl⟩
 ·split <;>exact⟨rfl,rfl,rfl,rfl,rfl,rfl,rfl,rfl,rfl⟩
end BuD
section
variable {c:Nat} {s:Int} {b:BuD}
theorem Ok.len (h:Ok c s b):b.S.l.length≤1001∧b.S.ent.length≤c+1001:=by
 have h1:=h.fi.l_len
 have h2:=h.fi.ent_len
 have h3:=h.lm.1
 have h4:=h.hard
 omega
theorem Ok.more {c':Nat} {s':Int} (h:Ok c s b) (hc:c≤c') (hs:s≤s'):Ok c' s' b :=
 ⟨h.fi,h.n1,h.lm,Nat.le_trans h.hard hc,fun he=>by have:=h.soft he;omega,h.at'⟩
theorem Ok.of {b':BuD} (h:Ok c s b) (hS:b'.S=b.S) (he:b'.err=0→b.err=0):Ok c s b' :=
 ⟨hS▸h.fi,hS▸h.n1,hS▸h.lm,hS▸h.hard,fun e=>hS▸h.soft (he e),hS▸h.at'⟩
theorem Ok.keep (h:Ok c s b) (e:Int):Ok c s (b.keep e):=h.of (b.keep_S e) fun he=>(BuD.keep_err he).2
theorem Ok.fresh (h:Ok c 0 b) (he:b.err=0):Ok 1001 0 b:=by
 have h1:=h.soft he
 have h2:=h.lm.1
 exact⟨h.fi,h.n1,h.lm,by omega,h.soft,h.at'⟩
theorem Ok.insSp (h:Ok c s b) (sp:Int) (name:ByteArray) {attrs:List Pair} (ha:Fits name attrs):Ok c (s-1) (b.insSp sp name attrs).1:=by
 have e:(b.insSp sp name attrs).1.S=⟨(insertL b.S.T b.S.l b.on sp name attrs).1,(insertL b.S.T b.S.l b.on sp name attrs).2.1,b.S.ent⟩:=BuD.keep_S _ _
 refine⟨?_,?_,?_,?_,fun he=> ?_,?_⟩
 ·rw[e];exact h.fi.insert h.n1 b.on sp name attrs
 ·rw[e];exact Nat.le_trans h.n1 (insertL_mor b.S.T b.S.l b.on sp name attrs).1
 ·rw[e];exact insertL_lm h.lm _ _ _ _ _
 ·rw[e];exact h.hard
 ·obtain⟨h1,h2⟩:=BuD.keep_err he
  rw[e]
  by_cases hm:(b.S.T.nodes.length:Int)-1<b.S.T.most
  ·have:=h.soft h2
   have h3:=(insertL_yes hm b.S.l b.on sp name attrs).2.2
   show(b.S.ent.count (-1):Int)≤((insertL b.S.T b.S.l b.on sp name attrs).1.nodes.length:Int)+(s-1)
   rw[h3]
   omega
  ·rw[insertL_no hm]at h1
   exact absurd (show(43:Int)=0 from h1) (by decide)
 ·rw[e];exact insertL_at h.at' _ _ _ _ ha
theorem Ok.ins (h:Ok c s b) (name:ByteArray) {attrs:List Pair} (ha:Fits name attrs):Ok c (s-1) (b.ins name attrs):=h.insSp 0 name ha
theorem Ok.putText (h:Ok c s b) (t:ByteArray):Ok c s (b.putText t):=by
 have hm:=textE_mor b.S.T (placeQ b.S.T b.S.l b.on 0).1 (placeQ b.S.T b.S.l b.on 0).2 t
 refine Ok.keep (b:= {b with S:=⟨(textE b.S.T (placeQ b.S.T b.S.l b.on 0).1 (placeQ b.S.T b.S.l b.on 0).2 t).1,b.S.l,b.S.ent⟩,used:=b.used+t.size}) ⟨h.fi.grow hm,Nat.le_trans h.n1 hm.1,textE_lm _ _ _ h.lm,h.hard,fun he=> ?_,textE_at h.at' _ _ _⟩ _
 have:=h.soft he
 have:=hm.1
 show(b.S.ent.count (-1):Int)≤((textE b.S.T (placeQ b.S.T b.S.l b.on 0).1 (placeQ b.S.T b.S.l b.on 0).2 t).1.nodes.length:Int)+s
 omega
theorem Ok.stk (h:Ok c s b) {l:List Int} (hl:l.Sublist b.S.l):Ok c s (b.stk l) :=
 ⟨h.fi.sub hl (List.Sublist.refl _),h.n1,h.lm,h.hard,h.soft,h.at'⟩
theorem Ok.lst (h:Ok c s b) {e:List Int} (hl:e.Sublist b.S.ent):Ok c s (b.lst e) :=
 ⟨h.fi.sub (List.Sublist.refl _) hl,h.n1,h.lm,Nat.le_trans (hl.count_le _) h.hard,fun he=>by
  have:=h.soft he
  have:=hl.count_le (-1)
  show(e.count (-1):Int)≤(b.S.T.nodes.length:Int)+s
  omega,h.at'⟩
theorem rev_sub {l r:List Int} (h:r.Sublist l.reverse):r.reverse.Sublist l:=by
 have:=h.reverse
 rwa [List.reverse_reverse]at this
theorem untilF_sub (T:TreeD) (names:List ByteArray): ∀l:List Int,(untilF T names l).Sublist l
 | []=>List.Sublist.refl _
 |x::r=>by
  rw[untilF]
  split
  ·exact List.sublist_cons_self _ _
  ·exact(untilF_sub T names r).trans (List.sublist_cons_self _ _)
theorem stClear_sub (T:TreeD) (names:List ByteArray): ∀l:List Int,(stClear T names l).Sublist l
 | []=>List.Sublist.refl _
 |x::r=>by
  rw[stClear]
  split
  ·exact List.Sublist.refl _
  ·exact(stClear_sub T names r).trans (List.sublist_cons_self _ _)
theorem stImply_sub (T:TreeD) (but:ByteArray): ∀l:List Int,(stImply T but l).Sublist l
 | []=>List.Sublist.refl _
 |x::r=>by
  rw[stImply]
  split
  ·exact(stImply_sub T but r).trans (List.sublist_cons_self _ _)
  ·exact List.Sublist.refl _
theorem Ok.pop (h:Ok c s b):Ok c s b.pop:=h.stk (List.dropLast_sublist _)
theorem Ok.sremove (h:Ok c s b) (n:Int):Ok c s (b.sremove n):=h.stk (rmF_sub _ _)
theorem Ok.until' (h:Ok c s b) (names:List ByteArray):Ok c s (b.until' names):=h.stk (rev_sub (untilF_sub _ _ _))
theorem Ok.clear' (h:Ok c s b) (names:List ByteArray):Ok c s (b.clear' names):=h.stk (rev_sub (stClear_sub _ _ _))
theorem Ok.imply (h:Ok c s b) (but:ByteArray):Ok c s (b.imply but):=h.stk (rev_sub (stImply_sub _ _ _))
theorem Ok.lclear (h:Ok c s b):Ok c s b.lclear:=h.lst (clearF_sub _)
theorem Ok.lremove (h:Ok c s b) (n:Int):Ok c s (b.lremove n):=h.lst (rmF_sub _ _)
theorem Ok.lmark (h:Ok c s b):Ok (c+1) (s+1) b.lmark:=by
 have hc:(b.S.ent++ [-1]).count (-1)=b.S.ent.count (-1)+1:=by simp
 refine⟨h.fi.mark,h.n1,h.lm,?_,fun he=> ?_,h.at'⟩
 ·show(b.S.ent++ [-1]).count (-1)≤_
  rw[hc];exact Nat.succ_le_succ h.hard
 ·have:=h.soft he
  show((b.S.ent++ [-1]).count (-1):Int)≤(b.S.T.nodes.length:Int)+(s+1)
  rw[hc]
  omega
theorem Ok.restore (h:Ok c s b):Ok c s b.restore:=by
 obtain⟨h1,h2⟩:=restL_fi h.fi h.n1 b.on
 have h3:=restL_cnt b.S b.on
 refine Ok.keep (b:= {b with S:=(restL b.on b.S).1}) ⟨h1,Nat.le_trans h.n1 h2.1,restL_lm h.lm _,Nat.le_trans h3 h.hard,fun he=> ?_,restL_at h.at' _⟩ _
 have:=h.soft he
 have:=h2.1
 show(((restL b.on b.S).1.ent).count (-1):Int)≤((restL b.on b.S).1.T.nodes.length:Int)+s
 omega
theorem Ok.adopt (h:Ok c s b) (name:ByteArray):Ok c s (b.adopt name):=by
 obtain⟨h1,h2⟩:=adoptL_fi h.fi b.on name
 have h3:=adoptL_cnt b.S b.on name
 refine Ok.keep (b:= {b with S:=(adoptL b.on name b.S).1}) ⟨h1,Nat.le_trans h.n1 h2.1,adoptL_lm h.lm _ _,Nat.le_trans h3 h.hard,fun he=> ?_,adoptL_at h.at' _ _⟩ _
 have:=h.soft he
 have:=h2.1
 show(((adoptL b.on name b.S).1.ent).count (-1):Int)≤((adoptL b.on name b.S).1.T.nodes.length:Int)+s
 omega
theorem Ok.lpush (h:Ok c s b) {n:Int} (hel:elemF b.S.T n=true) (hn: ¬n∈b.S.ent):Ok c s (b.lpush n):=by
 have h3:=pushF_cnt b.S.T b.S.ent (n:=n) (by have:=elemF_lt hel;omega)
 refine⟨h.fi.epush hel hn,h.n1,h.lm,Nat.le_trans h3 h.hard,fun he=> ?_,h.at'⟩
 have:=h.soft he
 show((pushF b.S.T b.S.ent n).count (-1):Int)≤(b.S.T.nodes.length:Int)+s
 omega
theorem Ok.insN (h:Ok c s b) (name:ByteArray) (attrs:List Pair):b.insN name attrs=0∨elemF (b.ins name attrs).S.T (b.insN name attrs)=true∧ ¬b.insN name attrs∈(b.ins name attrs).S.ent∧ ¬b.insN name attrs∈b.S.l:=by
 have e:(b.ins name attrs).S=⟨(insertL b.S.T b.S.l b.on 0 name attrs).1,(insertL b.S.T b.S.l b.on 0 name attrs).2.1,b.S.ent⟩:=BuD.keep_S _ _
 by_cases hm:(b.S.T.nodes.length:Int)-1<b.S.T.most
 ·have h2:=(insertL_yes hm b.S.l b.on 0 name attrs).2.1
  have e2:b.insN name attrs=b.S.T.nodes.length:=congrArg Prod.fst h2
  refine .inr ⟨?_,?_,?_⟩
  ·rw[e,e2];exact insertL_new h.n1 hm
  ·rw[e,e2];exact(h.fi.fresh rfl).2
  ·rw[e2];exact(h.fi.fresh rfl).1
 ·left
  show(insertL b.S.T b.S.l b.on 0 name attrs).2.2.1=0
  rw[insertL_no hm]
end
end
section
structure BE where
 w0:World
 tb:Nat
 sb:Nat
 lb:Nat
 bb:Nat
 mb:Nat
 ex:Nat→Prop
 pg:List Value
 a:Option Addr
 ac:Nat
def OM (E:BE):Nat→Prop:=fun k=>Own E.w0 E.ex k∨k=E.bb∨k=E.mb
def buV (E:BE) (b:BuD):List Value :=
 .pointer (some ⟨E.tb,0,none⟩):: .pointer (some ⟨E.sb,0,none⟩):: .pointer (some ⟨E.lb,0,none⟩):: .int .i64 b.mode:: .int .i64 b.back:: .int .i64 b.head:: .string b.wait:: .bool b.skip:: .int .i64 b.raw:: .string b.name:: .int .i64 b.err::E.pg
def bmV (E:BE) (m:BMark):List Value:= [.int .i64 m.kind,.string m.name,.slice E.a m.attrs.length E.ac,.bool m.self,.string m.text]
structure BM (E:BE) (b:BuD) (w:World):Prop where
 li:LI E.w0 b.used E.tb E.sb E.lb E.ex b.S.T b.S.l b.S.ent b.on w
 row:Row w E.bb (buV E b)
 exb:E.ex E.bb
 b0:E.w0.heap.size≤E.bb
structure MO (E:BE) (m:BMark) (w:World):Prop where
 row:Row w E.mb (bmV E m)
 exm:E.ex E.mb
 m0:E.w0.heap.size≤E.mb
 ne:E.bb≠E.mb
 att:AtF (OM E) w E.a (pairsV m.attrs)
 nil:E.a=none→E.ac=0
 alen:m.attrs.length≤1048576
 ash: ∀p∈m.attrs,Shorts p
 tlen:m.text.size≤4611686018427387904
 nlen:m.name.size≤maxLen
structure SX (E:BE) (ws:World) (b:BuD) (m:BMark) (w:World):Prop where
 bm:BM E b w
 mo:MO E m w
 keep:Keeps (OM E) ws w
structure SM (E:BE) (ws:World) (c:Nat) (s:Int) (b:BuD) (m:BMark) (w:World):Prop where
 sx:SX E ws b m w
 ok:Ok c s b
section
variable {E:BE} {ws w w':World} {c:Nat} {s:Int} {b b':BuD} {m m':BMark}
theorem SX.call (h:SX E ws b m w) (hl:LI E.w0 b'.used E.tb E.sb E.lb E.ex b'.S.T b'.S.l b'.S.ent b'.on w') (hk:Keeps (Own E.w0 E.ex) w w') (hv:buV E b'=buV E b):SX E ws b' m w':=by
 obtain⟨⟨h1,h2,h3,h4⟩,⟨k1,k2,k3,k4,k5,k6,k7,k8,k9,kA⟩,h5⟩:=h
 have hb:w'.heap[E.bb]?=w.heap[E.bb]?:=hk.block _ h2.lt fun hx=>hx.2 h3
 have hm:w'.heap[E.mb]?=w.heap[E.mb]?:=hk.block _ k1.lt fun hx=>hx.2 k2
 have hko:Keeps (OM E) w w':=hk.mono fun _ _ hx=> .inl hx
 exact⟨⟨hl,hv▸h2.kept hb,h3,h4⟩,⟨k1.kept hm,k2,k3,k4,k5.kept hko,k6,k7,k8,k9,kA⟩,h5.trans hko⟩
theorem SX.world (h:SX E ws b m w) (hb:Below w.heap.size w w'):SX E ws b m w':=h.call (h.bm.li.world hb) (Keeps.ofBelow hb) rfl
theorem SX.alloc (h:SX E ws b m w) (o:Obj):SX E ws b m (w.alloc o):=h.world ((Below.refl _ w).alloc (Nat.le_refl _) _)
theorem SX.setb (h:SX E ws b m w) (j:Nat) (v:Value) (hv:(buV E b).set j v=buV E b') (hu:b'.used=b.used) (hS:b'.S=b.S) (ho:b'.on=b.on):SX E ws b' m (w.setCell ⟨E.bb,j,none⟩ v):=by
 obtain⟨⟨h1,h2,h3,h4⟩,⟨k1,k2,k3,k4,k5,k6,k7,k8,k9,kA⟩,h5⟩:=h
 have hk1:Keeps (fun k=>k=E.bb) w (w.setCell ⟨E.bb,j,none⟩ v):=Keeps.set (F:=fun k=>k=E.bb) (Keeps.refl _ w) (p:=⟨E.bb,j,none⟩) (.inl rfl) _
 have hko:Keeps (OM E) w (w.setCell ⟨E.bb,j,none⟩ v):=hk1.mono fun _ _ hx=> .inr (.inl hx)
 have hli:=h1.foreign (ex':=E.ex) hk1 (fun k hx=>by subst hx;exact⟨h3,h4⟩) fun k hx=>⟨.inl hx,Nat.lt_of_lt_of_le (h1.exlt k hx) hk1.size⟩
 refine⟨⟨?_,hv▸h2.set j v,h3,h4⟩,⟨k1.kept (heap_setCell_other _ _ _ _ fun e=>k4 e.symm),k2,k3,k4,k5.kept hko,k6,k7,k8,k9,kA⟩,h5.trans hko⟩
 rw[hu,hS,ho]
 exact hli
theorem SX.setm (h:SX E ws b m w) (j:Nat) (v:Value) (hv:(bmV E m).set j v=bmV E m') (ha:m'.attrs=m.attrs) (ht:m'.text.size≤m.text.size) (hn:m'.name.size≤maxLen):SX E ws b m' (w.setCell ⟨E.mb,j,none⟩ v):=by
 obtain⟨⟨h1,h2,h3,h4⟩,⟨k1,k2,k3,k4,k5,k6,k7,k8,k9,kA⟩,h5⟩:=h
 have hk1:Keeps (fun k=>k=E.mb) w (w.setCell ⟨E.mb,j,none⟩ v):=Keeps.set (F:=fun k=>k=E.mb) (Keeps.refl _ w) (p:=⟨E.mb,j,none⟩) (.inl rfl) _
 have hko:Keeps (OM E) w (w.setCell ⟨E.mb,j,none⟩ v):=hk1.mono fun _ _ hx=> .inr (.inr hx)
 have hli:=h1.foreign (ex':=E.ex) hk1 (fun k hx=>by subst hx;exact⟨k2,k3⟩) fun k hx=>⟨.inl hx,Nat.lt_of_lt_of_le (h1.exlt k hx) hk1.size⟩
 refine⟨⟨hli,h2.kept (heap_setCell_other _ _ _ _ fun e=>k4 e),h3,h4⟩,⟨hv▸k1.set j v,k2,k3,k4,?_,k6,?_,?_,Nat.le_trans ht k9,hn⟩,h5.trans hko⟩
 ·rw[ha];exact k5.kept hko
 ·rw[ha];exact k7
 ·rw[ha];exact k8
theorem SX.mode (h:SX E ws b m w) (v:Int):SX E ws (b.goto v) m (w.setCell ⟨E.bb,3,none⟩ (.int .i64 v)):=h.setb 3 _ rfl rfl rfl rfl
theorem SX.back (h:SX E ws b m w) (v:Int):SX E ws {b with back:=v} m (w.setCell ⟨E.bb,4,none⟩ (.int .i64 v)):=h.setb 4 _ rfl rfl rfl rfl
theorem SX.head (h:SX E ws b m w) (v:Int):SX E ws {b with head:=v} m (w.setCell ⟨E.bb,5,none⟩ (.int .i64 v)):=h.setb 5 _ rfl rfl rfl rfl
theorem SX.wait (h:SX E ws b m w) (v:ByteArray):SX E ws {b with wait:=v} m (w.setCell ⟨E.bb,6,none⟩ (.string v)):=h.setb 6 _ rfl rfl rfl rfl
theorem SX.skip (h:SX E ws b m w) (v:Bool):SX E ws {b with skip:=v} m (w.setCell ⟨E.bb,7,none⟩ (.bool v)):=h.setb 7 _ rfl rfl rfl rfl
theorem SX.raw (h:SX E ws b m w) (v:Int):SX E ws {b with raw:=v} m (w.setCell ⟨E.bb,8,none⟩ (.int .i64 v)):=h.setb 8 _ rfl rfl rfl rfl
theorem SX.name (h:SX E ws b m w) (v:ByteArray):SX E ws {b with name:=v} m (w.setCell ⟨E.bb,9,none⟩ (.string v)):=h.setb 9 _ rfl rfl rfl rfl
theorem SX.err (h:SX E ws b m w) (v:Int):SX E ws {b with err:=v} m (w.setCell ⟨E.bb,10,none⟩ (.int .i64 v)):=h.setb 10 _ rfl rfl rfl rfl
theorem SX.text (h:SX E ws b m w) (v:ByteArray) (hv:v.size≤m.text.size):SX E ws b {m with text:=v} (w.setCell ⟨E.mb,4,none⟩ (.string v)):=h.setm 4 _ rfl rfl hv h.mo.nlen
theorem SX.mname (h:SX E ws b m w) (v:ByteArray) (hv:v.size≤maxLen):SX E ws b {m with name:=v} (w.setCell ⟨E.mb,1,none⟩ (.string v)):=h.setm 1 _ rfl rfl (Nat.le_refl _) hv
theorem SX.bc (h:SX E ws b m w):w.cell? ⟨E.bb,0,none⟩=some (.pointer (some ⟨E.tb,0,none⟩))∧w.cell? ⟨E.bb,1,none⟩=some (.pointer (some ⟨E.sb,0,none⟩))∧w.cell? ⟨E.bb,2,none⟩=some (.pointer (some ⟨E.lb,0,none⟩))∧w.cell? ⟨E.bb,3,none⟩=some (.int .i64 b.mode) ∧
 w.cell? ⟨E.bb,4,none⟩=some (.int .i64 b.back)∧w.cell? ⟨E.bb,5,none⟩=some (.int .i64 b.head)∧w.cell? ⟨E.bb,6,none⟩=some (.string b.wait)∧w.cell? ⟨E.bb,7,none⟩=some (.bool b.skip)∧w.cell? ⟨E.bb,8,none⟩=some (.int .i64 b.raw)∧w.cell? ⟨E.bb,9,none⟩=some (.string b.name)∧w.cell? ⟨E.bb,10,none⟩=some (.int .i64 b.err):=by
 have hr:=h.bm.row
 exact⟨hr.cell (j:=0) rfl,hr.cell (j:=1) rfl,hr.cell (j:=2) rfl,hr.cell (j:=3) rfl,hr.cell (j:=4) rfl,hr.cell (j:=5) rfl,hr.cell (j:=6) rfl,hr.cell (j:=7) rfl,hr.cell (j:=8) rfl,hr.cell (j:=9) rfl,hr.cell (j:=10) rfl⟩
theorem SX.bf (h:SX E ws b m w): ∀j,j<11→w.frozen? ⟨E.bb,j,none⟩=false:=fun j hj=>h.bm.row.frozen (by simp[buV];omega)
theorem SX.mc (h:SX E ws b m w):w.cell? ⟨E.mb,0,none⟩=some (.int .i64 m.kind)∧w.cell? ⟨E.mb,1,none⟩=some (.string m.name)∧w.cell? ⟨E.mb,2,none⟩=some (.slice E.a m.attrs.length E.ac)∧w.cell? ⟨E.mb,3,none⟩=some (.bool m.self)∧w.cell? ⟨E.mb,4,none⟩=some (.string m.text):=by
 have hr:=h.mo.row
 exact⟨hr.cell (j:=0) rfl,hr.cell (j:=1) rfl,hr.cell (j:=2) rfl,hr.cell (j:=3) rfl,hr.cell (j:=4) rfl⟩
theorem SX.mf (h:SX E ws b m w):w.frozen? ⟨E.mb,1,none⟩=false∧w.frozen? ⟨E.mb,4,none⟩=false:=⟨h.mo.row.frozen (by simp[bmV]),h.mo.row.frozen (by simp[bmV])⟩
theorem MO.fits {E:BE} {m:BMark} {w:World} (h:MO E m w):Fits m.name m.attrs:=⟨h.nlen,h.ash⟩
theorem SX.at (h:SX E ws b m w):At w E.a (pairsV m.attrs):=h.mo.att.at
theorem SM.world (h:SM E ws c s b m w) (hb:Below w.heap.size w w'):SM E ws c s b m w':=⟨h.sx.world hb,h.ok⟩
theorem SM.alloc (h:SM E ws c s b m w) (o:Obj):SM E ws c s b m (w.alloc o):=⟨h.sx.alloc o,h.ok⟩
theorem SM.more {c':Nat} {s':Int} (h:SM E ws c s b m w) (hc:c≤c') (hs:s≤s'):SM E ws c' s' b m w:=⟨h.sx,h.ok.more hc hs⟩
theorem SM.mode (h:SM E ws c s b m w) (v:Int):SM E ws c s (b.goto v) m (w.setCell ⟨E.bb,3,none⟩ (.int .i64 v)):=⟨h.sx.mode v,h.ok.of rfl id⟩
theorem SM.head (h:SM E ws c s b m w) (v:Int):SM E ws c s {b with head:=v} m (w.setCell ⟨E.bb,5,none⟩ (.int .i64 v)):=⟨h.sx.head v,h.ok.of rfl id⟩
theorem SM.wait (h:SM E ws c s b m w) (v:ByteArray):SM E ws c s {b with wait:=v} m (w.setCell ⟨E.bb,6,none⟩ (.string v)):=⟨h.sx.wait v,h.ok.of rfl id⟩
theorem SM.skip (h:SM E ws c s b m w) (v:Bool):SM E ws c s {b with skip:=v} m (w.setCell ⟨E.bb,7,none⟩ (.bool v)):=⟨h.sx.skip v,h.ok.of rfl id⟩
theorem SM.raw (h:SM E ws c s b m w) (v:Int):SM E ws c s {b with raw:=v} m (w.setCell ⟨E.bb,8,none⟩ (.int .i64 v)):=⟨h.sx.raw v,h.ok.of rfl id⟩
theorem SM.name (h:SM E ws c s b m w) (v:ByteArray):SM E ws c s {b with name:=v} m (w.setCell ⟨E.bb,9,none⟩ (.string v)):=⟨h.sx.name v,h.ok.of rfl id⟩
theorem SM.text (h:SM E ws c s b m w) (v:ByteArray) (hv:v.size≤m.text.size):SM E ws c s b {m with text:=v} (w.setCell ⟨E.mb,4,none⟩ (.string v)):=⟨h.sx.text v hv,h.ok⟩
theorem SM.mname (h:SM E ws c s b m w) (v:ByteArray) (hv:v.size≤maxLen):SM E ws c s b {m with name:=v} (w.setCell ⟨E.mb,1,none⟩ (.string v)):=⟨h.sx.mname v hv,h.ok⟩
theorem LI.lay {w0:World} {B tb sb lb:Nat} {ex:Nat→Prop} {T:TreeD} {l ent:List Int} {on:Bool} (h:LI w0 B tb sb lb ex T l ent on w) (o:Obj):LI w0 B tb sb lb (fun k=>ex k∨k=w.heap.size) T l ent on (w.alloc o):=by
 have hk:Keeps (fun _=>False) w (w.alloc o):=(Keeps.refl _ _).alloc o
 refine h.foreign hk (fun _ hx=>hx.elim) fun k hx=> ?_
 have hs:=World.size_alloc w o
 rcases hx with hx|hx
 ·exact⟨.inl hx,by have:=h.exlt k hx;omega⟩
 ·exact⟨.inr (by omega),by omega⟩
end
def strOf:Value→ByteArray
 | .string s=>s
 |_=>⟨#[]⟩
def namesOf (cur:Array Value):List ByteArray:=cur.toList.map strOf
theorem names_at {w:World} {cur:Array Value} {e:TypeId} (hc:strsV (namesOf cur)=cur.toList):At (w.alloc (.cells cur e)) (some ⟨w.heap.size,0,none⟩) (strsV (namesOf cur)):=at_alloc rfl hc.symm
theorem own_less {w:World} {base base':Nat} {t:TypeId} {size:Nat} {v:Value} {n:Nat} {xs:List Value} (h:w.ownsRow base t size v n xs) (hb:base'≤base):w.ownsRow base' t size v n xs :=
 ⟨h.1,h.2.imp id fun⟨g,cap,cur,h1,h2,r⟩=>⟨g,cap,cur,h1,Nat.le_trans hb h2,r⟩⟩
end
section
section
variable {E:BE} {ws w w':World} {c:Nat} {s:Int} {b b':BuD} {m m':BMark}
theorem fail_sx (h:SX E ws b m w) (e:Int):Calls Tryz.prog 29 #[.pointer (some ⟨E.bb,0,none⟩),.int .i64 e] w fun r w'=>r= .returned (.tuple #[])∧SX E ws (b.fail e) m w':=by
 have HS:=Lib.hid h
 obtain⟨-, -, -, -, -, -, -, -, -, -,d10⟩:=h.bc
 have f10:=h.bf 10 (by omega)
 have HF:Hid (b.fail e=if b.err=0 then {b with err:=e}else b):=Lib.hid rfl
 clear h
 obtain⟨er,her⟩: ∃er,er=b.err:=⟨_,rfl⟩
 rw[←her]at d10 HF
 clear her
 by_cases he:er=0
 ·rw[if_pos he]at HF
  subst he
  go_enter Tryz.func29,Tryz.ntmps29
  go_wp2_with fail
  go_end0
  rw[HF.out]
  exact⟨rfl,HS.out.err e⟩
 ·rw[if_neg he]at HF
  have he':(er==0)=false:=by simpa using he
  clear he
  go_enter Tryz.func29,Tryz.ntmps29
  go_wp2_with fail
  go_end0
  rw[HF.out]
  exact⟨rfl,HS.out⟩
theorem oneF_drop (l:List ByteArray) (x:ByteArray) (k:Nat) (h:k<l.length):oneF (l.drop k) x=(((x.toList==l[k].toList)&& !x.toList.isEmpty)||oneF (l.drop (k+1)) x):=by
 unfold oneF
 rw[isW_drop l x k h]
 cases (x.toList==l[k].toList) <;>cases x.toList.isEmpty <;>simp
theorem one_any (x:ByteArray) (l:List ByteArray) (a:Option Addr) (c:Nat) (w:World) (hl:l.length≤maxLen) (ha:At w a (strsV l)) :
 Calls Tryz.prog 153 #[.string x,.slice a l.length c] w fun e w'=>e= .returned (.bool (oneF l x))∧w=w':=by
 unfold maxLen at hl
 have HA:=Lib.hid ha
 clear ha
 go_enter Tryz.func153,Tryz.ntmps153
 go_wp2
 go_loop [9] (fun i=> ∃k:Nat,k≤l.length∧i= .int .i64 k∧Hid (oneF l x=oneF (l.drop k) x)) (fun i=>l.length-(intOf i).toNat)
 case atStart=>exact⟨0,Nat.zero_le _,rfl,Lib.hid rfl⟩
 case round =>
  obtain⟨k,hk,rfl,HV⟩:=hrel
  by_cases hlt:k<l.length
  ·obtain⟨b,o,rfl,hlb,h1⟩:=str_cell HA.out hlt
   have HD:=Lib.hid (oneF_drop l x k hlt)
   go_wp2
   ·go_ret
    refine⟨ret_bool ?_,rfl⟩
    rw[HV.out,HD.out]
    simp[*]
   ·go_round
    case rel=>exact⟨k+1,by omega,by go_num,Lib.hid (by rw[HV.out,HD.out];simp[*])⟩
    case measure=>simp[intOf];omega
   ·go_round
    case rel=>exact⟨k+1,by omega,by go_num,Lib.hid (by
     have hne: ¬x.toList=l[k].toList:=fun e=>(by assumption: ¬l[k].toList=x.toList) e.symm
     rw[HV.out,HD.out];simp[hne])⟩
    case measure=>simp[intOf];omega
  ·go_wp2
   go_ret
   refine⟨ret_bool ?_,rfl⟩
   rw[HV.out,List.drop_of_length_le (by omega)]
   rfl
end
end
end Go.Proofs.YtpnagbgpbajfeaaGreatDoor
