/- Texts joined for a claim: BuWk, CuZ, BuNm: plain laws and contracts. No conditions beyond those that each lemma types. -/
import Derived.Test.YtgepobccoffnaaaGreatDoorT27
import Derived.Test.YtgepobccoffnaaaGreatDoorT31
set_option linter.unusedVariables false
set_option linter.unusedSimpArgs false
namespace Go.Proofs.YtgepobccoffnaaaGreatDoor
open Go.RowKit Mem
section
def SameOne (T U:TreeD):Prop:=T.nodes.length≤U.nodes.length∧ ∀i:Int,1∈kidsF U i↔1∈kidsF T i
theorem SameOne.refl (T:TreeD):SameOne T T:=⟨Nat.le_refl _,fun _=>Iff.rfl⟩
theorem SameOne.trans {T U V:TreeD} (h:SameOne T U) (k:SameOne U V):SameOne T V:=⟨Nat.le_trans h.1 k.1,fun i=>(k.2 i).trans (h.2 i)⟩
theorem kidsF_modK (T:TreeD) (n:Int) (K:List Int) (i:Int):kidsF (modN T n (setKids K)) i=if n.toNat=i.toNat∧n.toNat<T.nodes.length then K else kidsF T i:=by
 unfold kidsF modN
 simp only[List.getElem?_modify]
 by_cases h:n.toNat=i.toNat
 ·by_cases h2:n.toNat<T.nodes.length
  ·rw[if_pos ⟨h,h2⟩,List.getElem?_eq_getElem (by omega)]
   simp[h,setKids]
  ·rw[if_neg (fun x=>h2 x.2),List.getElem?_eq_none (by omega)]
   simp
 ·rw[if_neg (fun x=>h x.1)]
  cases T.nodes[i.toNat]? <;>simp[h]
theorem kidsF_modS (T:TreeD) (n:Int) {f:ND→ND} (hf: ∀d,(f d).kids=d.kids) (i:Int):kidsF (modN T n f) i=kidsF T i:=by
 unfold kidsF modN
 simp only[List.getElem?_modify]
 cases T.nodes[i.toNat]? with
 |none=>simp
 |some d =>
  by_cases h:n.toNat=i.toNat
  ·simp[h,hf]
  ·simp[h]
theorem kidsF_addF (T:TreeD) {d:ND} (hd:d.kids= []) (i:Int):kidsF (addF T d) i=kidsF T i:=by
 unfold kidsF addF
 simp only
 rcases Nat.lt_trichotomy i.toNat T.nodes.length with h|h|h
 ·rw[List.getElem?_append_left h]
 ·rw[h,List.getElem?_append_right (Nat.le_refl _),List.getElem?_eq_none (Nat.le_refl _)]
  simp[hd]
 ·rw[List.getElem?_append_right (by omega),List.getElem?_eq_none (by simp;omega),List.getElem?_eq_none (by omega)]
section
variable {T U:TreeD}
theorem so_add (T:TreeD) {d:ND} (hd:d.kids= []):SameOne T (addF T d):=⟨by simp[addF],fun i=>by rw[kidsF_addF T hd]⟩
theorem so_insert (T:TreeD) (a:Int) (i:Nat) {n:Int} (hn:n≠1):SameOne T (insertF T a i n):=by
 refine⟨by unfold insertF;rw[modN_len,modN_len];exact Nat.le_refl _,fun j=> ?_⟩
 unfold insertF
 rw[kidsF_modS _ _ (f:=setParent a) (fun _=>rfl),kidsF_modK]
 split
 ·rename_i h
  have e:kidsF T j=kidsF T a:=by unfold kidsF;rw[h.1]
  rw[e,List.mem_append,List.mem_cons]
  conv=>rhs;rw[←List.take_append_drop i (kidsF T a),List.mem_append]
  constructor
  ·rintro(h|h|h)
   ·exact .inl h
   ·exact absurd h.symm hn
   ·exact .inr h
  ·rintro(h|h)
   ·exact .inl h
   ·exact .inr (.inr h)
 ·exact Iff.rfl
theorem so_take (T:TreeD) {n:Int} (hn:n≠1):SameOne T (takeF T n):=by
 have h1:SameOne T (kidsOff T n):=by
  unfold kidsOff
  split
  ·refine⟨by rw[modN_len];exact Nat.le_refl _,fun j=> ?_⟩
   rw[kidsF_modK]
   split
   ·rename_i h
    have e:kidsF T j=kidsF T (parentF T n):=by unfold kidsF;rw[h.1]
    rw[e,List.mem_filter]
    exact⟨fun x=>x.1,fun x=>⟨x,by simpa using fun e=>hn e.symm⟩⟩
   ·exact Iff.rfl
  ·exact .refl T
 unfold takeF
 exact⟨by rw[modN_len];exact h1.1,fun j=>by rw[kidsF_modS _ _ (f:=setParent (-1)) (fun _=>rfl)];exact h1.2 j⟩
theorem so_put (T:TreeD) (a b:Int) {n:Int} (hn:n≠1):SameOne T (putE T a b n).1:=by
 unfold putE
 split
 ·exact(so_take T hn).trans (so_insert _ _ _ hn)
 ·exact .refl T
theorem so_mk (T:TreeD) {d:ND} (hd:d.kids= []):SameOne T (mkF T d).1:=by
 unfold mkF
 split
 ·exact so_add T hd
 ·exact .refl T
theorem so_like (T:TreeD) (n:Int):SameOne T (likeF T n).1:=by
 unfold likeF
 split
 ·exact so_mk T rfl
 ·exact .refl T
theorem so_move (b:Int): ∀(l:List Int) (T:TreeD),1∉l→SameOne T (moveF T b l)
 | [],T,_=> .refl T
 |_::r,T,h=>(so_put T b 0 fun e=>h (e▸List.mem_cons_self)).trans (so_move b r _ fun e=>h (List.mem_cons_of_mem _ e))
theorem so_moveE (T:TreeD) {a:Int} (b:Int) (ha:1∉kidsF T a):SameOne T (moveE T a b).1:=by
 unfold moveE
 split
 ·exact so_move b _ T ha
 ·exact .refl T
theorem so_text (T:TreeD) (h2:2≤T.nodes.length) (a b:Int) (s:ByteArray):SameOne T (textE T a b s).1:=by
 unfold textE
 split
 ·split
  ·exact .refl T
  ·unfold textAt
   split
   ·refine⟨by rw[modN_len];exact Nat.le_refl _,fun j=> ?_⟩
    show 1∈kidsF (modN T _ (addText s)) j↔_
    rw[kidsF_modS _ _ (f:=addText s) (fun _=>rfl)]
   ·split
    ·exact(so_add T rfl).trans (so_insert _ _ _ (by omega))
    ·exact .refl T
 ·exact .refl T
theorem mkF_num (T:TreeD) (d:ND):(mkF T d).2.1=T.nodes.length∨(mkF T d).2.1=0:=by
 unfold mkF
 split
 ·exact .inl rfl
 ·exact .inr rfl
theorem likeF_num (T:TreeD) (n:Int):(likeF T n).2.1=T.nodes.length∨(likeF T n).2.1=0:=by
 unfold likeF
 split
 ·exact mkF_num T _
 ·exact .inr rfl
theorem so_ins (T:TreeD) (h2:2≤T.nodes.length) (l:List Int) (on:Bool) (sp:Int) (nm:ByteArray) (at':List Pair):SameOne T (insertL T l on sp nm at').1:=by
 have h1:=so_mk T (d:=elemN sp nm at') rfl
 have h3:=mkF_num T (elemN sp nm at')
 unfold insertL
 simp only
 split
 ·exact h1.trans (so_put _ _ _ (by omega))
 ·exact h1
theorem insL_num (T:TreeD) (h2:2≤T.nodes.length) (l:List Int) (on:Bool) (sp:Int) (nm:ByteArray) (at':List Pair):(insertL T l on sp nm at').2.2.1≠1∧((insertL T l on sp nm at').2.1=l∨(insertL T l on sp nm at').2.1=l++ [(insertL T l on sp nm at').2.2.1]):=by
 have h3:=mkF_num T (elemN sp nm at')
 unfold insertL
 simp only
 split
 ·exact⟨by show(mkF T (elemN sp nm at')).2.1≠1;omega,.inr rfl⟩
 ·exact⟨by show(0:Int)≠1;decide,.inl rfl⟩
end
def NoOne (l:List Int):Prop:=1∉l.tail
theorem NoOne.sub {l m:List Int} (h:NoOne l) (hm:m.Sublist l):NoOne m:=fun hx=>h (hm.tail.subset hx)
theorem NoOne.push {l:List Int} (h:NoOne l) {n:Int} (hn:n≠1):NoOne (l++ [n]):=by
 cases l with
 |nil=>exact fun hx=>by simp at hx
 |cons x r =>
  intro hx
  rw[List.cons_append,List.tail_cons,List.mem_append,List.mem_singleton]at hx
  rcases hx with hx|hx
  ·exact h hx
  ·exact hn hx.symm
theorem NoOne.set {l:List Int} (h:NoOne l) (i:Nat) {n:Int} (hn:n≠1):NoOne (l.set i n):=by
 cases l with
 |nil=>exact h
 |cons x r =>
  cases i with
  |zero=>exact h
  |succ i =>
   intro hx
   rw[List.set_cons_succ,List.tail_cons]at hx
   rcases List.mem_or_eq_of_mem_set hx with hx|hx
   ·exact h hx
   ·exact hn hx.symm
theorem NoOne.swap {l:List Int} (h:NoOne l) (o:Int) {n:Int} (hn:n≠1):NoOne (swapF l o n):=by
 unfold swapF
 split
 ·exact h.set _ hn
 ·exact h
theorem NoOne.ins {l:List Int} (h:NoOne l) (b:Int) {n:Int} (hn:n≠1):NoOne (insF l b n):=by
 unfold insF
 split
 ·unfold insAt
  cases l with
  |nil=>exact fun hx=>by simp at hx
  |cons x r =>
   intro hx
   rw[List.take_succ_cons,List.drop_succ_cons,List.cons_append,List.tail_cons,List.mem_append,List.mem_cons]at hx
   rcases hx with hx|hx|hx
   ·exact h (List.mem_of_mem_take hx)
   ·exact hn hx.symm
   ·exact h (List.mem_of_mem_drop hx)
 ·exact h
structure W2 (T:TreeD) (l:List Int):Prop where
 len:2≤T.nodes.length
 one:1∈kidsF T 0
 els: ∀i:Int,1≤i→1∉kidsF T i
 tl:NoOne l
section
variable {T U:TreeD} {l:List Int}
theorem W2.grow (h:W2 T l) (hs:SameOne T U):W2 U l:=⟨Nat.le_trans h.len hs.1,(hs.2 0).2 h.one,fun i hi hx=>h.els i hi ((hs.2 i).1 hx),h.tl⟩
theorem W2.sub {m:List Int} (h:W2 T l) (hm:m.Sublist l):W2 T m:=⟨h.len,h.one,h.els,h.tl.sub hm⟩
theorem W2.on {m:List Int} (h:W2 T l) (hm:NoOne m):W2 T m:=⟨h.len,h.one,h.els,hm⟩
theorem W2.ins (h:W2 T l) (on:Bool) (sp:Int) (nm:ByteArray) (at':List Pair):W2 (insertL T l on sp nm at').1 (insertL T l on sp nm at').2.1:=by
 obtain⟨h1,h2⟩:=insL_num T h.len l on sp nm at'
 refine(h.grow (so_ins T h.len l on sp nm at')).on ?_
 rcases h2 with h2|h2
 ·rw[h2];exact h.tl
 ·rw[h2];exact h.tl.push h1
theorem turnR_w (b:Int): ∀(r:List Int) (c:Nat) (S:TS),W2 S.T S.l→S.last≠1→W2 (turnR b r c S).1.T (turnR b r c S).1.l∧(turnR b r c S).1.last≠1
 | [],_,S,h,hl=>⟨h,hl⟩
 |x::r,c,S,h,hl=>by
  have hn:=likeF_num S.T x
  have h2:=h.len
  have hn1:(likeF S.T x).2.1≠1:=by omega
  rw[turnR]
  split
  ·split
   ·exact turnR_w b r (c+1) _ (h.sub (rmF_sub _ _)) hl
   ·split
    ·exact turnR_w b r (c+1) _ (((h.grow (so_like S.T x)).grow (so_put _ _ _ hl)).on (h.tl.swap _ hn1)) hn1
    ·exact⟨h.grow (so_like S.T x),hl⟩
  ·exact turnR_w b r (c+1) _ (h.sub (rmF_sub _ _)) hl
theorem closeL_w (h:W2 T l) (ent:List Int) (f:Int) {b:Int} (hb:1≤b) (keep:Int):W2 (closeL T l ent f b keep).1 (closeL T l ent f b keep).2.1:=by
 have hn:=likeF_num T f
 have h2:=h.len
 have hn1:(likeF T f).2.1≠1:=by omega
 have h1:=h.grow (so_like T f)
 unfold closeL
 split
 ·exact((h1.grow (so_moveE _ _ (h1.els b hb))).grow (so_put _ _ _ hn1)).on ((h.tl.sub (rmF_sub _ _)).ins _ hn1)
 ·exact h1
theorem turnL_w (h:W2 T l) (ent:List Int) (on:Bool) (f:Int) {b:Int} (hb:1≤b) (hb1:b≠1):W2 (turnL T l ent on f b).1 (turnL T l ent on f b).2.1:=by
 obtain⟨h1,h2⟩:=turnR_w b (betweenF l f b).reverse 1 ⟨T,l,ent,rfind ent f,b⟩ h hb1
 unfold turnL
 simp only
 split
 ·exact closeL_w (h1.grow (so_put _ _ _ h2)) _ _ hb _
 ·exact h1
theorem blockR_pos (T:TreeD): ∀l:List Int,blockR T l≠0→1≤blockR T l
 | [],h=>absurd rfl h
 |x::r,h=>by
  rw[blockR]at h ⊢
  by_cases hx:((!((nameQ T x).toList== []))&&specialF (spaceQ T x) (nameQ T x))=true
  ·rw[if_pos hx]
   rw[Bool.and_eq_true]at hx
   have hnm:=hx.1
   unfold nameQ at hnm
   by_cases hf:elemF T x=true
   ·obtain⟨k,hk,h0,h1, -⟩:=elemF_nat hf
    omega
   ·rw[if_neg hf]at hnm
    have:(⟨#[]⟩:ByteArray).toList= []:=by kernel_rfl
    rw[this]at hnm
    cases hnm
  ·rw[if_neg hx]at h ⊢
   exact blockR_pos T r h
theorem blockF_w (h:W2 T l) {f:Int} (hf:0≤rfind l f) (hb:blockF T l f≠0):1≤blockF T l f∧blockF T l f≠1:=by
 refine⟨blockR_pos T _ hb,fun e=> ?_⟩
 have hm:=blockR_mem T _ hb
 have e':blockR T (l.drop (rfind l f+1).toNat)=1:=e
 rw[e']at hm
 refine h.tl ?_
 have:(rfind l f+1).toNat=1+(rfind l f).toNat:=by omega
 rw[this,←List.drop_drop,List.drop_one]at hm
 exact List.mem_of_mem_drop hm
theorem adoptR_w (on:Bool) (name:ByteArray): ∀(r t:Nat) (S:AS),W2 S.T S.l→W2 (adoptR on name r t S).1.T (adoptR on name r t S).1.l
 |0,_,_,h=>h
 |r+1,t,S,h=>by
  rw[adoptR]
  split
  ·exact h
  ·split
   ·exact h
   ·rename_i hf
    split
    ·exact h
    ·split
     ·exact h.sub (List.take_sublist _ _)
     ·rename_i hb
      obtain⟨b1,b2⟩:=blockF_w h (by omega) hb
      have h1:=turnL_w h S.ent on (findF S.T S.ent name) b1 b2
      split
      ·exact adoptR_w on name r (t+1) ⟨_,_,_⟩ h1
      ·exact h1
theorem adoptL_w {S:AS} (h:W2 S.T S.l) (on:Bool) (name:ByteArray):W2 (adoptL on name S).1.T (adoptL on name S).1.l:=by
 unfold adoptL
 split
 ·exact h.sub (List.dropLast_sublist _)
 ·exact adoptR_w on name 8 0 S h
theorem restR_w (on:Bool): ∀(r i:Nat) (S:AS),W2 S.T S.l→W2 (restR on r i S).1.T (restR on r i S).1.l
 |0,_,_,h=>h
 |r+1,i,S,h=>by
  rw[restR]
  have h1:=h.ins on (spaceQ S.T (S.ent.getD i 0)) (nameQ S.T (S.ent.getD i 0)) (attrsQ S.T (S.ent.getD i 0))
  split
  ·exact restR_w on r (i+1) ⟨_,_,_⟩ h1
  ·exact h1
theorem restL_w {S:AS} (h:W2 S.T S.l) (on:Bool):W2 (restL on S).1.T (restL on S).1.l:=restR_w on _ _ S h
end
structure WB (b:BuD):Prop where
 w:W2 b.S.T b.S.l
 hd:b.head≠1
def root0:AS:=⟨⟨[rootN],1000,noFar⟩,[],[]⟩
structure B0 (b:BuD):Prop where
 md:b.mode=0
 S:b.S=root0
 wt:b.wait.toList.isEmpty=true
 hd:b.head≠1
section
variable {b c:BuD} {m:BMark}
theorem WB.keep (h:WB b) (e:Int):WB (b.keep e):=⟨by rw[BuD.keep_S];exact h.w,by rw[(b.keep_all e).2.2.2.1];exact h.hd⟩
theorem WB.insSp (h:WB b) (sp:Int) (nm:ByteArray) (at':List Pair):WB (b.insSp sp nm at').1 :=
 WB.keep (b:= {b with S:=⟨(insertL b.S.T b.S.l b.on sp nm at').1,(insertL b.S.T b.S.l b.on sp nm at').2.1,b.S.ent⟩}) ⟨h.w.ins _ _ _ _,h.hd⟩ _
theorem WB.ins (h:WB b) (nm:ByteArray) (at':List Pair):WB (b.ins nm at'):=h.insSp 0 nm at'
theorem WB.insN (h:WB b) (nm:ByteArray) (at':List Pair):b.insN nm at'≠1:=(insL_num b.S.T h.w.len b.S.l b.on 0 nm at').1
theorem WB.put (h:WB b) (t:ByteArray):WB (b.putText t) :=
 WB.keep (b:= {b with S:=⟨(textE b.S.T (placeQ b.S.T b.S.l b.on 0).1 (placeQ b.S.T b.S.l b.on 0).2 t).1,b.S.l,b.S.ent⟩,used:=b.used+t.size}) ⟨h.w.grow (so_text _ h.w.len _ _ _),h.hd⟩ _
theorem WB.stk (h:WB b) {l:List Int} (hl:l.Sublist b.S.l):WB (b.stk l):=⟨h.w.sub hl,h.hd⟩
theorem WB.push (h:WB b) {n:Int} (hn:n≠1):WB (b.push n):=⟨h.w.on (h.w.tl.push hn),h.hd⟩
theorem WB.lst (h:WB b) (e:List Int):WB (b.lst e):=⟨h.w,h.hd⟩
theorem WB.pop (h:WB b):WB b.pop:=h.stk (List.dropLast_sublist _)
theorem WB.goto (h:WB b) (n:Int):WB (b.goto n):=⟨h.w,h.hd⟩
theorem WB.until' (h:WB b) (names:List ByteArray):WB (b.until' names):=h.stk (rev_sub (untilF_sub _ _ _))
theorem WB.clear' (h:WB b) (names:List ByteArray):WB (b.clear' names):=h.stk (rev_sub (stClear_sub _ _ _))
theorem WB.imply (h:WB b) (but:ByteArray):WB (b.imply but):=h.stk (rev_sub (stImply_sub _ _ _))
theorem WB.popTo (h:WB b) (x:Int):WB (b.popTo x):=h.stk (rev_sub ((List.drop_sublist _ _).trans (List.dropWhile_sublist _)))
theorem WB.restore (h:WB b):WB b.restore:=WB.keep (b:= {b with S:=(restL b.on b.S).1}) ⟨restL_w h.w _,h.hd⟩ _
theorem WB.adopt (h:WB b) (nm:ByteArray):WB (b.adopt nm):=WB.keep (b:= {b with S:=(adoptL b.on nm b.S).1}) ⟨adoptL_w h.w _ _,h.hd⟩ _
theorem WB.raws (h:WB b) (m:BMark) (k:Int):WB (b.raws m k):=⟨(h.ins m.name m.attrs).w,(h.ins m.name m.attrs).hd⟩
theorem WB.single (h:WB b) (nm:ByteArray) (l:List Pair):WB (b.single nm l):=(h.ins nm l).pop
theorem WB.headed (h:WB b) (l:List Pair):WB (b.headed l):=⟨(h.ins _ l).w,h.insN _ l⟩
theorem WB.ite {p:Prop} [Decidable p] {r q:BuD} (h1:WB r) (h2:WB q):WB (if p then r else q):=by
 by_cases h:p
 ·rw[if_pos h];exact h1
 ·rw[if_neg h];exact h2
theorem WB.ite1 {α:Type} {p:Prop} [Decidable p] {r q:BuD×α} (h1:WB r.1) (h2:WB q.1):WB (if p then r else q).1:=by
 by_cases h:p
 ·rw[if_pos h];exact h1
 ·rw[if_neg h];exact h2
theorem WB.heads (h:WB b) (m:BMark):WB (b.heads m).1:=by
 unfold BuD.heads
 exact WB.ite1 (h.ins m.name m.attrs).pop (WB.ite1 (h.raws m 1) (WB.ite1 (h.raws m 2) h))
theorem WB.paragraph (h:WB b):WB b.paragraph:=WB.ite ((h.imply _).until' _) h
theorem WB.itemR (names:List ByteArray) (h:WB b): ∀l,WB (BuD.itemR names b l)
 | []=>h
 |x::r=>by
  rw[BuD.itemR]
  exact WB.ite ((h.imply _).until' _) (WB.ite h (h.itemR names r))
theorem WB.otherR (want:ByteArray) (h:WB b): ∀l,WB (BuD.otherR want b l)
 | []=>h
 |x::r=>by
  rw[BuD.otherR]
  exact WB.ite ((h.imply _).popTo _) (WB.ite h (h.otherR want r))
theorem WB.breakR (h:WB b): ∀l:List Int,l.Sublist b.S.l.reverse→WB (BuD.breakR b l)
 | [],_=>h.stk (List.nil_sublist _)
 |x::r,hl=>by
  rw[BuD.breakR]
  exact WB.ite (h.stk (rev_sub hl)) (h.breakR r ((List.sublist_cons_self _ _).trans hl))
theorem WB.other (h:WB b) (want:ByteArray):WB (b.other want):=h.otherR want _
theorem WB.item (h:WB b) (names:List ByteArray):WB (b.item names):=h.itemR names _
theorem WB.forms (h:WB b) (m:BMark):WB (b.forms m):=by
 unfold BuD.forms
 exact WB.ite (h.restore.ins _ _) ((h.restore.ins _ _).lst _)
theorem WB.verbatim (h:WB b) (m:BMark):WB (b.verbatim m):=by
 unfold BuD.verbatim
 exact WB.ite ⟨(h.raws m 1).w,(h.raws m 1).hd⟩ (WB.ite (h.paragraph.restore.raws m 2) (h.raws m 2))
theorem WB.phrases (h:WB b) (m:BMark):WB (b.phrases m):=by
 have h1: ∀c:BuD,WB c→WB (if oneF [⟨#[97,112,112,108,101,116]⟩,⟨#[109,97,114,113,117,101,101]⟩,⟨#[111,98,106,101,99,116]⟩] m.name then(c.restore.ins m.name m.attrs).lmark else c.restore.ins m.name m.attrs):=fun c hc=>WB.ite ((hc.restore.ins _ _).lst _) (hc.restore.ins _ _)
 unfold BuD.phrases
 exact h1 _ (WB.ite (WB.ite ((h.imply _).until' _) h) (WB.ite (WB.ite h.pop h) h))
theorem WB.alien (h:WB b) (m:BMark) (sp:Int):WB (b.alien m sp):=by
 unfold BuD.alien
 exact WB.ite (h.insSp _ _ _).pop (h.insSp _ _ _)
theorem WB.blocks (h:WB b) (m:BMark):WB (b.blocks m):=by
 have h2:WB (BuD.paragraph (if m.name.toList==([108,105]:List UInt8)then b.item [⟨#[108,105]⟩]else if(m.name.toList==([100,100]:List UInt8))||(m.name.toList==([100,116]:List UInt8))then b.item [⟨#[100,100]⟩,⟨#[100,116]⟩]else b)):=(WB.ite (h.item _) (WB.ite (h.item _) h)).paragraph
 unfold BuD.blocks
 simp only
 generalize BuD.paragraph (if m.name.toList==([108,105]:List UInt8)then b.item [⟨#[108,105]⟩]else if(m.name.toList==([100,100]:List UInt8))||(m.name.toList==([100,116]:List UInt8))then b.item [⟨#[100,100]⟩,⟨#[100,116]⟩]else b)=b2 at h2 ⊢
 have h4:WB (if headingB m.name&&b2.at' headN then b2.pop else b2):=WB.ite h2.pop h2
 generalize (if headingB m.name&&b2.at' headN then b2.pop else b2)=b3 at h4 ⊢
 have h5:=h4.ins m.name m.attrs
 exact WB.ite (h2.single _ _) (WB.ite ⟨h5.w,h5.hd⟩ (WB.ite (h5.goto 6) h5))
theorem WB.opens (h:WB b) (m:BMark):WB (b.opens m).1:=by
 rw[BuD.opens.eq_1]
 refine WB.ite1 h (WB.ite1 (h.heads m) (WB.ite1 (h.blocks m) (WB.ite1 ?_ (WB.ite1 (h.forms m) (WB.ite1 ?_ (WB.ite1 (h.single _ _) (WB.ite1 (h.restore.single _ _) (WB.ite1 (h.verbatim m) (WB.ite1 (h.restore.alien _ _) (h.phrases m))))))))))
 ·exact(WB.ite h (((h.adopt _).lst _).stk (rmF_sub _ _))).forms m
 ·exact(WB.ite (h.restore.adopt _) h.restore).forms m
theorem WB.ends (h:WB b) (sc:Int) (but:ByteArray) (names:List ByteArray):WB (b.ends sc but names):=WB.ite ((h.imply _).until' _) h
theorem WB.closes (h:WB b) (m:BMark):WB (b.closes m).1:=by
 rw[BuD.closes.eq_1]
 refine WB.ite1 (WB.ite1 (h.goto 12) h) (WB.ite1 (WB.paragraph (WB.ite h (h.ins _ _))) (WB.ite1 (h.ends _ _ _) (WB.ite1 (h.ends _ _ _) (WB.ite1 (h.ends _ _ _) (WB.ite1 (h.ends _ _ _) (WB.ite1 (WB.ite ((h.adopt _).other _) (h.adopt _)) (WB.ite1 (WB.ite ((h.ends _ _ _).lst _) h) (WB.ite1 (h.restore.single _ _) (h.other _)))))))))
theorem WB.inBody (h:WB b) (m:BMark):WB (b.inBody m).1:=by
 rw[BuD.inBody.eq_1]
 exact WB.ite1 (h.restore.put _) (WB.ite1 (h.opens m) (WB.ite1 (h.closes m) h))
theorem WB.blankB (h:WB b) (m:BMark):WB (b.blankB m):=WB.ite (WB.ite h (h.put _)) h
theorem WB.astray (h:WB b) (m:BMark):WB (b.astray m).1:=by
 have h1:=WB.inBody (b:= {b with on:=true}) ⟨h.w,h.hd⟩ m
 exact⟨h1.w,h1.hd⟩
theorem WB.inTable (h:WB b) (m:BMark):WB (b.inTable m).1:=by
 rw[BuD.inTable.eq_1]
 exact WB.ite1 ⟨h.w,h.hd⟩ (WB.ite1 ((((h.clear' _).lst _).ins _ _).goto 7) (WB.ite1 (((h.clear' _).ins _ _).goto 8) (WB.ite1 (((h.clear' _).ins _ _).goto 8) (WB.ite1 (((h.clear' _).ins _ _).goto 9) (WB.ite1 (((h.clear' _).ins _ _).goto 9) (WB.ite1 (WB.ite1 ((h.until' _).goto _) h) (WB.ite1 h (WB.ite1 (h.heads m) (WB.ite1 h (h.astray m))))))))))
theorem WB.leave (h:WB b) (names:List ByteArray):WB (b.leave names):=(((h.imply _).until' _).lst _).goto 10
theorem WB.rules (h:WB b) (m:BMark):WB (b.rules m).1:=by
 rw[BuD.rules.eq_1]
 have hb:=h.blankB m
 refine WB.ite1 ?_ (WB.ite1 ?_ (WB.ite1 ?_ (WB.ite1 ?_ (WB.ite1 (h.inBody m) (WB.ite1 ?_ (WB.ite1 (h.inTable m) (WB.ite1 ?_ (WB.ite1 ?_ (WB.ite1 ?_ (WB.ite1 ?_ (WB.ite1 ?_ ?_)))))))))))
 ·rw[BuD.inStart.eq_1]
  exact WB.ite1 h (WB.ite1 h (WB.ite1 ((h.goto 1).ins _ _) ((h.goto 1).ins _ _)))
 ·rw[BuD.inAhead.eq_1]
  exact WB.ite1 h (WB.ite1 h (WB.ite1 ((h.goto 2).headed _) ((h.goto 2).headed _)))
 ·rw[BuD.inHead.eq_1]
  exact WB.ite1 hb (WB.ite1 (hb.heads _) (WB.ite1 hb (WB.ite1 (hb.pop.goto 3) (WB.ite1 hb (hb.pop.goto 3)))))
 ·rw[BuD.inBehind.eq_1]
  exact WB.ite1 hb (WB.ite1 hb (WB.ite1 ((hb.ins _ _).goto 4) (WB.ite1 (((hb.push hb.hd).heads _).stk (rmF_sub _ _)) (WB.ite1 hb ((hb.ins _ _).goto 4)))))
 ·rw[BuD.inText.eq_1]
  exact WB.ite1 (h.put _) (h.pop.goto _)
 ·rw[BuD.inCaption.eq_1]
  exact WB.ite1 (WB.ite1 ((((h.imply _).until' _).lst _).goto 6) h) (WB.ite1 h (h.inBody m))
 ·rw[BuD.inColumns.eq_1]
  exact WB.ite1 hb (WB.ite1 hb (WB.ite1 (hb.single _ _) (WB.ite1 hb (hb.pop.goto 6))))
 ·rw[BuD.inRows.eq_1]
  exact WB.ite1 (WB.ite1 (((h.clear' _).goto 10).ins _ _) (((h.clear' _).goto 10).ins _ _)) (WB.ite1 (WB.ite1 ((h.clear' _).pop.goto 6) h) (WB.ite1 (WB.ite1 ((h.clear' _).pop.goto 6) h) (WB.ite1 h (h.inTable m))))
 ·rw[BuD.inRow.eq_1]
  exact WB.ite1 ((((h.clear' _).ins _ _).goto 11).lst _) (WB.ite1 h (WB.ite1 (WB.ite1 ((h.clear' _).pop.goto 9) h) (WB.ite1 h (h.inTable m))))
 ·rw[BuD.inCell.eq_1]
  exact WB.ite1 (WB.ite1 (h.leave _) h) (WB.ite1 (WB.ite1 (h.leave _) h) (WB.ite1 h (WB.ite1 (WB.ite1 (h.leave _) h) (h.inBody m))))
 ·have h1:WB (if(m.kind==1)&& !(aheadF m.text).toList.isEmpty then(b.inBody ⟨1,⟨#[]⟩,[],false,aheadF m.text⟩).1 else b):=WB.ite (h.inBody _) h
  rw[BuD.inAfter.eq_1]
  exact WB.ite1 h1 (WB.ite1 h1 (h1.goto 4))
theorem WB.leavesR (m:BMark) (h:WB b): ∀l,WB (BuD.leavesR m b l).1
 | []=>h
 | [_]=>h
 |x::y::r=>by
  rw[BuD.leavesR]
  exact WB.ite1 (h.rules m) (WB.ite1 (h.popTo _) (h.leavesR m (y::r)))
theorem WB.once (h:WB b) (m:BMark):WB (b.once m).1:=by
 rw[BuD.once.eq_1]
 refine WB.ite1 ?_ (h.rules m)
 rw[BuD.foreign.eq_1]
 exact WB.ite1 (h.put _) (WB.ite1 ((h.breakR _ (List.Sublist.refl _)).rules m) (WB.ite1 (h.alien m _) (WB.ite1 (h.leavesR m _) h)))
theorem WB.again: ∀(k:Nat) (b:BuD) (m:BMark),WB b→WB (BuD.again k b m)
 |0,_,_,h=>h
 |k+1,b,m,h=>by
  rw[BuD.again]
  exact WB.ite (WB.ite (WB.again k _ _ (h.once m)) (h.once m)) h
theorem WB.flush (h:WB b):WB b.flush:=by
 have h1:WB ({b with wait:=⟨#[]⟩}:BuD):=⟨h.w,h.hd⟩
 unfold BuD.flush
 simp only
 exact WB.ite h1 (WB.ite (h1.put _) (h1.astray _))
theorem WB.doF (h:WB b) (m:BMark):WB (b.doF m):=by
 have h1:WB b.ready:=⟨h.w,h.hd⟩
 unfold BuD.doF
 exact WB.ite h (WB.ite (WB.ite h1 (WB.again _ _ _ h1)) (WB.ite h1.flush (WB.again _ _ _ h1.flush)))
def htmlT (at':List Pair):TreeD:=⟨[{rootN with kids:= [1]},{elemN 0 (⟨#[104,116,109,108]⟩:ByteArray) at' with parent:=0}],1000,noFar⟩
theorem html_ins (on:Bool) (at':List Pair):insertL root0.T root0.l on 0 (⟨#[104,116,109,108]⟩:ByteArray) at'=(htmlT at',[1],1,0):=by kernel_rfl
theorem html_w (at':List Pair):W2 (htmlT at') [1]:=by
 refine⟨by simp[htmlT],by simp[htmlT,kidsF,rootN],fun i hi hx=> ?_,fun hx=>by simp at hx⟩
 unfold kidsF htmlT at hx
 obtain⟨k,rfl⟩: ∃k:Nat,i=((k+1:Nat):Int):=⟨(i-1).toNat,by omega⟩
 rw[Int.toNat_natCast]at hx
 cases k with
 |zero=>simp[elemN]at hx
 |succ k=>simp at hx
theorem B0.html (h:B0 b) (at':List Pair):WB ((b.goto 1).ins (⟨#[104,116,109,108]⟩:ByteArray) at'):=by
 have hS:(b.goto 1).S=root0:=h.S
 unfold BuD.ins BuD.insSp
 simp only
 refine WB.keep (b:= {b.goto 1 with S:=_}) ⟨?_,h.hd⟩ _
 rw[hS,html_ins]
 exact html_w at'
theorem foreign_zero (k:Int) (nm:ByteArray):foreignF 0 0 ⟨#[]⟩ k nm=false:=by
 unfold foreignF foreignB
 simp
theorem space_zero' (T:TreeD):spaceQ T 0=0:=by
 unfold spaceQ
 rw[if_neg]
 intro h
 obtain⟨k,hk,h0,h1, -⟩:=elemF_nat h
 omega
theorem B0.once (h:B0 b) (m:BMark):b.once m=b.inStart m:=by
 have h1:b.top=0:=by unfold BuD.top;rw[h.S];rfl
 have h2:b.tops=0:=by unfold BuD.tops;rw[h1];exact space_zero' _
 have h3:b.topn=⟨#[]⟩:=by unfold BuD.topn;rw[h1];exact name_zero _
 have h4: ∀nm l,pointF 0 nm l=0:=fun _ _=>rfl
 rw[BuD.once.eq_1,h2,h3,h4,foreign_zero,if_neg (by decide),BuD.rules.eq_1,if_pos h.md]
def WK (b:BuD):Prop:=B0 b∨WB b
theorem WK.again: ∀(k:Nat) (b:BuD) (m:BMark),WK b→WK (BuD.again k b m)
 |0,_,_,h=>h
 |k+1,b,m,h=>by
  rcases h with h|h
  ·rw[BuD.again,h.once m]
   split
   ·rw[BuD.inStart.eq_1]
    split
    ·exact .inl h
    ·split
     ·exact .inl h
     ·split
      ·exact .inr (h.html _)
      ·exact .inr (WB.again _ _ _ (h.html _))
   ·exact .inl h
  ·exact .inr (WB.again _ _ _ h)
theorem B0.flush (h:B0 b):B0 b.flush:=by
 unfold BuD.flush
 simp only
 rw[if_pos h.wt]
 exact⟨h.md,h.S,by kernel_rfl,h.hd⟩
theorem WK.doF (h:WK b) (m:BMark):WK (b.doF m):=by
 rcases h with h|h
 ·have h1:B0 b.ready:=⟨h.md,h.S,h.wt,h.hd⟩
  unfold BuD.doF
  split
  ·exact .inl h
  ·split
   ·split
    ·exact .inl h1
    ·exact WK.again _ _ _ (.inl h1)
   ·split
    ·exact .inl h1.flush
    ·exact WK.again _ _ _ (.inl h1.flush)
 ·exact .inr (h.doF m)
theorem again_succ (k:Nat) (b:BuD) (m:BMark):BuD.again (k+1) b m=if b.err=0 then(if(b.once m).2.2 then BuD.again k (b.once m).1 (b.once m).2.1 else(b.once m).1)else b:=rfl
theorem WK.eof (h:WK b) (he:b.err=0):WB (b.doF ⟨6,⟨#[]⟩,[],false,⟨#[]⟩⟩):=by
 rcases h with h|h
 ·have h1:B0 b.ready:=⟨h.md,h.S,h.wt,h.hd⟩
  have h2:=h1.flush
  have he2:b.ready.flush.err=0:=by
   unfold BuD.flush
   simp only
   rw[if_pos h1.wt]
   exact he
  unfold BuD.doF
  rw[if_neg (by decide),if_neg (by decide),if_neg (by decide),again_succ 8999,if_pos he2,h2.once]
  have e:b.ready.flush.inStart ⟨6,⟨#[]⟩,[],false,⟨#[]⟩⟩=((b.ready.flush.goto 1).ins (⟨#[104,116,109,108]⟩:ByteArray) [],⟨6,⟨#[]⟩,[],false,⟨#[]⟩⟩,true):=by
   rw[BuD.inStart.eq_1]
   rfl
  rw[e]
  exact WB.again _ _ _ (h2.html _)
 ·exact h.doF _
theorem WB.kids (h:WB b):kidsF b.S.T 0≠ []:=List.ne_nil_of_mem h.w.one
end
end
section
structure BI (E:BE) (ws:World) (n:Nat) (b:BuD) (w:World):Prop where
 bld:Bld E ws 10100 0 b w
 pg:E.pg=page0
 md:MD b
 wk:WK b
 uw:uw b≤n
theorem newB_wk:WK newB:= .inl ⟨rfl,rfl,by kernel_rfl,by decide⟩
section
variable {E:BE} {ws w w':World} {n:Nat} {b:BuD} {m:BMark} {a:Option Addr} {ac:Nat}
theorem BI.world (h:BI E ws n b w) (hb:Below w.heap.size w w'):BI E ws n b w':=⟨h.bld.world hb,h.pg,h.md,h.wk,h.uw⟩
theorem BI.below (h:BI E ws n b w):Below E.w0.heap.size E.w0 w:=h.bld.bm.li.below
theorem DoF_md (h:MD b) (m:BMark):MD (b.DoF m):=MD.ite (fun _=>md_doF h m) fun _=>h
theorem DoF_wk (h:WK b) (m:BMark):WK (b.DoF m):=by
 unfold BuD.DoF
 split
 ·exact h.doF m
 ·exact h
theorem DoF_uw (b:BuD) (m:BMark):uw (b.DoF m)≤uw b+m.text.size:=by
 unfold BuD.DoF
 split
 ·exact uw_doF b m
 ·exact Nat.le_add_right _ _
theorem Do_bi (h:BI E ws n b w) (hm:MA (OB E) w m a ac) (hl:n+m.text.size≤4611686018427387904) :
 Calls Tryz.prog 21 #[.pointer (some ⟨E.bb,0,none⟩),markA m.kind m.name a m.attrs.length ac m.self m.text] w fun r w'=>r= .returned (.int .i64 (b.DoF m).err)∧BI E ws (n+m.text.size) (b.DoF m) w':=by
 have h1:=h.uw
 refine(Do_any h.bld (cs:=page0.tail) (by rw[h.pg];rfl) hm (Nat.le_refl _) (by omega) h.md).mono fun _ _ ⟨hr,hb⟩=>⟨hr,hb,h.pg,DoF_md h.md m,DoF_wk h.wk m,?_⟩
 have:=DoF_uw b m
 omega
theorem Reads_bi (h:BI E ws n b w):Calls Tryz.prog 22 #[.pointer (some ⟨E.bb,0,none⟩)] w fun r w'=>r= .returned (.tuple #[.int .i64 b.raw,.string b.name,.bool (b.tops !=0)])∧BI E ws n b w'∧Below w.heap.size w w' :=
 (Reads_any h.bld).mono fun _ _ ⟨hr,hb⟩=>⟨hr,h.world hb,hb⟩
theorem endB_kids (h:WK b) (he:b.endB.err=0):kidsF b.endB.S.T 0≠ []:=by
 unfold BuD.endB BuD.DoF at he ⊢
 by_cases h0:b.err=0
 ·rw[if_pos h0]at he ⊢
  exact(h.eof h0).kids
 ·rw[if_neg h0]at he
  exact absurd he h0
theorem End_bi (h:BI E ws n b w) (hl:n≤4611686018427387904) :
 Calls Tryz.prog 20 #[.pointer (some ⟨E.bb,0,none⟩)] w fun r w'=> ∃cs,r= .returned (.tuple #[.agg cs.toArray,.int .i64 b.endE])∧NodeC (· <w.heap.size) w' cs b.endN∧Below E.w0.heap.size E.w0 w'∧Keeps (OB E) w w':=by
 have hu:=h.uw
 refine(End_any (h.bld.more (Nat.le_refl _) (Int.le_refl 0)) h.pg (by omega) h.md fun he=>endB_kids h.wk he).mono fun _ w' ⟨cs,hr,hn,hk⟩=>⟨cs,hr,hn,?_,hk⟩
 refine h.below.trans (hk.below (fun k hk' hx=> ?_) h.below.size)
 have hb0:=h.bld.bm.b0
 rcases hx with hx|hx
 ·have:=hx.1;omega
 ·have:k=E.bb:=hx;omega
theorem New_bi (w0 w:World) (hb:Below w0.heap.size w0 w):Calls Tryz.prog 18 #[] w fun r w'=> ∃E:BE,E.w0=w0∧r= .returned (.pointer (some ⟨E.bb,0,none⟩))∧BI E w' 0 newB w'∧Below w.heap.size w w'∧(∀k,w0.heap.size≤k→k<w.heap.size→E.ex k)∧w.heap.size≤E.bb∧E.bb<w'.heap.size :=
 (New_bld w0 w hb).mono fun _ _ ⟨E,h1,h2,h3,h4,h5,h6,h7⟩=>⟨E,h1,h3,⟨h4.more (by omega) (Int.le_refl 0),h2,newB_md,newB_wk,Nat.le_refl _⟩,h5,fun k hk hk'=>(h6 k).2 (.inl ⟨hk,hk'⟩),h7,h4.bm.lt⟩
theorem BI.foreign (h:BI E ws n b w) {F:Nat→Prop} (hk:Keeps F w w') (hF: ∀k,F k→E.ex k∧E.w0.heap.size≤k∧k≠E.bb):BI {E with ex:=fun k=>E.ex k∨(w.heap.size≤k∧k<w'.heap.size)} w' n b w':=by
 obtain⟨⟨⟨h1,h2,h3,h4⟩,h5,h6⟩,h7,h8,h9,hA⟩:=h
 refine⟨⟨⟨?_,h2.kept (hk.block _ h2.lt fun hx=>(hF _ hx).2.2 rfl),.inl h3,h4⟩,Keeps.refl _ _,h6⟩,h7,h8,h9,hA⟩
 refine h1.foreign hk (fun k hx=>⟨(hF k hx).1,(hF k hx).2.1⟩) fun k hx=> ?_
 rcases hx with hx|hx
 ·exact⟨.inl hx,Nat.lt_of_lt_of_le (h1.exlt k hx) hk.size⟩
 ·exact⟨.inr hx.1,hx.2⟩
theorem BI.other (h:BI E ws n b w) (hk:Keeps (OB E) w w') {k:Nat} (hx:E.ex k) (hb:k≠E.bb):w'.heap[k]?=w.heap[k]? :=
 hk.block k (h.bld.bm.li.exlt k hx) fun hy=>hy.elim (fun hz=>hz.2 hx) fun hz=>hb hz
end
end
section
section
variable {P:ByteArray→Prop} {b c:BuD} {m:BMark}
theorem NP.ite {p:Prop} [Decidable p] {r q:BuD} (h1:P r.name) (h2:P q.name):P (if p then r else q).name:=by
 by_cases h:p
 ·rw[if_pos h];exact h1
 ·rw[if_neg h];exact h2
theorem NP.ite1 {α:Type} {p:Prop} [Decidable p] {r q:BuD×α} (h1:P r.1.name) (h2:P q.1.name):P (if p then r else q).1.name:=by
 by_cases h:p
 ·rw[if_pos h];exact h1
 ·rw[if_neg h];exact h2
theorem NP.of (h:P b.name) (he:c.name=b.name):P c.name:=by rw[he];exact h
end
end
end Go.Proofs.YtgepobccoffnaaaGreatDoor
