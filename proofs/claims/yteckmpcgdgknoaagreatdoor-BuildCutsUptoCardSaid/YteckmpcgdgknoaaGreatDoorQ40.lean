/- Texts joined for a claim: BuTx, CuCt: plain laws and contracts. No conditions beyond those that each lemma types. -/
import Derived.Test.YteckmpcgdgknoaaGreatDoorQ39
import Derived.Test.YteckmpcgdgknoaaGreatDoorQ38
set_option linter.unusedVariables false
set_option linter.unusedSimpArgs false
namespace Go.Proofs.YteckmpcgdgknoaaGreatDoor
open Go.RowKit Mem
structure Els (T U:TreeD):Prop where
 el: ∀x,elemF U x=elemF T x
 sp: ∀x,spaceQ U x=spaceQ T x
 nm: ∀x,nameQ U x=nameQ T x
 at': ∀x,attrsQ U x=attrsQ T x
 par: ∀x,elemF T x=true→parentQ U x=parentQ T x
theorem Els.refl (T:TreeD):Els T T:=⟨fun _=>rfl,fun _=>rfl,fun _=>rfl,fun _=>rfl,fun _ _=>rfl⟩
theorem els_mod (T:TreeD) (n:Int) (s:ByteArray):Els T (modN T n (addText s)):=by
 have e1:=elemF_modZ T n (addText s) (fun _=>rfl)
 have hg: ∀ {α:Type} (f:ND→α) (hf: ∀d,f (addText s d)=f d) (x:Int) (z:α),((((modN T n (addText s)).nodes[x.toNat]?).map f).getD z)=(((T.nodes[x.toNat]?).map f).getD z):=fun f hf x z=>by
  unfold modN
  simp only[List.getElem?_modify]
  cases T.nodes[x.toNat]? with
  |none=>simp
  |some d=>by_cases h:n.toNat=x.toNat <;>simp[h,hf]
 refine⟨e1,fun x=> ?_,fun x=> ?_,fun x=> ?_,fun x _=> ?_⟩
 ·unfold spaceQ;rw[e1,hg _ fun _=>rfl]
 ·unfold nameQ;rw[e1,hg _ fun _=>rfl]
 ·unfold attrsQ;rw[e1,hg _ fun _=>rfl]
 ·unfold parentQ parentF isF;rw[modN_len,hg _ fun _=>rfl]
def newT (T:TreeD) (a:Int) (i:Nat) (s:ByteArray):TreeD:=insertF (addF T (textN s)) a i T.nodes.length
theorem newT_node (T:TreeD) {a:Int} (ha:a.toNat<T.nodes.length) (i:Nat) (s:ByteArray):(newT T a i s).nodes[T.nodes.length]?=some (setParent a (textN s)):=by
 unfold newT insertF modN addF
 simp only[List.getElem?_modify,Int.toNat_natCast,if_true]
 rw[List.getElem?_append_right (Nat.le_refl _),Nat.sub_self]
 have h: ¬a.toNat=T.nodes.length:=by omega
 simp[h]
theorem newT_other (T:TreeD) (a:Int) (i:Nat) (s:ByteArray) {j:Nat} (hj:j≠T.nodes.length):(newT T a i s).nodes[j]?=(T.nodes[j]?).map fun d=>if a.toNat=j then setKids ((kidsF (addF T (textN s)) a).take i++(T.nodes.length:Int)::(kidsF (addF T (textN s)) a).drop i) d else d:=by
 unfold newT insertF modN addF
 simp only[List.getElem?_modify,Int.toNat_natCast]
 have hl:(T.nodes++ [textN s])[j]?=T.nodes[j]?:=by
  rcases Nat.lt_or_ge j T.nodes.length with h|h
  ·rw[List.getElem?_append_left h]
  ·rw[List.getElem?_append_right h,List.getElem?_eq_none (by simp;omega),List.getElem?_eq_none h]
 rw[hl]
 cases T.nodes[j]? with
 |none=>rfl
 |some d =>
  have h2: ¬T.nodes.length=j:=fun e=>hj e.symm
  by_cases h:a.toNat=j
  ·simp[h,h2]
  ·simp[h,h2]
theorem newT_len (T:TreeD) (a:Int) (i:Nat) (s:ByteArray):(newT T a i s).nodes.length=T.nodes.length+1:=by
 unfold newT
 rw[insertF_len]
 simp[addF]
theorem isF_new (T:TreeD) (a:Int) (i:Nat) (s:ByteArray) {x:Int} (hx:x≠T.nodes.length):isF (newT T a i s) x=isF T x:=by
 unfold isF
 rw[newT_len]
 congr 1
 rw[decide_eq_decide]
 omega
theorem newT_elem (T:TreeD) {a:Int} (ha:a.toNat<T.nodes.length) (i:Nat) (s:ByteArray) (x:Int):elemF (newT T a i s) x=elemF T x:=by
 by_cases hx:x=T.nodes.length
 ·subst hx
  have h1:elemF T T.nodes.length=false:=by
   unfold elemF isF
   rw[show decide ((T.nodes.length:Int)<(T.nodes.length:Int))=false by simp,Bool.and_false,Bool.false_and]
  rw[h1]
  unfold elemF
  rw[Int.toNat_natCast,newT_node T ha]
  show(_&&false)=false
  rw[Bool.and_false]
 ·by_cases h0:x<0
  ·have hf: ∀U:TreeD,elemF U x=false:=fun U=>by
    unfold elemF isF
    rw[show decide (1≤x)=false by simp;omega]
    rfl
   rw[hf,hf]
  ·unfold elemF
   rw[isF_new T a i s hx,newT_other T a i s (by omega)]
   cases T.nodes[x.toNat]? with
   |none=>rfl
   |some d=>by_cases h:a.toNat=x.toNat <;>simp[h,setKids]
theorem els_new (T:TreeD) {a:Int} (ha:a.toNat<T.nodes.length) (i:Nat) (s:ByteArray):Els T (newT T a i s):=by
 have e1:=newT_elem T ha i s
 have hg: ∀ {α:Type} (f:ND→α) (hf: ∀d k,f (setKids k d)=f d) (x:Int) (z:α),elemF T x=true→((((newT T a i s).nodes[x.toNat]?).map f).getD z)=(((T.nodes[x.toNat]?).map f).getD z):=fun f hf x z he=>by
  obtain⟨k,hk,rfl, -⟩:=elemF_nat he
  rw[Int.toNat_natCast,newT_other T a i s (by omega)]
  cases T.nodes[k]? with
  |none=>rfl
  |some d=>by_cases h:a.toNat=k <;>simp[h,hf]
 refine⟨e1,fun x=> ?_,fun x=> ?_,fun x=> ?_,fun x hx=> ?_⟩
 ·unfold spaceQ
  rw[e1]
  by_cases h:elemF T x=true
  ·rw[if_pos h,if_pos h,hg (·.space) (fun _ _=>rfl) x 0 h]
  ·rw[if_neg h,if_neg h]
 ·unfold nameQ
  rw[e1]
  by_cases h:elemF T x=true
  ·rw[if_pos h,if_pos h,hg (·.name) (fun _ _=>rfl) x ⟨#[]⟩ h]
  ·rw[if_neg h,if_neg h]
 ·unfold attrsQ
  rw[e1]
  by_cases h:elemF T x=true
  ·rw[if_pos h,if_pos h,hg (·.attrs) (fun _ _=>rfl) x [] h]
  ·rw[if_neg h,if_neg h]
 ·unfold parentQ parentF
  obtain⟨k,hk,rfl, -⟩:=elemF_nat hx
  rw[isF_new T a i s (by omega),hg (·.parent) (fun _ _=>rfl) _ (-1) hx]
theorem holds_lt {T:TreeD} (h1:1≤T.nodes.length) {a:Int} (h:holdsF T a=true):a.toNat<T.nodes.length:=by
 unfold holdsF at h
 rw[Bool.or_eq_true,beq_iff_eq]at h
 rcases h with h|h
 ·rw[h];exact h1
 ·obtain⟨k,hk,rfl, -⟩:=elemF_nat h
  rw[Int.toNat_natCast];exact hk
theorem els_text {T:TreeD} (h1:1≤T.nodes.length) (a b:Int) (s:ByteArray):Els T (textE T a b s).1:=by
 unfold textE
 split
 ·rename_i hh
  rw[Bool.and_eq_true]at hh
  split
  ·exact .refl T
  ·unfold textAt
   split
   ·exact els_mod T _ s
   ·split
    ·exact els_new T (holds_lt h1 hh.1) _ s
    ·exact .refl T
 ·exact .refl T
theorem Els.holds {T U:TreeD} (h:Els T U) (x:Int):holdsF U x=holdsF T x:=by unfold holdsF;rw[h.el]
theorem Els.named {T U:TreeD} (h:Els T U) (x:Int) (S:List ByteArray):namedF U x S=namedF T x S:=by unfold namedF;rw[h.el,h.sp,h.nm]
theorem Els.place {T U:TreeD} (h:Els T U) (l:List Int) (on:Bool) (t:Int):placeQ U l on t=placeQ T l on t:=by
 have hf: ∀(x:Int) (r:List Int),fostR U x r=fostR T x r:=fun x r=>by
  induction r with
  |nil=>rfl
  |cons y r ih =>
   rw[fostR,fostR,h.named,ih]
   by_cases hn:namedF T y tableN=true
   ·have hy:elemF T y=true:=by
     unfold namedF at hn
     rw[Bool.and_eq_true]at hn
     exact hn.1
    rw[if_pos hn,if_pos hn,h.par y hy]
   ·rw[if_neg hn,if_neg hn]
 unfold placeQ
 simp only[h.named,hf]
theorem addText_two (s t:ByteArray) (d:ND):addText t (addText s d)=addText (s++t) d:=by
 unfold addText
 simp only[ByteArray.append_assoc]
theorem modText_two (T:TreeD) (n:Int) (s t:ByteArray):modN (modN T n (addText s)) n (addText t)=modN T n (addText (s++t)):=by
 unfold modN
 simp only
 rw[List.modify_modify_eq]
 congr 2
 funext d
 exact addText_two s t d
theorem kids_addText (T:TreeD) (n:Int) (s:ByteArray) (i:Int):kidsF (modN T n (addText s)) i=kidsF T i:=kidsF_modS T n (f:=addText s) (fun _=>rfl) i
theorem kids_new {T:TreeD} {a:Int} (ha:a.toNat<T.nodes.length) (i:Nat) (s:ByteArray):kidsF (newT T a i s) a=(kidsF T a).take i++(T.nodes.length:Int)::(kidsF T a).drop i:=by
 have e:kidsF (addF T (textN s)) a=kidsF T a:=kidsF_addF T rfl a
 show((((newT T a i s).nodes[a.toNat]?).map (·.kids)).getD [])=_
 rw[newT_other T a i s (by omega),List.getElem?_eq_getElem ha,e]
 simp[setKids]
theorem newText_two {T:TreeD} {a:Int} (ha:a.toNat<T.nodes.length) (i:Nat) (s t:ByteArray):modN (newT T a i s) T.nodes.length (addText t)=newT T a i (s++t):=by
 have hn:(modN (newT T a i s) T.nodes.length (addText t)).nodes=(newT T a i (s++t)).nodes:=by
  refine List.ext_getElem? fun j=> ?_
  show((newT T a i s).nodes.modify ((T.nodes.length:Nat):Int).toNat (addText t))[j]?=_
  rw[List.getElem?_modify,Int.toNat_natCast]
  by_cases hj:j=T.nodes.length
  ·subst hj
   rw[newT_node T ha,newT_node T ha]
   simp[setParent,addText,textN]
  ·rw[newT_other T a i s hj,newT_other T a i (s++t) hj]
   have e:kidsF (addF T (textN s)) a=kidsF (addF T (textN (s++t))) a:=(kidsF_addF T rfl a).trans (kidsF_addF T rfl a).symm
   rw[e]
   have hj': ¬T.nodes.length=j:=fun q=>hj q.symm
   cases (T.nodes[j]?) <;>simp[hj']
 unfold modN newT insertF modN addF at hn ⊢
 simp only at hn ⊢
 rw[hn]
theorem idx_at: ∀(l:List Int) (x k:Int),0≤idxF l x k→k≤idxF l x k→(∃i:Nat,idxF l x k=k+i∧ ∃h:i<l.length,l[i]=x∧ ∀y∈l.take i,y≠x)∨idxF l x k= -1
 | [],_,_,_,_=> .inr rfl
 |y::r,x,k,h0,hk=>by
  rw[idxF]at h0 hk ⊢
  by_cases e:y=x
  ·rw[if_pos e]
   exact .inl ⟨0,by simp,by simp,e,by simp⟩
  ·rw[if_neg e]at h0 hk ⊢
   rcases Int.lt_or_le (idxF r x (k+1)) (k+1)with hl|hl
   ·right
    have hlow: ∀(l:List Int) (z:Int),idxF l x z= -1∨z≤idxF l x z:=fun l=>by
     induction l with
     |nil=>exact fun z=> .inl rfl
     |cons w l ih =>
      intro z
      rw[idxF]
      split
      ·exact .inr (Int.le_refl _)
      ·rcases ih (z+1)with q|q
       ·exact .inl q
       ·exact .inr (by omega)
    rcases hlow r (k+1)with q|q
    ·exact q
    ·omega
   ·rcases idx_at r x (k+1) h0 hl with⟨i,h1,h2,h3,h4⟩|h1
    ·refine .inl ⟨i+1,by rw[h1];omega,by simp only[List.length_cons];omega,by simpa using h3,fun z hz=> ?_⟩
     rw[List.take_succ_cons,List.mem_cons]at hz
     rcases hz with hz|hz
     ·rw[hz];exact e
     ·exact h4 z hz
    ·exact .inr h1
theorem idx_app: ∀(l m:List Int) (x k:Int),(∀y∈l,y≠x)→idxF (l++x::m) x k=k+l.length
 | [],m,x,k,_=>by rw[List.nil_append,idxF,if_pos rfl];simp
 |y::l,m,x,k,h=>by
  rw[List.cons_append,idxF,if_neg (h y List.mem_cons_self),idx_app l m x (k+1) fun z hz=>h z (List.mem_cons_of_mem _ hz)]
  simp only[List.length_cons]
  omega
theorem place_new {T:TreeD} {a b:Int} (ha:a.toNat<T.nodes.length) (hb:b≠T.nodes.length) (hp:0≤placeF T a b) (s:ByteArray) :
 placeF (newT T a (placeF T a b).toNat s) a b=placeF T a b+1∧prevF (newT T a (placeF T a b).toNat s) a (placeF T a b+1).toNat=T.nodes.length:=by
 obtain⟨i,hi⟩: ∃i:Nat,placeF T a b=i:=⟨(placeF T a b).toNat,by omega⟩
 have hil:i≤(kidsF T a).length∧(b≠0→ ∃h:i<(kidsF T a).length,(kidsF T a)[i]=b∧ ∀y∈(kidsF T a).take i,y≠b):=by
  unfold placeF at hi hp
  by_cases hb0:b=0
  ·rw[if_pos hb0]at hi
   exact⟨by omega,fun h=>absurd hb0 h⟩
  ·rw[if_neg hb0]at hi hp
   rcases idx_at (kidsF T a) b 0 hp hp with⟨j,h1,h2,h3,h4⟩|h1
   ·obtain rfl:i=j:=by omega
    exact⟨by omega,fun _=>⟨h2,h3,h4⟩⟩
   ·omega
 rw[hi,Int.toNat_natCast]
 have hk:=kids_new (T:=T) ha i s
 constructor
 ·unfold placeF
  rw[hk]
  by_cases hb0:b=0
  ·rw[if_pos hb0]
   have h2:placeF T a b=(kidsF T a).length:=by unfold placeF;rw[if_pos hb0]
   simp only[List.length_append,List.length_take,List.length_cons,List.length_drop]
   omega
  ·rw[if_neg hb0]
   obtain⟨h2,h3,h4⟩:=hil.2 hb0
   rw[List.drop_eq_getElem_cons h2,h3,show(kidsF T a).take i++(T.nodes.length:Int)::b::(kidsF T a).drop (i+1)=((kidsF T a).take i++ [(T.nodes.length:Int)])++b::(kidsF T a).drop (i+1) by simp,idx_app]
   ·simp only[List.length_append,List.length_take,List.length_cons,List.length_nil]
    omega
   ·intro y hy
    rcases List.mem_append.1 hy with hy|hy
    ·exact h4 y hy
    ·rw[List.mem_singleton.1 hy]
     exact fun e=>hb e.symm
 ·unfold prevF
  rw[hk,show((i:Int)+1).toNat-1=i by omega,List.getElem?_append_right (by rw[List.length_take];omega),List.length_take,Nat.min_eq_left hil.1,Nat.sub_self]
  rfl
theorem textE_two {T:TreeD} (h1:1≤T.nodes.length) {a b:Int} (hb:b≠T.nodes.length) {s t:ByteArray} (hs:s.size≠0) (ht:t.size≠0) :
 (textE T a b (s++t)).2=(textE T a b s).2∧((textE T a b s).2=0→textE (textE T a b s).1 a b t=textE T a b (s++t)):=by
 have hst:(s++t).size≠0:=by rw[ByteArray.size_append];omega
 by_cases hh:(holdsF T a&&decide (0≤placeF T a b))=true
 ·have e1: ∀x:ByteArray,x.size≠0→textE T a b x=textAt T a b x:=fun x hx=>by unfold textE;rw[if_pos hh,if_neg hx]
  have hh2:=hh
  rw[Bool.and_eq_true,decide_eq_true_eq]at hh2
  have ha:=holds_lt h1 hh2.1
  rw[e1 s hs,e1 _ hst]
  by_cases h2:0<(placeF T a b).toNat∧elemF T (prevF T a (placeF T a b).toNat)=false
  ·have e2: ∀x,textAt T a b x=(modN T (prevF T a (placeF T a b).toNat) (addText x),0):=fun x=>by unfold textAt;rw[if_pos h2]
   rw[e2,e2]
   refine⟨rfl,fun _=> ?_⟩
   simp only
   have hp:placeF (modN T (prevF T a (placeF T a b).toNat) (addText s)) a b=placeF T a b:=by unfold placeF;rw[kids_addText]
   have hv:prevF (modN T (prevF T a (placeF T a b).toNat) (addText s)) a (placeF T a b).toNat=prevF T a (placeF T a b).toNat:=by
    unfold prevF
    rw[kids_addText]
   have hE:=els_mod T (prevF T a (placeF T a b).toNat) s
   unfold textE
   rw[hE.holds,hp,if_pos hh,if_neg ht]
   unfold textAt
   rw[hp,hv,hE.el,if_pos h2,modText_two]
  ·by_cases h3:(T.nodes.length:Int)-1<T.most
   ·have e2: ∀x,textAt T a b x=(newT T a (placeF T a b).toNat x,0):=fun x=>by unfold textAt;rw[if_neg h2,if_pos h3];rfl
    rw[e2,e2]
    refine⟨rfl,fun _=> ?_⟩
    simp only
    obtain⟨p1,p2⟩:=place_new ha hb hh2.2 s
    have hE:=els_new T ha (placeF T a b).toNat s
    have hn:elemF T T.nodes.length=false:=by
     unfold elemF isF
     rw[show decide ((T.nodes.length:Int)<(T.nodes.length:Int))=false by simp,Bool.and_false,Bool.false_and]
    unfold textE
    rw[hE.holds,p1,if_pos (by rw[Bool.and_eq_true,decide_eq_true_eq];exact⟨hh2.1,by omega⟩),if_neg ht]
    unfold textAt
    rw[p1,p2,hE.el,if_pos ⟨by omega,hn⟩,newText_two ha]
   ·have e2: ∀x,textAt T a b x=(T,43):=fun x=>by unfold textAt;rw[if_neg h2,if_neg h3]
    rw[e2,e2]
    exact⟨rfl,fun h=>by cases h⟩
 ·have e1: ∀x:ByteArray,textE T a b x=(T,47):=fun x=>by unfold textE;rw[if_neg hh]
  rw[e1,e1]
  exact⟨rfl,fun h=>by cases h⟩
theorem place_b {T:TreeD} {l:List Int} {on:Bool} {t:Int} (h1:1≤T.nodes.length):(placeQ T l on t).2≠T.nodes.length:=by
 have hf: ∀(x:Int) (r:List Int),(fostR T x r).2≠T.nodes.length:=fun x r=>by
  induction r with
  |nil=>rw[fostR];show(0:Int)≠_;omega
  |cons y r ih =>
   rw[fostR]
   split
   ·split
    ·rename_i hp
     show y≠_
     intro e
     subst e
     unfold parentQ isF at hp
     rw[show decide ((T.nodes.length:Int)<(T.nodes.length:Int))=false by simp,Bool.and_false,if_neg (by decide)]at hp
     omega
    ·cases r <;>(show(0:Int)≠_;omega)
   ·exact ih
 unfold placeQ
 split
 ·show(0:Int)≠_;omega
 ·have hi: ∀ {p:Prop} [Decidable p] {x y:Int×Int},x.2≠T.nodes.length→y.2≠T.nodes.length→(if p then x else y).2≠T.nodes.length:=fun {p _ x y} h2 h3=>by
   by_cases hp:p
   ·rw[if_pos hp];exact h2
   ·rw[if_neg hp];exact h3
  exact hi (hf _ _) (show(0:Int)≠_ by omega)
theorem rfind_in {l:List Int} {x:Int} (h:x∈l):0≤rfind l x:=by
 obtain⟨i,hi,he⟩:=List.getElem_of_mem h
 obtain⟨h1, -,h3, -⟩:=rfind_spec l x
 rcases Int.lt_or_le (rfind l x) 0 with hl|hl
 ·exact absurd he (h3 i hi (by omega))
 ·exact hl
theorem restR_open (on:Bool): ∀(r i:Nat) (S:AS),i+r=S.ent.length→(restR on r i S).2=0→(restR on r i S).1.ent.length=S.ent.length∧(∀x∈S.l,x∈(restR on r i S).1.l)∧(0<r→ ∀x,(restR on r i S).1.ent.getLast?=some x→x∈(restR on r i S).1.l)
 |0,_,S,_,_=>⟨rfl,fun _ h=>h,fun h=>absurd h (by omega)⟩
 |r+1,i,S,hi,h=>by
  rw[restR]at h ⊢
  split at h
  ·rename_i h0
   rw[if_pos h0]
   have hm:(S.T.nodes.length:Int)-1<S.T.most:=by
    refine Classical.byContradiction fun hm=> ?_
    rw[insertL_no hm]at h0
    cases h0
   obtain⟨i1,i2, -⟩:=insertL_yes hm S.l on (spaceQ S.T (S.ent.getD i 0)) (nameQ S.T (S.ent.getD i 0)) (attrsQ S.T (S.ent.getD i 0))
   generalize insertL S.T S.l on (spaceQ S.T (S.ent.getD i 0)) (nameQ S.T (S.ent.getD i 0)) (attrsQ S.T (S.ent.getD i 0))=q at *
   obtain⟨k1,k2,k3⟩:=restR_open on r (i+1) ⟨q.1,q.2.1,S.ent.set i q.2.2.1⟩ (by show _=(S.ent.set i q.2.2.1).length;rw[List.length_set];omega) h
   have hn:q.2.2.1∈q.2.1:=by rw[i1,i2];simp
   refine⟨k1.trans (List.length_set ..),fun x hx=>k2 x (by show x∈q.2.1;rw[i1];simp[hx]),fun _ x hx=> ?_⟩
   rcases Nat.eq_zero_or_pos r with hr|hr
   ·subst hr
    have hx':(S.ent.set i q.2.2.1).getLast?=some x:=hx
    have hlast:(S.ent.set i q.2.2.1).getLast?=some q.2.2.1:=by
     rw[List.getLast?_eq_getElem?,List.length_set,show S.ent.length-1=i by omega,List.getElem?_set_self (by omega)]
    rw[hlast]at hx'
    cases hx'
    exact k2 _ hn
   ·exact k3 hr x hx
  ·rename_i h0
   exact absurd h h0
theorem begF_full {l ent:List Int} (h: ∀x,ent.getLast?=some x→x∈l):begF l ent=ent.length:=by
 unfold begF
 rcases List.eq_nil_or_concat ent with rfl|⟨e,x,rfl⟩
 ·rfl
 ·have hx:=h x (by simp)
  rw[List.concat_eq_append,List.reverse_append]
  show begR l (x::e.reverse)=_
  rw[begR,if_pos (by unfold stillB;rw[show decide (0≤rfind l x)=true by simpa using rfind_in hx,Bool.or_true])]
  simp
theorem restL_again {on on':Bool} {S:AS} (h:(restL on S).2=0) (T:TreeD):restL on' ⟨T,(restL on S).1.l,(restL on S).1.ent⟩=(⟨T,(restL on S).1.l,(restL on S).1.ent⟩,0):=by
 have hb:begF (restL on S).1.l (restL on S).1.ent=(restL on S).1.ent.length:=by
  have hle:=begF_le S.l S.ent
  rcases Nat.lt_or_ge (begF S.l S.ent) S.ent.length with hlt|hge
  ·obtain⟨-, -,k3⟩:=restR_open on (S.ent.length-begF S.l S.ent) (begF S.l S.ent) S (by omega) h
   exact begF_full (k3 (by omega))
  ·have e:restL on S=(S,0):=by unfold restL;rw[show S.ent.length-begF S.l S.ent=0 by omega];rfl
   rw[e]
   show begF S.l S.ent=S.ent.length
   omega
 unfold restL at hb ⊢
 simp only
 rw[hb,Nat.sub_self]
 rfl
section
def restE (t:ByteArray):Bool:=(restF t).toList.isEmpty
theorem toL_app (a b:ByteArray):(a++b).toList=a.toList++b.toList:=by
 rw[ByteArray.toList_eq,ByteArray.toList_eq,ByteArray.toList_eq,ByteArray.data_append,Array.toList_append]
theorem mkB_app (a b:List UInt8):mkB (a++b)=mkB a++mkB b:=by
 apply toList_inj
 rw[toL_app]
 unfold mkB
 rw[ByteArray.toList_eq,ByteArray.toList_eq,ByteArray.toList_eq]
theorem mkB_list (t:ByteArray):mkB t.toList=t:=by
 apply toList_inj
 unfold mkB
 rw[ByteArray.toList_eq]
theorem mkB_nil (l:List UInt8):(mkB l).toList.isEmpty=l.isEmpty:=by
 unfold mkB
 rw[ByteArray.toList_eq]
section
variable {u v:ByteArray}
theorem rest_all (h:restE u=true):aheadF u=u∧restF (u++v)=restF v∧aheadF (u++v)=u++aheadF v:=by
 unfold restE restF at h
 rw[mkB_nil]at h
 have hn:u.toList.dropWhile isSp= []:=by simpa using h
 have ht:u.toList.takeWhile isSp=u.toList:=by
  have:=List.takeWhile_append_dropWhile (p:=isSp) (l:=u.toList)
  rw[hn,List.append_nil]at this
  exact this
 refine⟨?_,?_,?_⟩
 ·unfold aheadF
  rw[ht,mkB_list]
 ·unfold restF
  rw[toL_app,List.dropWhile_append,if_pos (by rw[hn];rfl)]
 ·unfold aheadF
  rw[toL_app,List.takeWhile_append,if_pos (by rw[ht]),mkB_app,mkB_list]
theorem rest_some (h:restE u=false):restE (u++v)=false∧restF (u++v)=restF u++v∧aheadF (u++v)=aheadF u∧(restF u).size≠0:=by
 unfold restE restF at h
 rw[mkB_nil]at h
 have ht: ¬(u.toList.takeWhile isSp).length=u.toList.length:=fun e=>by
  have h1:=List.takeWhile_append_dropWhile (p:=isSp) (l:=u.toList)
  have h2:=congrArg List.length h1
  rw[List.length_append]at h2
  have h3:u.toList.dropWhile isSp= []:=List.eq_nil_of_length_eq_zero (by omega)
  rw[h3]at h
  cases h
 have hr:restF (u++v)=restF u++v:=by
  unfold restF
  rw[toL_app,List.dropWhile_append,if_neg (by rw[h];decide),mkB_app,mkB_list]
 have hz:(restF u).size≠0:=fun e=>by
  have:u.toList.dropWhile isSp= []:=List.eq_nil_of_length_eq_zero (by unfold restF at e;rw[mkB_len]at e;exact e)
  rw[this]at h
  cases h
 refine⟨?_,hr,?_,hz⟩
 ·unfold restE
  rw[hr,toL_app]
  unfold restF
  cases hd:u.toList.dropWhile isSp with
  |nil=>rw[hd]at h;cases h
  |cons c r=>unfold mkB;rw[ByteArray.toList_eq];rfl
 ·unfold aheadF
  rw[toL_app,List.takeWhile_append,if_neg ht]
end
def rowS:List ByteArray:= [⟨#[116,97,98,108,101]⟩,⟨#[116,98,111,100,121]⟩,⟨#[116,102,111,111,116]⟩,⟨#[116,104,101,97,100]⟩,⟨#[116,114]⟩]
namespace BuD
def blk (b:BuD) (t:ByteArray):BuD:=if(aheadF t).toList.isEmpty then b else b.putText (aheadF t)
noncomputable def blr (b:BuD) (t:ByteArray):BuD:=if(aheadF t).toList.isEmpty then b else b.restore.putText (aheadF t)
def onB (b:BuD) (v:Bool):BuD:= {b with on:=v}
def waits (b:BuD) (t:ByteArray):BuD:= {b with wait:=b.wait++t}
def fgn (b:BuD):Bool:=foreignF (pointF b.tops b.topn (attrsQ b.S.T b.top)) b.tops b.topn 1 ⟨#[]⟩
noncomputable def tTab (b:BuD) (t:ByteArray):BuD×ByteArray×Bool:=if b.at' rowS then(b.waits t,t,false)else((((b.onB true).restore.putText t).onB false),t,false)
noncomputable def tOnce (b:BuD) (t:ByteArray):BuD×ByteArray×Bool :=
 if b.fgn then(b.putText t,t,false)
 else if b.mode=0 then(if restE t then(b,restF t,false)else((b.goto 1).ins (⟨#[104,116,109,108]⟩:ByteArray) [],restF t,true))
 else if b.mode=1 then(if restE t then(b,restF t,false)else((b.goto 2).headed [],restF t,true))
 else if b.mode=2 then(if restE t then(b.blk t,restF t,false)else((b.blk t).pop.goto 3,restF t,true))
 else if b.mode=3 then(if restE t then(b.blk t,restF t,false)else(((b.blk t).ins (⟨#[98,111,100,121]⟩:ByteArray) []).goto 4,restF t,true))
 else if b.mode=4 then(b.restore.putText t,t,false)
 else if b.mode=5 then(b.putText t,t,false)
 else if b.mode=6 then b.tTab t
 else if b.mode=7 then(b.restore.putText t,t,false)
 else if b.mode=8 then(if restE t then(b.blk t,restF t,false)else if !((b.blk t).at' [⟨#[99,111,108,103,114,111,117,112]⟩])then(b.blk t,restF t,false)else((b.blk t).pop.goto 6,restF t,true))
 else if b.mode=9 then b.tTab t
 else if b.mode=10 then b.tTab t
 else if b.mode=11 then(b.restore.putText t,t,false)
 else if restE t then(b.blr t,restF t,false)else((b.blr t).goto 4,restF t,true)
noncomputable def tRun:Nat→BuD→ByteArray→BuD
 |0,b,_=>b
 |n+1,b,t=>if b.err=0 then(if(b.tOnce t).2.2 then tRun n (b.tOnce t).1 (b.tOnce t).2.1 else(b.tOnce t).1)else b
end BuD
section
variable {b:BuD} {nm:ByteArray} {al:List Pair} {sf:Bool} {t:ByteArray}
def tM (nm:ByteArray) (al:List Pair) (sf:Bool) (t:ByteArray):BMark:=⟨1,nm,al,sf,t⟩
theorem tm_start (S:List ByteArray):startF (tM nm al sf t) S=false:=rfl
theorem tm_end (S:List ByteArray):endF (tM nm al sf t) S=false:=rfl
theorem tm_blank:BuD.blankM (tM nm al sf t)=tM nm al sf (restF t)∧BuD.blankT (tM nm al sf t)=restE t∧b.blankB (tM nm al sf t)=b.blk t:=by
 refine⟨?_,rfl,?_⟩
 ·unfold BuD.blankM
  exact if_pos rfl
 ·unfold BuD.blankB BuD.blk
  exact if_pos rfl
theorem tm_body:b.inBody (tM nm al sf t)=(b.restore.putText t,tM nm al sf t,false):=by
 rw[BuD.inBody.eq_1]
 exact if_pos rfl
theorem tm_rowed:rowedF (tM nm al sf t)=false:=rfl
theorem tm_table:b.inTable (tM nm al sf t)=((b.tTab t).1,tM nm al sf (b.tTab t).2.1,(b.tTab t).2.2):=by
 rw[BuD.inTable.eq_1]
 unfold BuD.tTab
 by_cases h:b.at' rowS=true
 ·rw[if_pos h,if_pos (show((tM nm al sf t).kind==1&&b.at' [⟨#[116,97,98,108,101]⟩,⟨#[116,98,111,100,121]⟩,⟨#[116,102,111,111,116]⟩,⟨#[116,104,101,97,100]⟩,⟨#[116,114]⟩])=true by show(true&&b.at' rowS)=true;rw[h];rfl)]
  rfl
 ·have h':b.at' rowS=false:=by simpa using h
  rw[if_neg h,if_neg (show ¬((tM nm al sf t).kind==1&&b.at' [⟨#[116,97,98,108,101]⟩,⟨#[116,98,111,100,121]⟩,⟨#[116,102,111,111,116]⟩,⟨#[116,104,101,97,100]⟩,⟨#[116,114]⟩])=true by show ¬(true&&b.at' rowS)=true;rw[h'];decide)]
  simp only[tm_start,tm_end,Bool.false_eq_true,if_false,Bool.false_or,Bool.false_and]
  rw[if_neg (show ¬((tM nm al sf t).kind==6)=true from(by decide: ¬((1:Int)==6)=true))]
  have h1:=tm_body (b:=b.onB true) (nm:=nm) (al:=al) (sf:=sf) (t:=t)
  have e:b.astray (tM nm al sf t)=(((b.onB true).inBody (tM nm al sf t)).1.onB false,((b.onB true).inBody (tM nm al sf t)).2.1,((b.onB true).inBody (tM nm al sf t)).2.2):=rfl
  rw[e,h1]
theorem once_t:b.once (tM nm al sf t)=((b.tOnce t).1,tM nm al sf (b.tOnce t).2.1,(b.tOnce t).2.2):=by
 have hp: ∀ {p:Prop} [Decidable p] {x y:BuD×ByteArray×Bool},(if p then(x.1,tM nm al sf x.2.1,x.2.2)else(y.1,tM nm al sf y.2.1,y.2.2))=((if p then x else y).1,tM nm al sf (if p then x else y).2.1,(if p then x else y).2.2):=fun {p _ x y}=>by
  by_cases h:p
  ·rw[if_pos h,if_pos h]
  ·rw[if_neg h,if_neg h]
 have hf:foreignF (pointF b.tops b.topn (attrsQ b.S.T b.top)) b.tops b.topn (tM nm al sf t).kind (tM nm al sf t).name=b.fgn:=by
  unfold BuD.fgn foreignF foreignB
  show _=_
  rw[show((tM nm al sf t).kind==2)=false from rfl]
  simp only[Bool.false_and,Bool.and_false,Bool.not_false,Bool.or_false,show((1:Int)==2)=false by decide]
  rfl
 rw[BuD.once.eq_1,hf]
 have e0:b.foreign (tM nm al sf t) b.tops=(b.putText t,tM nm al sf t,false):=by
  rw[BuD.foreign.eq_1]
  exact if_pos rfl
 obtain⟨q1,q2,q3⟩:=tm_blank (b:=b) (nm:=nm) (al:=al) (sf:=sf) (t:=t)
 have e1:b.inStart (tM nm al sf t)=if restE t then(b,tM nm al sf (restF t),false)else((b.goto 1).ins (⟨#[104,116,109,108]⟩:ByteArray) [],tM nm al sf (restF t),true):=by
  rw[BuD.inStart.eq_1]
  simp only[q1,q2,tm_start,tm_end,Bool.false_eq_true,if_false]
  rfl
 have e2:b.inAhead (tM nm al sf t)=if restE t then(b,tM nm al sf (restF t),false)else((b.goto 2).headed [],tM nm al sf (restF t),true):=by
  rw[BuD.inAhead.eq_1]
  simp only[q1,q2,tm_start,tm_end,Bool.false_eq_true,if_false,Bool.false_or]
  rfl
 have e3:b.inHead (tM nm al sf t)=if restE t then(b.blk t,tM nm al sf (restF t),false)else((b.blk t).pop.goto 3,tM nm al sf (restF t),true):=by
  rw[BuD.inHead.eq_1]
  have hh: ∀c:BuD,(c.heads (tM nm al sf (restF t))).2=false:=fun _=>rfl
  simp only[q1,q2,q3,hh,tm_start,tm_end,Bool.false_eq_true,if_false]
  rfl
 have e4:b.inBehind (tM nm al sf t)=if restE t then(b.blk t,tM nm al sf (restF t),false)else(((b.blk t).ins (⟨#[98,111,100,121]⟩:ByteArray) []).goto 4,tM nm al sf (restF t),true):=by
  rw[BuD.inBehind.eq_1]
  simp only[q1,q2,q3,tm_start,tm_end,Bool.false_eq_true,if_false]
  rfl
 have e6:b.inText (tM nm al sf t)=(b.putText t,tM nm al sf t,false):=by
  rw[BuD.inText.eq_1]
  exact if_pos rfl
 have e8:b.inCaption (tM nm al sf t)=(b.restore.putText t,tM nm al sf t,false):=by
  rw[BuD.inCaption.eq_1]
  simp only[tm_start,tm_end,tm_rowed,Bool.false_eq_true,if_false,Bool.false_or]
  exact tm_body
 have e9:b.inColumns (tM nm al sf t)=if restE t then(b.blk t,tM nm al sf (restF t),false)else if !((b.blk t).at' [⟨#[99,111,108,103,114,111,117,112]⟩])then(b.blk t,tM nm al sf (restF t),false)else((b.blk t).pop.goto 6,tM nm al sf (restF t),true):=by
  rw[BuD.inColumns.eq_1]
  simp only[q1,q2,q3,tm_start,tm_end,Bool.false_eq_true,if_false,Bool.false_or]
  rfl
 have eA:b.inRows (tM nm al sf t)=((b.tTab t).1,tM nm al sf (b.tTab t).2.1,(b.tTab t).2.2):=by
  rw[BuD.inRows.eq_1]
  simp only[tm_start,tm_end,Bool.false_eq_true,if_false,Bool.false_or]
  exact tm_table
 have eB:b.inRow (tM nm al sf t)=((b.tTab t).1,tM nm al sf (b.tTab t).2.1,(b.tTab t).2.2):=by
  rw[BuD.inRow.eq_1]
  simp only[tm_start,tm_end,tm_rowed,Bool.false_eq_true,if_false,Bool.false_or,Bool.false_and]
  exact tm_table
 have eC:b.inCell (tM nm al sf t)=(b.restore.putText t,tM nm al sf t,false):=by
  rw[BuD.inCell.eq_1]
  simp only[tm_start,tm_end,tm_rowed,Bool.false_eq_true,if_false]
  exact tm_body
 have eD:b.inAfter (tM nm al sf t)=if restE t then(b.blr t,tM nm al sf (restF t),false)else((b.blr t).goto 4,tM nm al sf (restF t),true):=by
  have hc:(if((tM nm al sf t).kind==1)&& !(aheadF (tM nm al sf t).text).toList.isEmpty then(b.inBody ⟨1,⟨#[]⟩,[],false,aheadF (tM nm al sf t).text⟩).1 else b)=b.blr t:=by
   unfold BuD.blr
   show(if(true&& !(aheadF t).toList.isEmpty)=true then(b.inBody (tM ⟨#[]⟩ [] false (aheadF t))).1 else b)=_
   rw[tm_body]
   cases (aheadF t).toList.isEmpty <;>rfl
  rw[BuD.inAfter.eq_1]
  simp only[hc,q1,q2,tm_start,tm_end,Bool.false_eq_true,if_false,Bool.false_or]
  rfl
 rw[BuD.rules.eq_1,e0,e1,e2,e3,e4,tm_body,e6,tm_table,e8,e9,eA,eB,eC,eD]
 unfold BuD.tOnce
 simp only[←hp]
theorem again_t: ∀(n:Nat) (b:BuD) (t:ByteArray),BuD.again n b (tM nm al sf t)=b.tRun n t
 |0,_,_=>rfl
 |n+1,b,t=>by
  rw[BuD.again,BuD.tRun,once_t]
  simp only[again_t n]
end
end
end Go.Proofs.YteckmpcgdgknoaaGreatDoor
