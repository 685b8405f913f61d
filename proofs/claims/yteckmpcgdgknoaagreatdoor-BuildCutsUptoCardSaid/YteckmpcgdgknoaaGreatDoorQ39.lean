/- Texts joined for a claim: BuJ, BuJb, BuJc: plain laws and contracts. No conditions beyond those that each lemma types. -/
import Derived.Test.YteckmpcgdgknoaaGreatDoorQ32
import Derived.Test.YteckmpcgdgknoaaGreatDoorQ38
set_option linter.unusedVariables false
set_option linter.unusedSimpArgs false
namespace Go.Proofs.YteckmpcgdgknoaaGreatDoor
open Go.RowKit Mem
section
def cgL (x:ByteArray):Bool:=x.toList==([99,111,108,103,114,111,117,112]:List UInt8)
def cgB (T:TreeD) (x:Int):Bool:=(spaceQ T x==0)&&cgL (nameQ T x)
def enL (x:ByteArray):Bool:=cgL x||isW rowN x
def Nm (T U:TreeD):Prop:=T.nodes.length≤U.nodes.length∧ ∀x:Int,x.toNat<T.nodes.length→spaceQ U x=spaceQ T x∧nameQ U x=nameQ T x
theorem Nm.refl (T:TreeD):Nm T T:=⟨Nat.le_refl _,fun _ _=>⟨rfl,rfl⟩⟩
theorem Nm.trans {T U V:TreeD} (h:Nm T U) (k:Nm U V):Nm T V:=⟨Nat.le_trans h.1 k.1,fun x hx=>⟨(k.2 x (Nat.lt_of_lt_of_le hx h.1)).1.trans (h.2 x hx).1,(k.2 x (Nat.lt_of_lt_of_le hx h.1)).2.trans (h.2 x hx).2⟩⟩
theorem Nm.cg {T U:TreeD} (h:Nm T U) {x:Int} (hx:x.toNat<T.nodes.length):cgB U x=cgB T x:=by unfold cgB;rw[(h.2 x hx).1,(h.2 x hx).2]
theorem nm_mod (T:TreeD) (n:Int) {f:ND→ND} (h1: ∀d,(f d).elem=d.elem) (h2: ∀d,(f d).space=d.space) (h3: ∀d,(f d).name=d.name):Nm T (modN T n f):=by
 refine⟨by rw[modN_len];exact Nat.le_refl _,fun x _=> ?_⟩
 have e1:=elemF_modZ T n f h1 x
 unfold spaceQ nameQ
 rw[e1]
 unfold modN
 simp only[List.getElem?_modify]
 cases T.nodes[x.toNat]? with
 |none=>simp
 |some d=>by_cases h:n.toNat=x.toNat <;>simp[h,h2,h3]
theorem nm_add (T:TreeD) (d:ND):Nm T (addF T d):=by
 refine⟨by simp[addF],fun x hx=> ?_⟩
 have e1:elemF (addF T d) x=elemF T x:=by
  by_cases h0:x<0
  ·unfold elemF isF
   rw[show decide (1≤x)=false by simp;omega]
   rfl
  ·have:=addF_elem T d x.toNat hx
   rwa [Int.toNat_of_nonneg (by omega)]at this
 unfold spaceQ nameQ
 rw[e1]
 unfold addF
 simp only
 rw[List.getElem?_append_left hx]
 exact⟨rfl,rfl⟩
theorem nm_insert (T:TreeD) (a:Int) (i:Nat) (n:Int):Nm T (insertF T a i n):=by
 unfold insertF
 exact(nm_mod _ _ (f:=setKids _) (fun _=>rfl) (fun _=>rfl) (fun _=>rfl)).trans (nm_mod _ _ (f:=setParent a) (fun _=>rfl) (fun _=>rfl) (fun _=>rfl))
theorem nm_take (T:TreeD) (n:Int):Nm T (takeF T n):=by
 have h1:Nm T (kidsOff T n):=by
  unfold kidsOff
  split
  ·exact nm_mod _ _ (f:=setKids _) (fun _=>rfl) (fun _=>rfl) (fun _=>rfl)
  ·exact .refl T
 unfold takeF
 exact h1.trans (nm_mod _ _ (f:=setParent (-1)) (fun _=>rfl) (fun _=>rfl) (fun _=>rfl))
theorem nm_put (T:TreeD) (a b n:Int):Nm T (putE T a b n).1:=by
 unfold putE
 split
 ·exact(nm_take T n).trans (nm_insert _ _ _ _)
 ·exact .refl T
theorem nm_mk (T:TreeD) (d:ND):Nm T (mkF T d).1:=by
 unfold mkF
 split
 ·exact nm_add T d
 ·exact .refl T
theorem nm_like (T:TreeD) (n:Int):Nm T (likeF T n).1:=by
 unfold likeF
 split
 ·exact nm_mk T _
 ·exact .refl T
theorem nm_move (b:Int): ∀(l:List Int) (T:TreeD),Nm T (moveF T b l)
 | [],T=> .refl T
 |_::r,T=>(nm_put T b 0 _).trans (nm_move b r _)
theorem nm_moveE (T:TreeD) (a b:Int):Nm T (moveE T a b).1:=by
 unfold moveE
 split
 ·exact nm_move b _ T
 ·exact .refl T
theorem nm_text (T:TreeD) (a b:Int) (s:ByteArray):Nm T (textE T a b s).1:=by
 unfold textE
 split
 ·split
  ·exact .refl T
  ·unfold textAt
   split
   ·exact nm_mod _ _ (f:=addText s) (fun _=>rfl) (fun _=>rfl) (fun _=>rfl)
   ·split
    ·exact(nm_add T _).trans (nm_insert _ _ _ _)
    ·exact .refl T
 ·exact .refl T
def Okc (T:TreeD) (x:Int):Prop:=x.toNat<T.nodes.length∧cgB T x=false
theorem Okc.grow {T U:TreeD} {x:Int} (h:Okc T x) (k:Nm T U):Okc U x:=⟨Nat.lt_of_lt_of_le h.1 k.1,(k.cg h.1).trans h.2⟩
def Oke (T:TreeD) (x:Int):Prop:=x.toNat<T.nodes.length∧spaceQ T x=0∧enL (nameQ T x)=false
theorem Oke.grow {T U:TreeD} {x:Int} (h:Oke T x) (k:Nm T U):Oke U x:=⟨Nat.lt_of_lt_of_le h.1 k.1,(k.2 x h.1).1.trans h.2.1,by rw[(k.2 x h.1).2];exact h.2.2⟩
theorem enL_cg {x:ByteArray} (h:enL x=false):cgL x=false:=by
 unfold enL at h
 rw[Bool.or_eq_false_iff]at h
 exact h.1
theorem Oke.okc {T:TreeD} {x:Int} (h:Oke T x):Okc T x:=⟨h.1,by unfold cgB;rw[enL_cg h.2.2,Bool.and_false]⟩
theorem none_oke {T:TreeD} (h:1≤T.nodes.length) {x:Int} (hx:x≤0):Oke T x:=by
 have e:elemF T x=false:=by
  unfold elemF isF
  rw[show decide (1≤x)=false by simp;omega]
  rfl
 refine⟨by omega,?_,?_⟩
 ·unfold spaceQ
  rw[e]
  rfl
 ·unfold nameQ
  rw[e]
  show enL ⟨#[]⟩=false
  kernel_rfl
theorem zero_ok {T:TreeD} (h:1≤T.nodes.length):Okc T 0:=by
 refine⟨h,?_⟩
 have e:elemF T 0=false:=by unfold elemF isF;rfl
 unfold cgB nameQ
 rw[e]
 show(_&&cgL ⟨#[]⟩)=false
 rw[show cgL ⟨#[]⟩=false by kernel_rfl,Bool.and_false]
theorem add_cg (T:TreeD) (sp:Int) (nm:ByteArray) (at':List Pair) (h:1≤T.nodes.length):cgB (addF T (elemN sp nm at')) T.nodes.length=((sp==0)&&cgL nm):=by
 have hg:(addF T (elemN sp nm at')).nodes[((T.nodes.length:Nat):Int).toNat]?=some (elemN sp nm at'):=by
  unfold addF
  simp
 have e:elemF (addF T (elemN sp nm at')) T.nodes.length=true:=by
  unfold elemF isF
  rw[hg]
  unfold addF
  simp[elemN]
  omega
 unfold cgB spaceQ nameQ
 rw[e,hg]
 rfl
theorem mk_ok {T:TreeD} (h1:1≤T.nodes.length) {sp:Int} {nm:ByteArray} {at':List Pair} (hn:((sp==0)&&cgL nm)=false):Okc (mkF T (elemN sp nm at')).1 (mkF T (elemN sp nm at')).2.1:=by
 unfold mkF
 split
 ·refine⟨?_,(add_cg T sp nm at' h1).trans hn⟩
  show((T.nodes.length:Nat):Int).toNat<(addF T (elemN sp nm at')).nodes.length
  simp[addF]
 ·exact zero_ok h1
theorem add_oke {T:TreeD} (h1:1≤T.nodes.length) {nm:ByteArray} {at':List Pair} (hn:enL nm=false):Oke (addF T (elemN 0 nm at')) T.nodes.length:=by
 have hg:(addF T (elemN 0 nm at')).nodes[((T.nodes.length:Nat):Int).toNat]?=some (elemN 0 nm at'):=by
  unfold addF
  simp
 have e:elemF (addF T (elemN 0 nm at')) T.nodes.length=true:=by
  unfold elemF isF
  rw[hg]
  unfold addF
  simp[elemN]
  omega
 refine⟨by simp[addF],?_,?_⟩
 ·unfold spaceQ
  rw[e,hg]
  rfl
 ·unfold nameQ
  rw[e,hg]
  exact hn
theorem mk_oke {T:TreeD} (h1:1≤T.nodes.length) {nm:ByteArray} {at':List Pair} (hn:enL nm=false):Oke (mkF T (elemN 0 nm at')).1 (mkF T (elemN 0 nm at')).2.1:=by
 unfold mkF
 split
 ·exact add_oke h1 hn
 ·exact none_oke h1 (Int.le_refl 0)
theorem like_oke {T:TreeD} (h1:1≤T.nodes.length) {n:Int} (hn:Oke T n):Oke (likeF T n).1 (likeF T n).2.1:=by
 unfold likeF
 split
 ·rw[hn.2.1]
  exact mk_oke h1 hn.2.2
 ·exact none_oke h1 (Int.le_refl 0)
structure C2 (T:TreeD) (l ent:List Int):Prop where
 len:1≤T.nodes.length
 l: ∀x∈l,Okc T x
 e: ∀x∈ent,Oke T x
section
variable {T U:TreeD} {l ent:List Int}
theorem C2.grow (h:C2 T l ent) (k:Nm T U):C2 U l ent:=⟨Nat.le_trans h.len k.1,fun x hx=>(h.l x hx).grow k,fun x hx=>(h.e x hx).grow k⟩
theorem C2.on {m:List Int} (h:C2 T l ent) (hm: ∀x∈m,x∈l∨Okc T x):C2 T m ent:=⟨h.len,fun x hx=>(hm x hx).elim (h.l x) id,h.e⟩
theorem C2.en {m:List Int} (h:C2 T l ent) (hm: ∀x∈m,x∈ent∨Oke T x):C2 T l m:=⟨h.len,h.l,fun x hx=>(hm x hx).elim (h.e x) id⟩
theorem C2.sub {m:List Int} (h:C2 T l ent) (hm:m.Sublist l):C2 T m ent:=h.on fun _ hx=> .inl (hm.subset hx)
theorem C2.esub {m:List Int} (h:C2 T l ent) (hm:m.Sublist ent):C2 T l m:=h.en fun _ hx=> .inl (hm.subset hx)
theorem C2.push (h:C2 T l ent) {n:Int} (hn:Okc T n):C2 T (l++ [n]) ent:=h.on fun x hx=>by
 rcases List.mem_append.1 hx with hx|hx
 ·exact .inl hx
 ·exact .inr (List.mem_singleton.1 hx▸hn)
theorem C2.ins (h:C2 T l ent) (on:Bool) {sp:Int} {nm:ByteArray} (at':List Pair) (hn:((sp==0)&&cgL nm)=false):C2 (insertL T l on sp nm at').1 (insertL T l on sp nm at').2.1 ent∧Okc (insertL T l on sp nm at').1 (insertL T l on sp nm at').2.2.1∧Nm T (insertL T l on sp nm at').1:=by
 have h1:=nm_mk T (elemN sp nm at')
 have h2:=mk_ok h.len (at':=at') hn
 have h3:=h.grow h1
 unfold insertL
 simp only
 split
 ·have h4:=nm_put (mkF T (elemN sp nm at')).1 (placeQ (mkF T (elemN sp nm at')).1 l on 0).1 (placeQ (mkF T (elemN sp nm at')).1 l on 0).2 (mkF T (elemN sp nm at')).2.1
  exact⟨(h3.grow h4).push (h2.grow h4),h2.grow h4,h1.trans h4⟩
 ·exact⟨h3,zero_ok h3.len,h1⟩
theorem ins_oke {T:TreeD} (h1:1≤T.nodes.length) (l:List Int) (on:Bool) {sp:Int} {nm:ByteArray} (at':List Pair) (hs:sp=0) (hn:enL nm=false):Oke (insertL T l on sp nm at').1 (insertL T l on sp nm at').2.2.1:=by
 subst hs
 have h2:=mk_oke h1 (at':=at') hn
 unfold insertL
 simp only
 split
 ·exact h2.grow (nm_put _ _ _ _)
 ·exact none_oke (Nat.le_trans h1 (nm_mk T _).1) (Int.le_refl 0)
theorem mem_swap {l:List Int} {o n x:Int} (h:x∈swapF l o n):x∈l∨x=n:=by
 unfold swapF at h
 split at h
 ·exact List.mem_or_eq_of_mem_set h
 ·exact .inl h
theorem mem_insAtI {l:List Int} {i:Nat} {n x:Int} (h:x∈insAt l i n):x∈l∨x=n:=by
 unfold insAt at h
 rcases List.mem_append.1 h with h|h
 ·exact .inl (List.mem_of_mem_take h)
 ·rcases List.mem_cons.1 h with h|h
  ·exact .inr h
  ·exact .inl (List.mem_of_mem_drop h)
theorem mem_insF {l:List Int} {b n x:Int} (h:x∈insF l b n):x∈l∨x=n:=by
 unfold insF at h
 split at h
 ·exact mem_insAtI h
 ·exact .inl h
theorem rfind_mem {l:List Int} {x:Int} (h:0≤rfind l x):x∈l:=by
 obtain⟨-,h2, -,h4⟩:=rfind_spec l x
 have:=h4 (rfind l x).toNat (by omega) (by omega)
 rw[←this]
 exact List.getElem_mem _
theorem turnR_c (b:Int): ∀(r:List Int) (c:Nat) (S:TS),C2 S.T S.l S.ent→C2 (turnR b r c S).1.T (turnR b r c S).1.l (turnR b r c S).1.ent∧Nm S.T (turnR b r c S).1.T
 | [],_,S,h=>⟨h,.refl _⟩
 |x::r,c,S,h=>by
  have k1:=nm_like S.T x
  rw[turnR]
  split
  ·rename_i hx
   have h1:=like_oke h.len (h.e x (rfind_mem hx))
   split
   ·exact turnR_c b r (c+1) _ ((h.sub (rmF_sub _ _)).esub (dropF_sub _ _))
   ·split
    ·have k2:=nm_put (likeF S.T x).1 (likeF S.T x).2.1 0 S.last
     have h2:=h1.grow k2
     have h3:=(h.grow k1).grow k2
     have h4:=turnR_c b r (c+1) ⟨(putE (likeF S.T x).1 (likeF S.T x).2.1 0 S.last).1,swapF S.l x (likeF S.T x).2.1,S.ent.set (rfind S.ent x).toNat (likeF S.T x).2.1,if S.last=b then rfind S.ent x+1 else S.keep,(likeF S.T x).2.1⟩
      ((h3.on fun y hy=>(mem_swap hy).imp id fun e=>by rw[e];exact h2.okc).en fun y hy=>(List.mem_or_eq_of_mem_set hy).imp id fun e=>by rw[e];exact h2)
     exact⟨h4.1,(k1.trans k2).trans h4.2⟩
    ·exact⟨h.grow k1,k1⟩
  ·exact turnR_c b r (c+1) _ (h.sub (rmF_sub _ _))
theorem closeL_c (h:C2 T l ent) {f:Int} (hf:Oke T f) (b keep:Int):C2 (closeL T l ent f b keep).1 (closeL T l ent f b keep).2.1 (closeL T l ent f b keep).2.2.1∧Nm T (closeL T l ent f b keep).1:=by
 have k1:=nm_like T f
 have h1:=like_oke h.len hf
 unfold closeL
 split
 ·have k2:=(nm_moveE (likeF T f).1 b (likeF T f).2.1).trans (nm_put (moveE (likeF T f).1 b (likeF T f).2.1).1 b 0 (likeF T f).2.1)
  have h2:=h1.grow k2
  refine⟨((((h.grow k1).grow k2).sub (rmF_sub l f)).on fun y hy=>(mem_insF hy).imp id fun e=>by rw[e];exact h2.okc).en fun y hy=> ?_,k1.trans k2⟩
  rcases mem_insAtI hy with hy|hy
  ·exact .inl ((dropF_sub _ _).subset hy)
  ·exact .inr (by rw[hy];exact h2)
 ·exact⟨h.grow k1,k1⟩
theorem turnL_c (h:C2 T l ent) (on:Bool) {f:Int} (hf:Oke T f) (b:Int):C2 (turnL T l ent on f b).1 (turnL T l ent on f b).2.1 (turnL T l ent on f b).2.2.1∧Nm T (turnL T l ent on f b).1:=by
 obtain⟨h1,h2⟩:=turnR_c b (betweenF l f b).reverse 1 ⟨T,l,ent,rfind ent f,b⟩ h
 unfold turnL
 simp only
 split
 ·have h4:=fun U (k:Nm _ U)=>closeL_c (h1.grow (U:=U) k) ((hf.grow h2).grow k) b (turnR b (betweenF l f b).reverse 1 ⟨T,l,ent,rfind ent f,b⟩).1.keep
  exact⟨(h4 _ (nm_put _ _ _ _)).1,(h2.trans (nm_put _ _ _ _)).trans (h4 _ (nm_put _ _ _ _)).2⟩
 ·exact⟨h1,h2⟩
theorem adoptR_c (on:Bool) (name:ByteArray): ∀(r t:Nat) (S:AS),C2 S.T S.l S.ent→C2 (adoptR on name r t S).1.T (adoptR on name r t S).1.l (adoptR on name r t S).1.ent∧Nm S.T (adoptR on name r t S).1.T
 |0,_,_,h=>⟨h,.refl _⟩
 |r+1,t,S,h=>by
  rw[adoptR]
  split
  ·exact⟨h,.refl _⟩
  ·rename_i hf
   split
   ·exact⟨h.esub (rmF_sub _ _),.refl _⟩
   ·split
    ·exact⟨h,.refl _⟩
    ·split
     ·exact⟨(h.sub (List.take_sublist _ _)).esub (rmF_sub _ _),.refl _⟩
     ·obtain⟨h1,k1⟩:=turnL_c h on (h.e _ (findF_mem hf)) (blockF S.T S.l (findF S.T S.ent name))
      split
      ·obtain⟨h2,k2⟩:=adoptR_c on name r (t+1) ⟨_,_,_⟩ h1
       exact⟨h2,k1.trans k2⟩
      ·exact⟨h1,k1⟩
theorem adoptL_c {S:AS} (h:C2 S.T S.l S.ent) (on:Bool) (name:ByteArray):C2 (adoptL on name S).1.T (adoptL on name S).1.l (adoptL on name S).1.ent∧Nm S.T (adoptL on name S).1.T:=by
 unfold adoptL
 split
 ·exact⟨h.sub (List.dropLast_sublist _),.refl _⟩
 ·exact adoptR_c on name 8 0 S h
theorem getD_ok (h:C2 T l ent) (i:Nat):Oke T (ent.getD i 0):=by
 by_cases hi:i<ent.length
 ·rw[List.getD_eq_getElem?_getD,List.getElem?_eq_getElem hi]
  exact h.e _ (List.getElem_mem hi)
 ·rw[List.getD_eq_getElem?_getD,List.getElem?_eq_none (by omega)]
  exact none_oke h.len (Int.le_refl 0)
theorem restR_c (on:Bool): ∀(r i:Nat) (S:AS),C2 S.T S.l S.ent→C2 (restR on r i S).1.T (restR on r i S).1.l (restR on r i S).1.ent∧Nm S.T (restR on r i S).1.T
 |0,_,_,h=>⟨h,.refl _⟩
 |r+1,i,S,h=>by
  rw[restR]
  obtain⟨h1, -,k1⟩:=h.ins on (attrsQ S.T (S.ent.getD i 0)) (getD_ok h i).okc.2
  have h2:=ins_oke h.len S.l on (attrsQ S.T (S.ent.getD i 0)) (getD_ok h i).2.1 (getD_ok h i).2.2
  split
  ·obtain⟨h3,k2⟩:=restR_c on r (i+1) ⟨_,_,S.ent.set i _⟩ (h1.en fun y hy=>(List.mem_or_eq_of_mem_set hy).imp id fun e=>by rw[e];exact h2)
   exact⟨h3,k1.trans k2⟩
  ·exact⟨h1,k1⟩
theorem restL_c {S:AS} (h:C2 S.T S.l S.ent) (on:Bool):C2 (restL on S).1.T (restL on S).1.l (restL on S).1.ent∧Nm S.T (restL on S).1.T:=restR_c on _ _ S h
end
end
section
structure WC (b:BuD):Prop where
 c:C2 b.S.T b.S.l b.S.ent
 hd:Okc b.S.T b.head
 mo:b.mode≠8
 ba:b.back≠8
theorem one_ncg {S:List ByteArray} {x:ByteArray} (h:oneF S x=true) (hS:(S.all fun y=> !cgL y)=true):cgL x=false:=by
 have h1:=List.all_eq_true.1 hS x (one_in h)
 simpa using h1
theorem start_ncg {S:List ByteArray} {m:BMark} (h:startF m S=true) (hS:(S.all fun y=> !cgL y)=true):cgL m.name=false:=by
 unfold startF at h
 rw[Bool.and_eq_true]at h
 exact one_ncg h.2 hS
theorem one_nen {S:List ByteArray} {x:ByteArray} (h:oneF S x=true) (hS:(S.all fun y=> !enL y)=true):enL x=false:=by
 have h1:=List.all_eq_true.1 hS x (one_in h)
 simpa using h1
section
variable {b c:BuD} {m:BMark}
theorem WC.keep (h:WC b) (e:Int):WC (b.keep e):=by
 obtain⟨-,h1,h2,h3, -⟩:=b.keep_all e
 exact⟨by rw[BuD.keep_S];exact h.c,by rw[BuD.keep_S,h3];exact h.hd,by rw[h1];exact h.mo,by rw[h2];exact h.ba⟩
theorem WC.insSp (h:WC b) {sp:Int} {nm:ByteArray} (at':List Pair) (hn:((sp==0)&&cgL nm)=false):WC (b.insSp sp nm at').1:=by
 obtain⟨h1, -,k⟩:=h.c.ins b.on at' hn
 exact WC.keep (b:= {b with S:=⟨(insertL b.S.T b.S.l b.on sp nm at').1,(insertL b.S.T b.S.l b.on sp nm at').2.1,b.S.ent⟩}) ⟨h1,h.hd.grow k,h.mo,h.ba⟩ _
theorem WC.ins (h:WC b) {nm:ByteArray} (at':List Pair) (hn:cgL nm=false):WC (b.ins nm at'):=h.insSp at' (by rw[hn,Bool.and_false])
theorem WC.insN (h:WC b) {nm:ByteArray} (at':List Pair) (hn:enL nm=false):Oke (b.ins nm at').S.T (b.insN nm at'):=by
 have h2:=ins_oke h.c.len b.S.l b.on at' rfl hn
 have e:(b.ins nm at').S=⟨(insertL b.S.T b.S.l b.on 0 nm at').1,(insertL b.S.T b.S.l b.on 0 nm at').2.1,b.S.ent⟩:=BuD.keep_S _ _
 rw[e]
 exact h2
theorem WC.put (h:WC b) (t:ByteArray):WC (b.putText t) :=
 WC.keep (b:= {b with S:=⟨(textE b.S.T (placeQ b.S.T b.S.l b.on 0).1 (placeQ b.S.T b.S.l b.on 0).2 t).1,b.S.l,b.S.ent⟩,used:=b.used+t.size}) ⟨h.c.grow (nm_text _ _ _ _),h.hd.grow (nm_text _ _ _ _),h.mo,h.ba⟩ _
theorem WC.stk (h:WC b) {l:List Int} (hl:l.Sublist b.S.l):WC (b.stk l):=⟨h.c.sub hl,h.hd,h.mo,h.ba⟩
theorem WC.push (h:WC b) {n:Int} (hn:Okc b.S.T n):WC (b.push n):=⟨h.c.push hn,h.hd,h.mo,h.ba⟩
theorem WC.lst (h:WC b) {e:List Int} (he: ∀x∈e,x∈b.S.ent∨Oke b.S.T x):WC (b.lst e):=⟨h.c.en he,h.hd,h.mo,h.ba⟩
theorem WC.lsub (h:WC b) {e:List Int} (he:e.Sublist b.S.ent):WC (b.lst e):=h.lst fun _ hx=> .inl (he.subset hx)
theorem WC.lmark (h:WC b):WC b.lmark:=h.lst fun x hx=>by
 rcases List.mem_append.1 hx with hx|hx
 ·exact .inl hx
 ·exact .inr (by rw[List.mem_singleton.1 hx];exact none_oke h.c.len (by decide))
theorem WC.lclear (h:WC b):WC b.lclear:=h.lsub (List.take_sublist _ _)
theorem WC.lremove (h:WC b) (n:Int):WC (b.lremove n):=h.lsub (rmF_sub _ _)
theorem WC.lpush (h:WC b) {n:Int} (hn:Oke b.S.T n):WC (b.lpush n):=h.lst fun x hx=>by
 unfold pushF at hx
 rcases List.mem_append.1 hx with hx|hx
 ·left
  split at hx
  ·exact(dropF_sub _ _).subset hx
  ·exact hx
 ·exact .inr (by rw[List.mem_singleton.1 hx];exact hn)
theorem WC.pop (h:WC b):WC b.pop:=h.stk (List.dropLast_sublist _)
theorem WC.goto (h:WC b) {n:Int} (hn:n≠8):WC (b.goto n):=⟨h.c,h.hd,hn,h.ba⟩
theorem WC.until' (h:WC b) (names:List ByteArray):WC (b.until' names):=h.stk (rev_sub (untilF_sub _ _ _))
theorem WC.clear' (h:WC b) (names:List ByteArray):WC (b.clear' names):=h.stk (rev_sub (stClear_sub _ _ _))
theorem WC.imply (h:WC b) (but:ByteArray):WC (b.imply but):=h.stk (rev_sub (stImply_sub _ _ _))
theorem WC.popTo (h:WC b) (x:Int):WC (b.popTo x):=h.stk (rev_sub ((List.drop_sublist _ _).trans (List.dropWhile_sublist _)))
theorem WC.restore (h:WC b):WC b.restore:=by
 obtain⟨h1,k⟩:=restL_c h.c b.on
 exact WC.keep (b:= {b with S:=(restL b.on b.S).1}) ⟨h1,h.hd.grow k,h.mo,h.ba⟩ _
theorem WC.adopt (h:WC b) (nm:ByteArray):WC (b.adopt nm):=by
 obtain⟨h1,k⟩:=adoptL_c h.c b.on nm
 exact WC.keep (b:= {b with S:=(adoptL b.on nm b.S).1}) ⟨h1,h.hd.grow k,h.mo,h.ba⟩ _
theorem WC.raws (h:WC b) (k:Int) (hm:cgL m.name=false):WC (b.raws m k):=by
 have h1:=h.ins m.attrs hm
 exact⟨h1.c,h1.hd,(by decide:(5:Int)≠8),h1.mo⟩
theorem WC.single (h:WC b) {nm:ByteArray} (l:List Pair) (hn:cgL nm=false):WC (b.single nm l):=(h.ins l hn).pop
theorem WC.headed (h:WC b) (l:List Pair):WC (b.headed l):=by
 have h1:=h.ins (nm:=(⟨#[104,101,97,100]⟩:ByteArray)) l (by kernel_rfl)
 exact⟨h1.c,(h.insN l (by kernel_rfl)).okc,h1.mo,h1.ba⟩
theorem WC.ite {p:Prop} [Decidable p] {r q:BuD} (h1:p→WC r) (h2: ¬p→WC q):WC (if p then r else q):=by
 by_cases h:p
 ·rw[if_pos h];exact h1 h
 ·rw[if_neg h];exact h2 h
theorem WC.ite1 {α:Type} {p:Prop} [Decidable p] {r q:BuD×α} (h1:p→WC r.1) (h2: ¬p→WC q.1):WC (if p then r else q).1:=by
 by_cases h:p
 ·rw[if_pos h];exact h1 h
 ·rw[if_neg h];exact h2 h
theorem WC.heads (h:WC b) (m:BMark):WC (b.heads m).1:=by
 unfold BuD.heads
 exact WC.ite1 (fun hs=>(h.ins m.attrs (start_ncg hs (by kernel_rfl))).pop) fun _=>WC.ite1 (fun hs=>h.raws 1 (start_ncg hs (by kernel_rfl))) fun _=>WC.ite1 (fun hs=>h.raws 2 (start_ncg hs (by kernel_rfl))) fun _=>h
theorem WC.paragraph (h:WC b):WC b.paragraph:=WC.ite (fun _=>(h.imply _).until' _) fun _=>h
theorem WC.itemR (names:List ByteArray) (h:WC b): ∀l,WC (BuD.itemR names b l)
 | []=>h
 |x::r=>by
  rw[BuD.itemR]
  exact WC.ite (fun _=>(h.imply _).until' _) fun _=>WC.ite (fun _=>h) fun _=>h.itemR names r
theorem WC.otherR (want:ByteArray) (h:WC b): ∀l,WC (BuD.otherR want b l)
 | []=>h
 |x::r=>by
  rw[BuD.otherR]
  exact WC.ite (fun _=>(h.imply _).popTo _) fun _=>WC.ite (fun _=>h) fun _=>h.otherR want r
theorem WC.breakR (h:WC b): ∀l:List Int,l.Sublist b.S.l.reverse→WC (BuD.breakR b l)
 | [],_=>h.stk (List.nil_sublist _)
 |x::r,hl=>by
  rw[BuD.breakR]
  exact WC.ite (fun _=>h.stk (rev_sub hl)) fun _=>h.breakR r ((List.sublist_cons_self _ _).trans hl)
theorem WC.forms (h:WC b) (he:enL m.name=false):WC (b.forms m):=by
 have hm:=enL_cg he
 unfold BuD.forms
 exact WC.ite (fun _=>h.restore.ins _ hm) fun _=>(h.restore.ins _ hm).lpush (h.restore.insN _ he)
theorem WC.verbatim (h:WC b) (hm:cgL m.name=false):WC (b.verbatim m):=by
 unfold BuD.verbatim
 exact WC.ite (fun _=>by have h1:=h.raws 1 hm;exact⟨h1.c,h1.hd,h1.mo,h1.ba⟩) fun _=>WC.ite (fun _=>h.paragraph.restore.raws 2 hm) fun _=>h.raws 2 hm
theorem WC.phrases (h:WC b) (hm:cgL m.name=false):WC (b.phrases m):=by
 have h1: ∀c:BuD,WC c→WC (if oneF [⟨#[97,112,112,108,101,116]⟩,⟨#[109,97,114,113,117,101,101]⟩,⟨#[111,98,106,101,99,116]⟩] m.name then(c.restore.ins m.name m.attrs).lmark else c.restore.ins m.name m.attrs):=fun c hc=>WC.ite (fun _=>(hc.restore.ins _ hm).lmark) fun _=>hc.restore.ins _ hm
 unfold BuD.phrases
 exact h1 _ (WC.ite (fun _=>WC.ite (fun _=>(h.imply _).until' _) fun _=>h) fun _=>WC.ite (fun _=>WC.ite (fun _=>h.pop) fun _=>h) fun _=>h)
theorem WC.alien (h:WC b) (m:BMark) {sp:Int} (hs:sp≠0):WC (b.alien m sp):=by
 have h0:(sp==0)=false:=beq_eq_false_iff_ne.2 hs
 have h1:=h.insSp (sp:=sp) (nm:=nameF sp m.name) (attrsF sp m.attrs) (by rw[h0];rfl)
 unfold BuD.alien
 exact WC.ite (fun _=>h1.pop) fun _=>h1
theorem WC.blocks (h:WC b) (hm:cgL m.name=false):WC (b.blocks m):=by
 have h2:WC (BuD.paragraph (if m.name.toList==([108,105]:List UInt8)then b.item [⟨#[108,105]⟩]else if(m.name.toList==([100,100]:List UInt8))||(m.name.toList==([100,116]:List UInt8))then b.item [⟨#[100,100]⟩,⟨#[100,116]⟩]else b)):=(WC.ite (fun _=>h.itemR _ _) fun _=>WC.ite (fun _=>h.itemR _ _) fun _=>h).paragraph
 unfold BuD.blocks
 simp only
 generalize BuD.paragraph (if m.name.toList==([108,105]:List UInt8)then b.item [⟨#[108,105]⟩]else if(m.name.toList==([100,100]:List UInt8))||(m.name.toList==([100,116]:List UInt8))then b.item [⟨#[100,100]⟩,⟨#[100,116]⟩]else b)=b2 at h2 ⊢
 have h4:WC (if headingB m.name&&b2.at' headN then b2.pop else b2):=WC.ite (fun _=>h2.pop) fun _=>h2
 generalize (if headingB m.name&&b2.at' headN then b2.pop else b2)=b3 at h4 ⊢
 have h5:=h4.ins m.attrs hm
 exact WC.ite (fun _=>h2.single _ (by kernel_rfl)) fun _=>WC.ite (fun _=>⟨h5.c,h5.hd,h5.mo,h5.ba⟩) fun _=>WC.ite (fun _=>h5.goto (by decide)) fun _=>h5
theorem WC.opens (h:WC b) (m:BMark):WC (b.opens m).1:=by
 rw[BuD.opens.eq_1]
 refine WC.ite1 (fun _=>h) fun h0=> ?_
 have hm:cgL m.name=false:=by
  cases hc:cgL m.name with
  |false=>rfl
  |true =>
   have e:m.name=(⟨#[99,111,108,103,114,111,117,112]⟩:ByteArray):=beqT (by rw[show(ByteArray.toList (⟨#[99,111,108,103,114,111,117,112]⟩:ByteArray))=([99,111,108,103,114,111,117,112]:List UInt8) by kernel_rfl];exact hc)
   rw[e]at h0
   exact absurd (by kernel_rfl) h0
 refine WC.ite1 (fun _=>h.heads m) fun _=>WC.ite1 (fun _=>h.blocks hm) fun _=>WC.ite1 (fun ha=> ?_) fun _=>WC.ite1 (fun hf=>h.forms (one_nen hf (by kernel_rfl))) fun _=>WC.ite1 (fun ha=> ?_) fun _=>WC.ite1 (fun _=>h.single _ hm) fun _=>WC.ite1 (fun _=> ?_) fun _=>WC.ite1 (fun _=>h.verbatim hm) fun _=>WC.ite1 (fun _=>h.restore.alien _ ?_) fun _=>h.phrases hm
 ·have e:m.name=(⟨#[97]⟩:ByteArray):=beqT (by rw[show(ByteArray.toList (⟨#[97]⟩:ByteArray))=([97]:List UInt8) by kernel_rfl];exact ha)
  exact(WC.ite (fun _=>h) fun _=>((h.adopt _).lremove _).stk (rmF_sub _ _)).forms (by rw[e];kernel_rfl)
 ·have e:m.name=(⟨#[110,111,98,114]⟩:ByteArray):=beqT (by rw[show(ByteArray.toList (⟨#[110,111,98,114]⟩:ByteArray))=([110,111,98,114]:List UInt8) by kernel_rfl];exact ha)
  exact(WC.ite (fun _=>h.restore.adopt _) fun _=>h.restore).forms (by rw[e];kernel_rfl)
 ·refine h.restore.single _ ?_
  show cgL (if m.name.toList==([105,109,97,103,101]:List UInt8)then {m with name:=(⟨#[105,109,103]⟩:ByteArray)}else m:BMark).name=false
  by_cases hi:(m.name.toList==([105,109,97,103,101]:List UInt8))=true
  ·rw[if_pos hi];kernel_rfl
  ·rw[if_neg hi];exact hm
 ·split <;>decide
theorem WC.ends (h:WC b) (sc:Int) (but:ByteArray) (names:List ByteArray):WC (b.ends sc but names):=WC.ite (fun _=>(h.imply _).until' _) fun _=>h
theorem WC.closes (h:WC b) (m:BMark):WC (b.closes m).1:=by
 rw[BuD.closes.eq_1]
 refine WC.ite1 (fun _=>WC.ite1 (fun _=>h.goto (by decide)) fun _=>h) fun _=>WC.ite1 (fun _=>WC.paragraph (WC.ite (fun _=>h) fun _=>h.ins _ (by kernel_rfl))) fun _=>WC.ite1 (fun _=>h.ends _ _ _) fun _=>WC.ite1 (fun _=>h.ends _ _ _) fun _=>WC.ite1 (fun _=>h.ends _ _ _) fun _=>WC.ite1 (fun _=>h.ends _ _ _) fun _=>WC.ite1 (fun _=>WC.ite (fun _=>(h.adopt _).otherR _ _) fun _=>h.adopt _) fun _=>WC.ite1 (fun _=>WC.ite (fun _=>(h.ends _ _ _).lclear) fun _=>h) fun _=>WC.ite1 (fun _=>h.restore.single _ (by kernel_rfl)) fun _=>h.otherR _ _
theorem WC.inBody (h:WC b) (m:BMark):WC (b.inBody m).1:=by
 rw[BuD.inBody.eq_1]
 exact WC.ite1 (fun _=>h.restore.put _) fun _=>WC.ite1 (fun _=>h.opens m) fun _=>WC.ite1 (fun _=>h.closes m) fun _=>h
theorem WC.blankB (h:WC b) (m:BMark):WC (b.blankB m):=WC.ite (fun _=>WC.ite (fun _=>h) fun _=>h.put _) fun _=>h
theorem WC.astray (h:WC b) (m:BMark):WC (b.astray m).1:=by
 have h1:=WC.inBody (b:= {b with on:=true}) ⟨h.c,h.hd,h.mo,h.ba⟩ m
 exact⟨h1.c,h1.hd,h1.mo,h1.ba⟩
theorem WC.leave (h:WC b) (names:List ByteArray):WC (b.leave names):=(((h.imply _).until' _).lclear).goto (by decide)
theorem WC.flush (h:WC b):WC b.flush:=by
 have h1:WC ({b with wait:=⟨#[]⟩}:BuD):=⟨h.c,h.hd,h.mo,h.ba⟩
 unfold BuD.flush
 exact WC.ite (fun _=>h1) fun _=>WC.ite (fun _=>h1.put _) fun _=>h1.astray _
theorem WC.modeR {T:TreeD}: ∀ {l:List Int},(∀x∈l,cgB T x=false)→BuD.modeR T l≠8
 | [],_=>by rw[BuD.modeR];decide
 |x::r,h=>by
  have hx:=h x List.mem_cons_self
  have ih:=WC.modeR (l:=r) fun y hy=>h y (List.mem_cons_of_mem _ hy)
  rw[BuD.modeR]
  split
  ·exact ih
  ·rename_i h0
   have hc:((nameQ T x).toList==([99,111,108,103,114,111,117,112]:List UInt8))=false:=by
    unfold cgB at hx
    rw[beq_iff_eq.2 (Classical.not_not.1 h0),Bool.true_and]at hx
    exact hx
   rw[hc]
   repeat' split
   all_goals first|exact ih|decide|(rename_i h;cases h)
end
end
section
structure W8 (b:BuD):Prop where
 md:b.mode=8
 wt:b.wait=⟨#[]⟩
 top: ∃l x,b.S.l=l++ [x]∧x.toNat<b.S.T.nodes.length∧cgB b.S.T x=true∧WC ((b.stk l).goto 4)
def J8 (b:BuD):Prop:=b.err=0→WC b∨W8 b
section
variable {b c:BuD} {m:BMark}
theorem WC.j (h:WC b):J8 b:=fun _=> .inl h
theorem J8.ite1 {α:Type} {p:Prop} [Decidable p] {r q:BuD×α} (h1:p→J8 r.1) (h2: ¬p→J8 q.1):J8 (if p then r else q).1:=by
 by_cases h:p
 ·rw[if_pos h];exact h1 h
 ·rw[if_neg h];exact h2 h
theorem W8.cg (h:W8 b):b.tops=0∧b.at' [⟨#[99,111,108,103,114,111,117,112]⟩]=true:=by
 obtain⟨l,x,h1, -,h2, -⟩:=h.top
 have ht:b.top=x:=by unfold BuD.top;rw[h1];simp
 unfold cgB at h2
 rw[Bool.and_eq_true,beq_iff_eq]at h2
 have e:nameQ b.S.T x=(⟨#[99,111,108,103,114,111,117,112]⟩:ByteArray):=beqT (by rw[show(ByteArray.toList (⟨#[99,111,108,103,114,111,117,112]⟩:ByteArray))=([99,111,108,103,114,111,117,112]:List UInt8) by kernel_rfl];exact h2.2)
 have h3:b.tops=0:=by unfold BuD.tops;rw[ht];exact h2.1
 refine⟨h3,?_⟩
 unfold BuD.at' BuD.topn
 rw[h3,ht,e]
 kernel_rfl
theorem W8.grow (h:W8 b) (h1:c.mode=b.mode) (h2:c.wait=b.wait) (h3:c.back=b.back) (h4:c.head=b.head) (h5:c.S.l=b.S.l) (h6:c.S.ent=b.S.ent) (k:Nm b.S.T c.S.T):W8 c:=by
 obtain⟨l,x,q1,q2,q3,q4⟩:=h.top
 refine⟨h1.trans h.md,h2.trans h.wt,l,x,h5.trans q1,Nat.lt_of_lt_of_le q2 k.1,(k.cg q2).trans q3,⟨?_,?_,(by decide:(4:Int)≠8),?_⟩⟩
 ·show C2 c.S.T l c.S.ent
  rw[h6]
  exact q4.c.grow k
 ·show Okc c.S.T c.head
  rw[h4]
  exact q4.hd.grow k
 ·show c.back≠8
  rw[h3]
  exact q4.ba
theorem W8.put (h:W8 b) (t:ByteArray):W8 (b.putText t):=by
 obtain⟨-,h1,h2,h3,h4, -⟩:=({b with S:=⟨(textE b.S.T (placeQ b.S.T b.S.l b.on 0).1 (placeQ b.S.T b.S.l b.on 0).2 t).1,b.S.l,b.S.ent⟩,used:=b.used+t.size}:BuD).keep_all (textE b.S.T (placeQ b.S.T b.S.l b.on 0).1 (placeQ b.S.T b.S.l b.on 0).2 t).2
 have e:(b.putText t).S=⟨(textE b.S.T (placeQ b.S.T b.S.l b.on 0).1 (placeQ b.S.T b.S.l b.on 0).2 t).1,b.S.l,b.S.ent⟩:=BuD.keep_S _ _
 exact h.grow h1 h4 h2 h3 (by rw[e]) (by rw[e]) (by rw[e];exact nm_text _ _ _ _)
theorem W8.blankB (h:W8 b) (m:BMark):W8 (b.blankB m):=by
 unfold BuD.blankB
 split
 ·split
  ·exact h
  ·exact h.put _
 ·exact h
theorem W8.pop6 (h:W8 b):WC (b.pop.goto 6):=by
 obtain⟨l,x,q1, -, -,q4⟩:=h.top
 have e:b.S.l.dropLast=l:=by rw[q1];simp
 refine⟨?_,q4.hd,(by decide:(6:Int)≠8),q4.ba⟩
 show C2 b.S.T b.S.l.dropLast b.S.ent
 rw[e]
 exact q4.c
theorem nm_ins (T:TreeD) (l:List Int) (on:Bool) (sp:Int) (nm:ByteArray) (at':List Pair):Nm T (insertL T l on sp nm at').1:=by
 unfold insertL
 simp only
 split
 ·exact(nm_mk _ _).trans (nm_put _ _ _ _)
 ·exact nm_mk _ _
theorem ins_yes {nm:ByteArray} {at':List Pair} (h1:1≤b.S.T.nodes.length) (he:(b.ins nm at').err=0):(b.ins nm at').S.l=b.S.l++ [(b.S.T.nodes.length:Int)]∧(b.ins nm at').S.ent=b.S.ent∧Nm b.S.T (b.ins nm at').S.T∧b.S.T.nodes.length<(b.ins nm at').S.T.nodes.length∧cgB (b.ins nm at').S.T b.S.T.nodes.length=cgL nm:=by
 have e:(b.ins nm at').S=⟨(insertL b.S.T b.S.l b.on 0 nm at').1,(insertL b.S.T b.S.l b.on 0 nm at').2.1,b.S.ent⟩:=BuD.keep_S _ _
 have h0:(insertL b.S.T b.S.l b.on 0 nm at').2.2.2=0:=(BuD.keep_err he).1
 have hm:(b.S.T.nodes.length:Int)-1<b.S.T.most:=by
  refine Classical.byContradiction fun hm=> ?_
  rw[insertL_no hm]at h0
  cases h0
 obtain⟨i1, -,i3⟩:=insertL_yes hm b.S.l b.on 0 nm at'
 rw[e]
 refine⟨i1,rfl,nm_ins _ _ _ _ _ _,by show _<(insertL b.S.T b.S.l b.on 0 nm at').1.nodes.length;omega,?_⟩
 show cgB (insertL b.S.T b.S.l b.on 0 nm at').1 _=_
 have hk:mkF b.S.T (elemN 0 nm at')=(addF b.S.T (elemN 0 nm at'),(b.S.T.nodes.length:Int),0):=by rw[mkF,if_pos hm]
 unfold insertL
 rw[hk]
 simp only[if_true]
 rw[(nm_put _ _ _ _).cg (by simp[addF]),add_cg _ _ _ _ h1]
 rfl
theorem ins_same (b:BuD) (nm:ByteArray) (at':List Pair):(b.ins nm at').mode=b.mode∧(b.ins nm at').back=b.back∧(b.ins nm at').head=b.head∧(b.ins nm at').wait=b.wait:=by
 obtain⟨-,h1,h2,h3,h4, -⟩:=({b with S:=⟨(insertL b.S.T b.S.l b.on 0 nm at').1,(insertL b.S.T b.S.l b.on 0 nm at').2.1,b.S.ent⟩}:BuD).keep_all (insertL b.S.T b.S.l b.on 0 nm at').2.2.2
 exact⟨h1,h2,h3,h4⟩
theorem ins_col (h:WC b) (hw:b.wait=⟨#[]⟩) (at':List Pair) (he:(b.ins (⟨#[99,111,108,103,114,111,117,112]⟩:ByteArray) at').err=0):W8 ((b.ins (⟨#[99,111,108,103,114,111,117,112]⟩:ByteArray) at').goto 8):=by
 obtain⟨i1,i2,i3,i4,i5⟩:=ins_yes h.c.len he
 obtain⟨-,k2,k3,k4⟩:=ins_same b (⟨#[99,111,108,103,114,111,117,112]⟩:ByteArray) at'
 refine⟨rfl,k4.trans hw,b.S.l,(b.S.T.nodes.length:Int),i1,by rw[Int.toNat_natCast];exact i4,i5.trans (by kernel_rfl),⟨?_,?_,(by decide:(4:Int)≠8),?_⟩⟩
 ·show C2 (b.ins (⟨#[99,111,108,103,114,111,117,112]⟩:ByteArray) at').S.T b.S.l (b.ins (⟨#[99,111,108,103,114,111,117,112]⟩:ByteArray) at').S.ent
  rw[i2]
  exact h.c.grow i3
 ·show Okc (b.ins (⟨#[99,111,108,103,114,111,117,112]⟩:ByteArray) at').S.T (b.ins (⟨#[99,111,108,103,114,111,117,112]⟩:ByteArray) at').head
  rw[k3]
  exact h.hd.grow i3
 ·show(b.ins (⟨#[99,111,108,103,114,111,117,112]⟩:ByteArray) at').back≠8
  rw[k2]
  exact h.ba
theorem W8.single (h:W8 b) {nm:ByteArray} (at':List Pair) (he:(b.ins nm at').err=0):W8 (b.single nm at'):=by
 have h1:1≤b.S.T.nodes.length:=by
  obtain⟨l,x, -,q2, -⟩:=h.top
  omega
 obtain⟨i1,i2,i3,i4,i5⟩:=ins_yes h1 he
 obtain⟨k1,k2,k3,k4⟩:=ins_same b nm at'
 refine h.grow (c:=b.single nm at') k1 k4 k2 k3 ?_ i2 i3
 show(b.ins nm at').S.l.dropLast=b.S.l
 rw[i1]
 simp
theorem j_inColumns (h:W8 b) (m:BMark):J8 (b.inColumns m).1:=by
 have hb:=h.blankB m
 have j0:J8 (b.blankB m):=fun _=> .inr hb
 rw[BuD.inColumns.eq_1]
 exact J8.ite1 (fun _=>j0) fun _=>J8.ite1 (fun _=>j0) fun _=>J8.ite1 (fun _ he=> .inr (hb.single _ he)) fun _=>J8.ite1 (fun _=>j0) fun _=>hb.pop6.j
theorem j_inTable (h:WC b) (m:BMark) (hw:m.kind≠1→b.wait=⟨#[]⟩):J8 (b.inTable m).1:=by
 have hs: ∀ {S:List ByteArray},startF m S=true→b.wait=⟨#[]⟩:=fun {S} hx=>hw (by rw[(start_in hx).1];decide)
 rw[BuD.inTable.eq_1]
 refine J8.ite1 (fun _=>WC.j ⟨h.c,h.hd,h.mo,h.ba⟩) fun _=>J8.ite1 (fun _=>WC.j (((h.clear' _).lmark.ins _ (by kernel_rfl)).goto (by decide))) fun _=>J8.ite1 (fun hx he=> .inr (ins_col (h.clear' _) (hs hx) _ he)) fun _=>J8.ite1 (fun hx he=> .inr (ins_col (h.clear' _) (hs hx) _ he)) fun _=>J8.ite1 (fun hx=>WC.j (((h.clear' _).ins _ (start_ncg hx (by kernel_rfl))).goto (by decide))) fun _=>J8.ite1 (fun _=>WC.j (((h.clear' _).ins _ (by kernel_rfl)).goto (by decide))) fun _=>J8.ite1 (fun _=>J8.ite1 (fun _=>WC.j ?_) fun _=>h.j) fun _=>J8.ite1 (fun _=>h.j) fun _=>J8.ite1 (fun _=>(h.heads m).j) fun _=>J8.ite1 (fun _=>h.j) fun _=>(h.astray m).j
 have hu:=h.until' [⟨#[116,97,98,108,101]⟩]
 exact hu.goto (WC.modeR fun x hx=>(hu.c.l x (List.mem_reverse.1 hx)).2)
theorem j_rules (h:WC b∨W8 b) (m:BMark) (hw:m.kind≠1→b.wait=⟨#[]⟩):J8 (b.rules m).1:=by
 rcases h with h|h
 ·have hb:=h.blankB m
  rw[BuD.rules.eq_1]
  refine J8.ite1 (fun _=>WC.j ?_) fun _=>J8.ite1 (fun _=>WC.j ?_) fun _=>J8.ite1 (fun _=>WC.j ?_) fun _=>J8.ite1 (fun _=>WC.j ?_) fun _=>J8.ite1 (fun _=>(h.inBody m).j) fun _=>J8.ite1 (fun _=>WC.j ?_) fun _=>J8.ite1 (fun _=>j_inTable h m hw) fun _=>J8.ite1 (fun _=>WC.j ?_) fun _=>J8.ite1 (fun e=>absurd e h.mo) fun _=>J8.ite1 (fun _=> ?_) fun _=>J8.ite1 (fun _=> ?_) fun _=>J8.ite1 (fun _=>WC.j ?_) fun _=>WC.j ?_
  ·rw[BuD.inStart.eq_1]
   exact WC.ite1 (fun _=>h) fun _=>WC.ite1 (fun _=>h) fun _=>WC.ite1 (fun _=>(h.goto (by decide)).ins _ (by kernel_rfl)) fun _=>(h.goto (by decide)).ins _ (by kernel_rfl)
  ·rw[BuD.inAhead.eq_1]
   exact WC.ite1 (fun _=>h) fun _=>WC.ite1 (fun _=>h) fun _=>WC.ite1 (fun _=>(h.goto (by decide)).headed _) fun _=>(h.goto (by decide)).headed _
  ·rw[BuD.inHead.eq_1]
   exact WC.ite1 (fun _=>hb) fun _=>WC.ite1 (fun _=>hb.heads _) fun _=>WC.ite1 (fun _=>hb) fun _=>WC.ite1 (fun _=>hb.pop.goto (by decide)) fun _=>WC.ite1 (fun _=>hb) fun _=>hb.pop.goto (by decide)
  ·rw[BuD.inBehind.eq_1]
   exact WC.ite1 (fun _=>hb) fun _=>WC.ite1 (fun _=>hb) fun _=>WC.ite1 (fun _=>(hb.ins _ (by kernel_rfl)).goto (by decide)) fun _=>WC.ite1 (fun _=>((hb.push hb.hd).heads _).stk (rmF_sub _ _)) fun _=>WC.ite1 (fun _=>hb) fun _=>(hb.ins _ (by kernel_rfl)).goto (by decide)
  ·rw[BuD.inText.eq_1]
   exact WC.ite1 (fun _=>h.put _) fun _=>h.pop.goto h.ba
  ·rw[BuD.inCaption.eq_1]
   exact WC.ite1 (fun _=>WC.ite1 (fun _=>(((h.imply _).until' _).lclear).goto (by decide)) fun _=>h) fun _=>WC.ite1 (fun _=>h) fun _=>h.inBody m
  ·rw[BuD.inRows.eq_1]
   have hc:=(h.clear' [⟨#[116,98,111,100,121]⟩,⟨#[116,102,111,111,116]⟩,⟨#[116,104,101,97,100]⟩,⟨#[104,116,109,108]⟩]).goto (n:=10) (by decide)
   exact J8.ite1 (fun _=>J8.ite1 (fun _=>(hc.ins _ (by kernel_rfl)).j) fun _=>(hc.ins _ (by kernel_rfl)).j) fun _=>J8.ite1 (fun _=>J8.ite1 (fun _=>((h.clear' _).pop.goto (by decide)).j) fun _=>h.j) fun _=>J8.ite1 (fun _=>J8.ite1 (fun _=>((h.clear' _).pop.goto (by decide)).j) fun _=>h.j) fun _=>J8.ite1 (fun _=>h.j) fun _=>j_inTable h m hw
  ·rw[BuD.inRow.eq_1]
   exact J8.ite1 (fun hx=>WC.j (((h.clear' _).ins _ (start_ncg hx (by kernel_rfl))).goto (by decide)).lmark) fun _=>J8.ite1 (fun _=>h.j) fun _=>J8.ite1 (fun _=>J8.ite1 (fun _=>((h.clear' _).pop.goto (by decide)).j) fun _=>h.j) fun _=>J8.ite1 (fun _=>h.j) fun _=>j_inTable h m hw
  ·rw[BuD.inCell.eq_1]
   exact WC.ite1 (fun _=>WC.ite1 (fun _=>h.leave _) fun _=>h) fun _=>WC.ite1 (fun _=>WC.ite1 (fun _=>h.leave _) fun _=>h) fun _=>WC.ite1 (fun _=>h) fun _=>WC.ite1 (fun _=>WC.ite1 (fun _=>h.leave _) fun _=>h) fun _=>h.inBody m
  ·have h1:WC (if(m.kind==1)&& !(aheadF m.text).toList.isEmpty then(b.inBody ⟨1,⟨#[]⟩,[],false,aheadF m.text⟩).1 else b):=WC.ite (fun _=>h.inBody _) fun _=>h
   rw[BuD.inAfter.eq_1]
   exact WC.ite1 (fun _=>h1) fun _=>WC.ite1 (fun _=>h1) fun _=>h1.goto (by decide)
 ·rw[BuD.rules.eq_1,h.md]
  simp only[show ¬((8:Int)=0) by decide,show ¬((8:Int)=1) by decide,show ¬((8:Int)=2) by decide,show ¬((8:Int)=3) by decide,show ¬((8:Int)=4) by decide,show ¬((8:Int)=5) by decide,show ¬((8:Int)=6) by decide,show ¬((8:Int)=7) by decide,if_false,if_true]
  exact j_inColumns h m
theorem foreign_tops {p:Int} {nm:ByteArray} {k:Int} {mn:ByteArray} {sp:Int} (h:foreignF p sp nm k mn=true):sp≠0:=fun e=>by
 subst e
 unfold foreignF foreignB at h
 simp at h
theorem j_leaves (h:WC b) (m:BMark) (hw:m.kind≠1→b.wait=⟨#[]⟩): ∀l,J8 (BuD.leavesR m b l).1
 | []=>h.j
 | [_]=>h.j
 |x::y::r=>by
  rw[BuD.leavesR]
  exact J8.ite1 (fun _=>j_rules (.inl h) m hw) fun _=>J8.ite1 (fun _=>(h.popTo x).j) fun _=>j_leaves h m hw (y::r)
theorem j_once (h:WC b∨W8 b) (m:BMark) (hw:m.kind≠1→b.wait=⟨#[]⟩):J8 (b.once m).1:=by
 rw[BuD.once.eq_1]
 refine J8.ite1 (fun hf=> ?_) fun _=>j_rules h m hw
 have ht:=foreign_tops hf
 rcases h with h|h
 ·rw[BuD.foreign.eq_1]
  refine J8.ite1 (fun _=>(h.put _).j) fun _=>J8.ite1 (fun _=> ?_) fun _=>J8.ite1 (fun _=>(h.alien m ht).j) fun _=>J8.ite1 (fun _=>j_leaves h m hw _) fun _=>h.j
  refine j_rules (.inl (h.breakR _ (List.Sublist.refl _))) m fun hk=> ?_
  have h1:=sw_breakR (k:=false) b b.S.l.reverse
  unfold sw at h1
  rw[Prod.mk.injEq]at h1
  exact h1.2.trans (hw hk)
 ·exact absurd h.cg.1 ht
theorem j_again: ∀(n:Nat) (b:BuD) (m:BMark),okN m.name→(m.kind≠1→b.wait=⟨#[]⟩)→J8 b→J8 (BuD.again n b m)
 |0,_,_,_,_,h=>h
 |n+1,b,m,hm,hw,h=>by
  rw[BuD.again]
  by_cases he:b.err=0
  ·rw[if_pos he]
   have h1:=j_once (h he) m hw
   obtain⟨-,h4,h5⟩:=sl_once (k:=true) (fun e=>by cases e) b hm
   split
   ·refine j_again n _ _ h5 (fun hk=> ?_) h1
    rw[h4]at hk
    obtain⟨h3, -⟩:=sl_once (k:=false) (fun _=>hk) b hm
    unfold sw at h3
    rw[Prod.mk.injEq]at h3
    exact h3.2.trans (hw hk)
   ·exact h1
  ·rw[if_neg he]
   exact h
theorem J8.ready (h:J8 b):J8 b.ready:=fun he=>(h he).imp (fun k=>⟨k.c,k.hd,k.mo,k.ba⟩) fun k=>k.grow rfl rfl rfl rfl rfl rfl (.refl _)
theorem j_doF (h:J8 b) (hm:okN m.name):J8 (b.doF m):=by
 have hh:okN (b.headM m).name:=by
  unfold BuD.headM
  split <;>exact hm
 have hkk:(b.headM m).kind=m.kind:=by
  unfold BuD.headM
  split <;>rfl
 have hf:J8 b.ready.flush:=fun he=>by
  by_cases h0:b.ready.err=0
  ·rcases h.ready h0 with k|k
   ·exact .inl k.flush
   ·rw[flush_none k.wt];exact .inr k
  ·exfalso
   revert he
   unfold BuD.flush
   have hp: ∀(d:BuD) (e:Int),d.err≠0→(d.keep e).err≠0:=fun d e hd hx=>hd (BuD.keep_err hx).2
   simp only
   split
   ·exact h0
   ·split
    ·exact hp _ _ h0
    ·exact hp _ _ (hp _ _ h0)
 unfold BuD.doF
 split
 ·exact h
 ·split
  ·rename_i hk
   split
   ·exact h.ready
   ·exact j_again 9000 _ _ hh (fun hx=>absurd (hkk.trans hk) hx) h.ready
  ·split
   ·exact hf
   ·exact j_again 9000 _ _ hm (fun _=>(flush_sw b.ready).2) hf
end
end
end Go.Proofs.YteckmpcgdgknoaaGreatDoor
