/- Texts joined for a claim: OpenVO: plain laws and contracts. No conditions beyond those that each lemma types. -/
import Derived.Test.YtgepobccoffnaaaGreatDoorT01
import Derived.Test.YtgepobccoffnaaaGreatDoorT02
import Derived.Deep.QuietTactic
import Derived.KernelRfl
set_option linter.unusedVariables false
set_option linter.unusedSimpArgs false
section
namespace Go.Proofs.YtgepobccoffnaaaGreatDoor
open Mem
structure WFv (N:Nat) (p:Int→Int) (K:Int→List Int) (H:Int→Bool):Prop where
 pos:0<N
 root:p 0= -1
 par: ∀i:Nat,i<N→ -1≤p i∧p i<N
 kid: ∀i:Nat,i<N→ ∀k∈K i,1≤k∧k<N∧p k=i
 mem: ∀i:Nat,i<N→0≤p i→(i:Int)∈K (p i)
 nodup: ∀i:Nat,i<N→(K i).Nodup
 rank: ∃r:Int→Nat,∀i:Nat,i<N→1≤p i→r (p i)<r i
 holds: ∀i:Nat,i<N→K i≠ []→H i=true
theorem WF.view {T:TreeD} (h:WF T):WFv T.nodes.length (parentF T) (kidsF T) (holdsF T):=⟨h.pos,h.root,h.par,h.kid,h.mem,h.nodup,h.rank,h.holds⟩
theorem WFv.wf {T:TreeD} (h:WFv T.nodes.length (parentF T) (kidsF T) (holdsF T)):WF T:=⟨h.pos,h.root,h.par,h.kid,h.mem,h.nodup,h.rank,h.holds⟩
theorem WFv.congr {N:Nat} {p q:Int→Int} {K L:Int→List Int} {H G:Int→Bool} (h:WFv N p K H) (hp: ∀i:Nat,i<N→q i=p i) (hK: ∀i:Nat,i<N→L i=K i) (hH: ∀i:Nat,i<N→G i=H i):WFv N q L G where
 pos:=h.pos
 root:=by have:=hp 0 h.pos;rw[show((0:Nat):Int)=0 from rfl]at this;rw[this];exact h.root
 par:=fun i hi=>by rw[hp i hi];exact h.par i hi
 kid:=fun i hi k hk=>by
  rw[hK i hi]at hk
  obtain⟨h1,h2,h3⟩:=h.kid i hi k hk
  obtain⟨m,rfl⟩:=Int.eq_ofNat_of_zero_le (by omega:0≤k)
  exact⟨h1,h2,by rw[hp m (by omega)];exact h3⟩
 mem:=fun i hi h0=>by
  rw[hp i hi]at h0 ⊢
  have hm:=h.mem i hi h0
  have hr:=h.par i hi
  obtain⟨m,hm'⟩:=Int.eq_ofNat_of_zero_le h0
  rw[hm']at hm hr ⊢
  rw[hK m (by omega)]
  exact hm
 nodup:=fun i hi=>by rw[hK i hi];exact h.nodup i hi
 rank:=by
  obtain⟨r,hr⟩:=h.rank
  exact⟨r,fun i hi h1=>by rw[hp i hi]at h1 ⊢;exact hr i hi h1⟩
 holds:=fun i hi hk=>by rw[hK i hi]at hk;rw[hH i hi];exact h.holds i hi hk
inductive ReachV (p:Int→Int) (top:Int):Int→Prop
 |here:ReachV p top top
 |up {n:Int}:0<n→ReachV p top (p n)→ReachV p top n
theorem reachV {T:TreeD} {top n:Int}:Reach T top n↔ReachV (parentF T) top n:=by
 constructor
 ·intro h
  induction h with
  |here=>exact .here
  |up h _ ih=>exact .up h ih
 ·intro h
  induction h with
  |here=>exact .here
  |up h _ ih=>exact .up h ih
theorem WFv.take {N:Nat} {p:Int→Int} {K:Int→List Int} {H:Int→Bool} (h:WFv N p K H) {n:Int} (h1:1≤n) :
 WFv N (fun i=>if i=n then -1 else p i) (fun i=>if i=p n then(K i).filter (· !=n)else K i) H where
 pos:=h.pos
 root:=by rw[if_neg (by omega)];exact h.root
 par:=fun i hi=>by
  have:=h.par i hi
  show -1≤(if(i:Int)=n then -1 else p i)∧(if(i:Int)=n then -1 else p i)<N
  split
  ·have:=h.pos;omega
  ·exact this
 kid:=fun i hi k hk=>by
  have hne:k≠n∧k∈K i:=by
   try dsimp only at hk
   split at hk
   ·simp only[List.mem_filter,bne_iff_ne]at hk;exact⟨hk.2,hk.1⟩
   ·rename_i hni
    refine⟨fun e=> ?_,hk⟩
    obtain⟨_,_,h4⟩:=h.kid i hi k hk
    rw[e]at h4
    exact hni h4.symm
  obtain⟨h2,h3,h4⟩:=h.kid i hi k hne.2
  exact⟨h2,h3,by rw[if_neg hne.1];exact h4⟩
 mem:=fun i hi h0=>by
  try dsimp only at h0 ⊢
  by_cases he:(i:Int)=n
  ·rw[if_pos he]at h0;omega
  ·rw[if_neg he]at h0
   rw[if_neg he]
   have hm:=h.mem i hi h0
   split
   ·simp only[List.mem_filter,bne_iff_ne];exact⟨hm,he⟩
   ·exact hm
 nodup:=fun i hi=>by
  try dsimp only
  split
  ·exact(h.nodup i hi).filter _
  ·exact h.nodup i hi
 rank:=by
  obtain⟨r,hr⟩:=h.rank
  refine⟨r,fun i hi h2=> ?_⟩
  try dsimp only at h2 ⊢
  by_cases he:(i:Int)=n
  ·rw[if_pos he]at h2;omega
  ·rw[if_neg he]at h2 ⊢
   exact hr i hi h2
 holds:=fun i hi hk=>by
  refine h.holds i hi fun e=>hk ?_
  try dsimp only
  rw[e]
  split <;>rfl
theorem WFv.insert {N:Nat} {p:Int→Int} {K:Int→List Int} {H:Int→Bool} (h:WFv N p K H) {n a:Int} {i:Nat} (h1:1≤n) (hn:n<N) (ha0:0≤a) (ha:a<N) (hH:H a=true) (hp:p n= -1) (hr: ¬ReachV p n a) :
 WFv N (fun j=>if j=n then a else p j) (fun j=>if j=a then(K j).take i++n::(K j).drop i else K j) H:=by
 have hna:a≠n:=fun e=>hr (e▸ .here)
 have hnot: ∀j:Nat,j<N→n∉K j:=fun j hj hm=>by
  have:=(h.kid j hj n hm).2.2
  omega
 have hperm: ∀(l:List Int),(l.take i++n::l.drop i).Perm (n::l):=fun l=>by
  have:=(List.perm_middle:(l.take i++n::l.drop i).Perm (n::(l.take i++l.drop i)))
  rwa [List.take_append_drop]at this
 refine⟨h.pos,?_,?_,?_,?_,?_,?_,?_⟩
 ·rw[if_neg (by omega)];exact h.root
 ·intro j hj
  try dsimp only
  split
  ·omega
  ·exact h.par j hj
 ·intro j hj k hk
  try dsimp only at hk ⊢
  by_cases hja:(j:Int)=a
  ·rw[if_pos hja]at hk
   rcases List.mem_cons.1 ((hperm _).mem_iff.1 hk)with rfl|hk
   ·exact⟨h1,hn,by rw[if_pos rfl];exact hja.symm⟩
   ·obtain⟨h2,h3,h4⟩:=h.kid j hj k hk
    have:k≠n:=fun e=>hnot j hj (e▸hk)
    exact⟨h2,h3,by rw[if_neg this];exact h4⟩
  ·rw[if_neg hja]at hk
   obtain⟨h2,h3,h4⟩:=h.kid j hj k hk
   have:k≠n:=fun e=>hnot j hj (e▸hk)
   exact⟨h2,h3,by rw[if_neg this];exact h4⟩
 ·intro j hj h0
  try dsimp only at h0 ⊢
  by_cases he:(j:Int)=n
  ·rw[if_pos he,if_pos rfl]
   exact(hperm _).mem_iff.2 (by rw[he];exact List.mem_cons_self)
  ·rw[if_neg he]at h0 ⊢
   have hm:=h.mem j hj h0
   split
   ·exact(hperm _).mem_iff.2 (List.mem_cons_of_mem _ hm)
   ·exact hm
 ·intro j hj
  try dsimp only
  split
  ·exact(hperm _).nodup_iff.2 (List.nodup_cons.2 ⟨hnot j hj,h.nodup j hj⟩)
  ·exact h.nodup j hj
 ·obtain⟨r,hrk⟩:=h.rank
  classical
  refine⟨fun j=>if ReachV p n j then r j+r a+1 else r j,fun j hj h2=> ?_⟩
  try dsimp only at h2 ⊢
  by_cases he:(j:Int)=n
  ·rw[if_pos he,if_neg hr,if_pos (by rw[he];exact .here)]
   omega
  ·rw[if_neg he]at h2 ⊢
   have hj0:(0:Int)<j:=by
    rcases Nat.eq_zero_or_pos j with h0|h0
    ·subst h0
     have hroot:=h.root
     rw[show((0:Nat):Int)=0 from rfl]at h2
     omega
    ·omega
   have hlt:=hrk j hj h2
   by_cases hj2:ReachV p n j
   ·rw[if_pos hj2]
    have:ReachV p n (p j):=by
     cases hj2 with
     |here=>exact absurd rfl he
     |up _ hh=>exact hh
    rw[if_pos this]
    omega
   ·rw[if_neg hj2,if_neg (fun hh=>hj2 (.up hj0 hh))]
    exact hlt
 ·intro j hj hk
  try dsimp only at hk
  by_cases hja:(j:Int)=a
  ·rw[hja];exact hH
  ·rw[if_neg hja]at hk
   exact h.holds j hj hk
theorem WFv.add {N:Nat} {p q:Int→Int} {K L:Int→List Int} {H G:Int→Bool} (h:WFv N p K H) (hq: ∀i:Nat,i<N→q i=p i) (hL: ∀i:Nat,i<N→L i=K i) (hG: ∀i:Nat,i<N→G i=H i) (hqN:q N= -1) (hLN:L N= []):WFv (N+1) q L G:=by
 have h':=h.congr hq hL hG
 refine⟨Nat.succ_pos _,h'.root,?_,?_,?_,?_,?_,?_⟩
 ·intro i hi
  by_cases he:i=N
  ·subst he;rw[hqN];omega
  ·have:=h'.par i (by omega);omega
 ·intro i hi k hk
  by_cases he:i=N
  ·subst he;rw[hLN]at hk;cases hk
  ·have:=h'.kid i (by omega) k hk
   exact⟨this.1,by omega,this.2.2⟩
 ·intro i hi h0
  by_cases he:i=N
  ·subst he;rw[hqN]at h0;omega
  ·exact h'.mem i (by omega) h0
 ·intro i hi
  by_cases he:i=N
  ·subst he;rw[hLN];exact List.nodup_nil
  ·exact h'.nodup i (by omega)
 ·obtain⟨r,hr⟩:=h'.rank
  refine⟨r,fun i hi h1=> ?_⟩
  by_cases he:i=N
  ·subst he;rw[hqN]at h1;omega
  ·exact hr i (by omega) h1
 ·intro i hi hk
  by_cases he:i=N
  ·subst he;exact absurd hLN hk
  ·exact h'.holds i (by omega) hk
theorem reachV_take {p:Int→Int} {n m:Int} (h:ReachV (fun i=>if i=n then -1 else p i) n m):ReachV p n m:=by
 induction h with
 |here=>exact .here
 | @up m hm _ ih =>
   by_cases he:m=n
   ·rw[he];exact .here
   ·try dsimp only at ih
    rw[if_neg he]at ih
    exact .up hm ih
theorem nodup_short: ∀(N:Nat) (l:List Int),l.Nodup→(∀k∈l,0≤k∧k<N)→l.length≤N
 |0,l,_,h=>by
  cases l with
  |nil=>exact Nat.zero_le _
  |cons a r=>have:=h a List.mem_cons_self;omega
 |N+1,l,hd,h=>by
  have h1:=nodup_short N (l.erase (N:Int)) (hd.erase _) (fun k hk=>by
   have hk':=(hd.mem_erase_iff).1 hk
   have:=h k hk'.2
   omega)
  have:=List.length_erase (a:=(N:Int)) (l:=l)
  split at this <;>omega
end Go.Proofs.YtgepobccoffnaaaGreatDoor
namespace Go.Proofs.YtgepobccoffnaaaGreatDoor
open Mem
def modN (T:TreeD) (n:Int) (f:ND→ND):TreeD:=⟨T.nodes.modify n.toNat f,T.most,T.far⟩
def setKids (l:List Int) (d:ND):ND:= {d with kids:=l}
def setParent (p:Int) (d:ND):ND:= {d with parent:=p}
def addText (s:ByteArray) (d:ND):ND:= {d with text:=d.text++s}
def textN (s:ByteArray):ND:=⟨false,0,⟨#[]⟩,[],s, -1,[]⟩
def elemN (space:Int) (name:ByteArray) (attrs:List Pair):ND:=⟨true,space,name,attrs,⟨#[]⟩, -1,[]⟩
def addF (T:TreeD) (d:ND):TreeD:=⟨T.nodes++ [d],T.most,T.far⟩
def kidsOff (T:TreeD) (n:Int):TreeD:=if 0≤parentF T n then modN T (parentF T n) (setKids ((kidsF T (parentF T n)).filter (· !=n)))else T
def takeF (T:TreeD) (n:Int):TreeD:=modN (kidsOff T n) n (setParent (-1))
def insertF (T:TreeD) (a:Int) (i:Nat) (n:Int):TreeD:=modN (modN T a (setKids ((kidsF T a).take i++n::(kidsF T a).drop i))) n (setParent a)
noncomputable def putOk (T:TreeD) (a b n:Int):Bool:=holdsF T a&&isF T n&&(b !=n)&&decide (0≤placeF T a b)&& !belowF T a n
def putF (T:TreeD) (a b n:Int):TreeD:=insertF (takeF T n) a (placeF (takeF T n) a b).toNat n
theorem modN_most (T:TreeD) (n:Int) (f:ND→ND):(modN T n f).most=T.most:=rfl
theorem modN_len (T:TreeD) (n:Int) (f:ND→ND):(modN T n f).nodes.length=T.nodes.length:=by simp[modN]
theorem modN_get (T:TreeD) (n:Nat) (f:ND→ND) (i:Nat):(modN T n f).nodes[i]?=if n=i then T.nodes[i]?.map f else T.nodes[i]?:=by
 simp only[modN,List.getElem?_modify,Int.toNat_natCast]
 split <;>simp
theorem modN_of (T:TreeD) (n:Nat) (f:ND→ND) (h:n<T.nodes.length):modN T n f=⟨T.nodes.set n (f T.nodes[n]),T.most,T.far⟩:=by
 simp only[modN,Int.toNat_natCast,TreeD.mk.injEq,and_true]
 refine List.ext_getElem? fun i=> ?_
 simp only[List.getElem?_modify,List.getElem?_set]
 by_cases he:n=i
 ·subst he
  simp[h]
 ·simp[he]
theorem isF_len {T U:TreeD} (h:U.nodes.length=T.nodes.length) (n:Int):isF U n=isF T n:=by simp[isF,h]
section
variable (T:TreeD) (n:Nat) (f:ND→ND)
theorem parentF_mod (i:Nat) (hi:i<T.nodes.length):parentF (modN T n f) i=if n=i then(f T.nodes[i]).parent else parentF T i:=by
 simp only[parentF,Int.toNat_natCast,modN_get]
 split <;>simp[hi]
theorem kidsF_mod (i:Nat) (hi:i<T.nodes.length):kidsF (modN T n f) i=if n=i then(f T.nodes[i]).kids else kidsF T i:=by
 simp only[kidsF,Int.toNat_natCast,modN_get]
 split <;>simp[hi]
theorem elemF_mod (hf: ∀d,(f d).elem=d.elem) (i:Int):elemF (modN T n f) i=elemF T i:=by
 simp only[elemF,isF_len (modN_len T n f),modN_get]
 split
 ·rename_i e
  cases T.nodes[i.toNat]? <;>simp[hf]
 ·rfl
theorem holdsF_mod (hf: ∀d,(f d).elem=d.elem) (i:Int):holdsF (modN T n f) i=holdsF T i:=by simp only[holdsF,elemF_mod T n f hf]
end
theorem kidsF_setParent (T:TreeD) (n:Nat) (p:Int) (i:Nat) (hi:i<T.nodes.length):kidsF (modN T n (setParent p)) i=kidsF T i:=by
 rw[kidsF_mod T n _ i hi]
 split
 ·simp[setParent,kidsF,hi]
 ·rfl
theorem parentF_setKids (T:TreeD) (n:Nat) (l:List Int) (i:Nat) (hi:i<T.nodes.length):parentF (modN T n (setKids l)) i=parentF T i:=by
 rw[parentF_mod T n _ i hi]
 split
 ·simp[setKids,parentF,hi]
 ·rfl
theorem kidsF_addText (T:TreeD) (n:Nat) (s:ByteArray) (i:Nat) (hi:i<T.nodes.length):kidsF (modN T n (addText s)) i=kidsF T i:=by
 rw[kidsF_mod T n _ i hi]
 split
 ·simp[addText,kidsF,hi]
 ·rfl
theorem parentF_addText (T:TreeD) (n:Nat) (s:ByteArray) (i:Nat) (hi:i<T.nodes.length):parentF (modN T n (addText s)) i=parentF T i:=by
 rw[parentF_mod T n _ i hi]
 split
 ·simp[addText,parentF,hi]
 ·rfl
theorem kidsOff_len (T:TreeD) (n:Int):(kidsOff T n).nodes.length=T.nodes.length:=by
 unfold kidsOff
 split
 ·exact modN_len _ _ _
 ·rfl
theorem takeF_len (T:TreeD) (n:Int):(takeF T n).nodes.length=T.nodes.length:=by rw[takeF,modN_len,kidsOff_len]
theorem takeF_most (T:TreeD) (n:Int):(takeF T n).most=T.most:=by
 rw[takeF,modN_most,kidsOff]
 split <;>rfl
section
variable {T:TreeD} {n:Nat}
theorem kidsOff_parent (i:Nat) (hi:i<T.nodes.length):parentF (kidsOff T n) i=parentF T i:=by
 unfold kidsOff
 split
 ·rename_i h0
  obtain⟨m,hm⟩:=Int.eq_ofNat_of_zero_le h0
  rw[hm]
  exact parentF_setKids T m _ i hi
 ·rfl
theorem kidsOff_kids (hw:WF T) (hn:n<T.nodes.length) (i:Nat) (hi:i<T.nodes.length):kidsF (kidsOff T n) i=if(i:Int)=parentF T n then(kidsF T i).filter (· !=(n:Int))else kidsF T i:=by
 have hp:=(hw.par n hn)
 unfold kidsOff
 split
 ·rename_i h0
  obtain⟨m,hm⟩:=Int.eq_ofNat_of_zero_le h0
  rw[hm]
  rw[kidsF_mod T m _ i hi]
  by_cases he:m=i
  ·subst he
   rw[if_pos rfl,if_pos rfl]
   rfl
  ·rw[if_neg he,if_neg (by omega)]
 ·rename_i h0
  rw[if_neg (by omega)]
theorem kidsOff_elem (i:Int):elemF (kidsOff T n) i=elemF T i:=by
 unfold kidsOff
 split
 ·rename_i h0
  obtain⟨m,hm⟩:=Int.eq_ofNat_of_zero_le h0
  rw[hm]
  exact elemF_mod T m (setKids _) (fun _=>rfl) i
 ·rfl
theorem takeF_parent (i:Nat) (hi:i<T.nodes.length):parentF (takeF T n) i=if(i:Int)=(n:Int)then -1 else parentF T i:=by
 rw[takeF,parentF_mod _ n _ i (by rw[kidsOff_len];exact hi)]
 by_cases he:n=i
 ·rw[if_pos he,if_pos (by omega)];rfl
 ·rw[if_neg he,if_neg (by omega)]
  exact kidsOff_parent i hi
theorem takeF_kids (hw:WF T) (hn:n<T.nodes.length) (i:Nat) (hi:i<T.nodes.length):kidsF (takeF T n) i=if(i:Int)=parentF T n then(kidsF T i).filter (· !=(n:Int))else kidsF T i:=by
 rw[takeF,kidsF_setParent _ n _ i (by rw[kidsOff_len];exact hi)]
 exact kidsOff_kids hw hn i hi
theorem takeF_elem (i:Int):elemF (takeF T n) i=elemF T i:=by
 rw[takeF,elemF_mod _ n (setParent (-1)) (fun _=>rfl) i,kidsOff_elem]
theorem takeF_holds (i:Int):holdsF (takeF T n) i=holdsF T i:=by rw[holdsF,holdsF,takeF_elem]
theorem takeF_wf (hw:WF T) (hn:n<T.nodes.length) (h1:1≤n):WF (takeF T n):=by
 refine WFv.wf ?_
 rw[takeF_len]
 refine(hw.view.take (n:=(n:Int)) (by omega)).congr takeF_parent (takeF_kids hw hn) fun i _=>takeF_holds i
end
theorem insertF_len (T:TreeD) (a n:Int) (i:Nat):(insertF T a i n).nodes.length=T.nodes.length:=by rw[insertF,modN_len,modN_len]
theorem insertF_most (T:TreeD) (a n:Int) (i:Nat):(insertF T a i n).most=T.most:=rfl
theorem insertF_parent (T:TreeD) (a n i:Nat) (j:Nat) (hj:j<T.nodes.length):parentF (insertF T a i n) j=if(j:Int)=(n:Int)then(a:Int)else parentF T j:=by
 rw[insertF,parentF_mod _ n _ j (by rw[modN_len];exact hj)]
 by_cases he:n=j
 ·rw[if_pos he,if_pos (by omega)];rfl
 ·rw[if_neg he,if_neg (by omega)]
  exact parentF_setKids T a _ j hj
theorem insertF_kids (T:TreeD) (a n i:Nat) (j:Nat) (hj:j<T.nodes.length):kidsF (insertF T a i n) j=if(j:Int)=(a:Int)then(kidsF T j).take i++(n:Int)::(kidsF T j).drop i else kidsF T j:=by
 rw[insertF,kidsF_setParent _ n _ j (by rw[modN_len];exact hj),kidsF_mod T a _ j hj]
 by_cases he:a=j
 ·subst he
  rw[if_pos rfl,if_pos rfl];rfl
 ·rw[if_neg he,if_neg (by omega)]
theorem insertF_elem (T:TreeD) (a n i:Nat) (j:Int):elemF (insertF T a i n) j=elemF T j:=by
 rw[insertF,elemF_mod _ n (setParent a) (fun _=>rfl),elemF_mod _ a (setKids _) (fun _=>rfl)]
theorem insertF_holds (T:TreeD) (a n i:Nat) (j:Int):holdsF (insertF T a i n) j=holdsF T j:=by rw[holdsF,holdsF,insertF_elem]
theorem insertF_wf {T:TreeD} (hw:WF T) {a n i:Nat} (h1:1≤n) (hn:n<T.nodes.length) (ha:a<T.nodes.length) (hH:holdsF T a=true) (hp:parentF T n= -1) (hr: ¬Reach T n a):WF (insertF T a i n):=by
 refine WFv.wf ?_
 rw[insertF_len]
 exact(hw.view.insert (n:=(n:Int)) (a:=(a:Int)) (i:=i) (by omega) (by omega) (by omega) (by omega) hH hp (fun h=>hr (reachV.2 h))).congr
  (insertF_parent T a n i) (insertF_kids T a n i) (fun j _=>insertF_holds T a n i j)
theorem holdsF_lt {T:TreeD} (hp:0<T.nodes.length) {a:Int} (h:holdsF T a=true):0≤a∧a<T.nodes.length:=by
 simp only[holdsF,Bool.or_eq_true,beq_iff_eq,elemF,Bool.and_eq_true,isF,decide_eq_true_eq]at h
 omega
theorem isF_lt {T:TreeD} {a:Int} (h:isF T a=true):1≤a∧a<T.nodes.length:=by
 simpa[isF] using h
theorem belowF_false {T:TreeD} {n top:Int} (h:belowF T n top=false): ¬Reach T top n:=by
 simpa[belowF_dec] using h
theorem reach_take {T:TreeD} (hw:WF T) {n a:Nat} (ha:a<T.nodes.length) (h:Reach (takeF T n) n a):Reach T n a:=by
 rw[reachV]at h ⊢
 refine reachV_take ?_
 --the views agree on all that can be reached
 have key: ∀m:Int,ReachV (parentF (takeF T n)) n m→m<T.nodes.length→ReachV (fun i=>if i=(n:Int)then -1 else parentF T i) n m:=by
  intro m hm
  induction hm with
  |here=>exact fun _=> .here
  | @up m h0 _ ih =>
    intro hlt
    obtain⟨k,rfl⟩:=Int.eq_ofNat_of_zero_le (by omega:0≤m)
    have e:=takeF_parent (T:=T) (n:=n) k (by omega)
    refine .up h0 ?_
    rw[e]at ih
    refine ih ?_
    split
    ·omega
    ·exact(hw.par k (by omega)).2
 exact key a h (by omega)
theorem putF_wf {T:TreeD} (hw:WF T) {a b n:Int} (h:putOk T a b n=true):WF (putF T a b n):=by
 simp only[putOk,Bool.and_eq_true,Bool.not_eq_true']at h
 obtain⟨⟨⟨⟨h1,h2⟩,_⟩,_⟩,h5⟩:=h
 have ha:=holdsF_lt hw.pos h1
 have hn:=isF_lt h2
 obtain⟨a,rfl⟩:=Int.eq_ofNat_of_zero_le ha.1
 obtain⟨n,rfl⟩:=Int.eq_ofNat_of_zero_le (by omega:0≤n)
 have hn':n<T.nodes.length:=by omega
 refine insertF_wf (takeF_wf hw hn' (by omega)) (by omega) (by rw[takeF_len];exact hn') (by rw[takeF_len];omega) (by rw[takeF_holds];exact h1) ?_ fun hh=>belowF_false h5 (reach_take hw (by omega) hh)
 rw[takeF_parent n hn',if_pos rfl]
theorem putF_len (T:TreeD) (a b n:Int):(putF T a b n).nodes.length=T.nodes.length:=by rw[putF,insertF_len,takeF_len]
theorem putF_most (T:TreeD) (a b n:Int):(putF T a b n).most=T.most:=by rw[putF,insertF_most,takeF_most]
theorem addF_parent (T:TreeD) (d:ND) (i:Nat) (hi:i<T.nodes.length):parentF (addF T d) i=parentF T i:=by simp[addF,parentF,List.getElem?_append_left hi]
theorem addF_kids (T:TreeD) (d:ND) (i:Nat) (hi:i<T.nodes.length):kidsF (addF T d) i=kidsF T i:=by simp[addF,kidsF,List.getElem?_append_left hi]
theorem addF_elem (T:TreeD) (d:ND) (i:Nat) (hi:i<T.nodes.length):elemF (addF T d) i=elemF T i:=by
 have h1:isF (addF T d) i=isF T i:=by
  simp only[isF,addF,List.length_append,List.length_singleton]
  congr 1
  simp only[decide_eq_decide]
  omega
 rw[elemF,elemF,h1]
 simp[addF,List.getElem?_append_left hi]
theorem addF_holds (T:TreeD) (d:ND) (i:Nat) (hi:i<T.nodes.length):holdsF (addF T d) i=holdsF T i:=by rw[holdsF,holdsF,addF_elem T d i hi]
theorem addF_wf {T:TreeD} (hw:WF T) (d:ND) (hp:d.parent= -1) (hk:d.kids= []):WF (addF T d):=by
 refine WFv.wf ?_
 have:(addF T d).nodes.length=T.nodes.length+1:=by simp[addF]
 rw[this]
 exact hw.view.add (addF_parent T d) (addF_kids T d) (addF_holds T d) (by simp[addF,parentF,hp]) (by simp[addF,kidsF,hk])
theorem addText_wf {T:TreeD} (hw:WF T) (k:Nat) (s:ByteArray):WF (modN T k (addText s)):=by
 refine WFv.wf ?_
 rw[modN_len]
 exact hw.view.congr (parentF_addText T k s) (kidsF_addText T k s) fun i _=>holdsF_mod T k (addText s) (fun _=>rfl) i
theorem kids_short {T:TreeD} (hw:WF T) (i:Nat) (hi:i<T.nodes.length):(kidsF T i).length≤T.nodes.length :=
 nodup_short _ _ (hw.nodup i hi) fun k hk=>by
  have:=hw.kid i hi k hk
  omega
theorem idxF_ge: ∀(l:List Int) (x z:Int),0≤z→ -1≤idxF l x z
 | [],_,_,_=>by simp[idxF]
 |y::r,x,z,hz=>by
  unfold idxF
  split
  ·omega
  ·exact idxF_ge r x (z+1) (by omega)
theorem idxF_lt: ∀(l:List Int) (x z:Int),0≤z→idxF l x z≤z+l.length
 | [],_,_,_=>by simp only[idxF,List.length_nil];omega
 |y::r,x,z,hz=>by
  unfold idxF
  split
  ·simp only[List.length_cons];omega
  ·have:=idxF_lt r x (z+1) (by omega)
   simp only[List.length_cons]
   omega
theorem idxF_found: ∀(l:List Int) (x:Int) (z:Nat),x∈l→ ∃k:Nat,k<l.length∧idxF l x z=((z+k:Nat):Int)∧l[k]?=some x∧x∉l.take k
 | [],_,_,h=>by cases h
 |y::r,x,z,h=>by
  unfold idxF
  by_cases he:y=x
  ·rw[if_pos he]
   exact⟨0,by simp,by simp,by simp[he],by simp⟩
  ·rw[if_neg he]
   obtain⟨k,h1,h2,h3,h4⟩:=idxF_found r x (z+1) ((List.mem_cons.1 h).resolve_left fun e=>he e.symm)
   refine⟨k+1,by simpa using h1,?_,by simpa using h3,?_⟩
   ·rw[show((z:Int)+1)=((z+1:Nat):Int)from by omega,h2]
    omega
   ·simp only[List.take_succ_cons,List.mem_cons,not_or]
    exact⟨fun e=>he e.symm,h4⟩
theorem filter_take_drop (l:List Int) (x:Int) (k:Nat) (hd:l.Nodup) (hk:l[k]?=some x):l.filter (· !=x)=l.take k++l.drop (k+1):=by
 obtain⟨hlt,he⟩:=List.getElem?_eq_some_iff.1 hk
 have hsplit:l=l.take k++x::l.drop (k+1):=by
  rw[←he,List.getElem_cons_drop hlt,List.take_append_drop]
 have hd2:(l.take k++x::l.drop (k+1)).Nodup:=hsplit▸hd
 rw[List.nodup_append]at hd2
 obtain⟨_,h2,h3⟩:=hd2
 rw[List.nodup_cons]at h2
 conv=>lhs;rw[hsplit]
 rw[List.filter_append,List.filter_cons_of_neg (by simp)]
 congr 1
 ·exact List.filter_eq_self.2 fun a ha=>by simpa using h3 a ha x List.mem_cons_self
 ·exact List.filter_eq_self.2 fun a ha=>by
   have:a≠x:=fun e=>h2.1 (e▸ha)
   simpa using this
end Go.Proofs.YtgepobccoffnaaaGreatDoor
namespace Go.Proofs.YtgepobccoffnaaaGreatDoor
open Go Go.RowKit Mem
theorem wp_region_calm {P:Program} {id:Nat} {Q:Exit→Act→World→Prop} {a:Act} {w:World} {l:List Oper} (hm:P.follows .mixedOrders=true) (hB:Region.lexB .any l.toArray=true)
 (h:wpQuiet P l.toArray (fun w'=>Hid (Below w.heap.size w w')) (fun a'=> ∀w',Hid (Below w.heap.size w w')→Q .normal a' w') l a):(Code.region id l.toArray true).wp P Q a w :=
 wp_region_quiet (C:=fun w'=>Hid (Below w.heap.size w w')) hm hB (Lib.hid (Below.refl _ w).drew) (by simpa using h)
theorem calm_skip {P:Program} {ops:Array Oper} {o:Oper} {a:Act} {C:World→Prop} {K:Act→Prop} (hw:Region.wanted o (yielded ops a.tmps)=false) (h:K (a.put o.dst undef)) :
 if Region.wanted o (yielded ops a.tmps)then o.quiet P a C K else K (a.put o.dst undef):=by
 rw[if_neg (by rw[hw];decide)];exact h
theorem calm_run {P:Program} {ops:Array Oper} {o:Oper} {a:Act} {C:World→Prop} {K:Act→Prop} {v:Value} (hw:Region.wanted o (yielded ops a.tmps)=true) (h: ∀w,C w→o.quietAt P a C w v) (hk:K (a.put o.dst v)) :
 if Region.wanted o (yielded ops a.tmps)then o.quiet P a C K else K (a.put o.dst undef):=by
 rw[if_pos hw];exact⟨v,h,hk⟩
end Go.Proofs.YtgepobccoffnaaaGreatDoor
end
