/- Texts joined for a claim: TxB: plain laws and contracts. No conditions beyond those that each lemma types. -/
import Derived.Test.YtgepobccoffnaaaGreatDoorT09
import Derived.Test.YtgepobccoffnaaaGreatDoorT15
import Derived.Test.YtgepobccoffnaaaGreatDoorT43
set_option linter.unusedVariables false
set_option linter.unusedSimpArgs false
namespace Go.Proofs.YtgepobccoffnaaaGreatDoor
open Go.RowKit Mem
section
section
variable {T U:TreeD} {l m D:List Int} {W s:List UInt8} {a n x t:Int}
theorem tx_mod (T:TreeD) (n:Int) {f:ND→ND} (hf: ∀d,(f d).text=d.text) (i:Int):txL (modN T n f) i=txL T i:=by
 unfold txL modN
 simp only[List.getElem?_modify]
 cases T.nodes[i.toNat]? with
 |none=>simp
 |some d =>
  by_cases h:n.toNat=i.toNat
  ·simp[h,hf]
  ·simp[h]
theorem tx_insert (T:TreeD) (a n:Int) (i:Nat) (j:Int):txL (insertF T a i n) j=txL T j:=by
 unfold insertF
 rw[tx_mod _ _ (f:=setParent a) fun _=>rfl,tx_mod _ _ (f:=setKids _) fun _=>rfl]
theorem tx_take (T:TreeD) (n j:Int):txL (takeF T n) j=txL T j:=by
 unfold takeF
 rw[tx_mod _ _ (f:=setParent (-1)) fun _=>rfl]
 unfold kidsOff
 split
 ·rw[tx_mod _ _ (f:=setKids _) fun _=>rfl]
 ·rfl
theorem tx_put (T:TreeD) (a b n j:Int):txL (putE T a b n).1 j=txL T j:=by
 unfold putE
 split
 ·show txL (putF T a b n) j=_
  unfold putF
  rw[tx_insert,tx_take]
 ·rfl
theorem tx_add {d:ND} (j:Int) (h0:0≤j) (h:j<T.nodes.length):txL (addF T d) j=txL T j:=by
 unfold txL addF
 simp only
 rw[List.getElem?_append_left (by omega)]
theorem tx_new (T:TreeD) (d:ND):txL (addF T d) T.nodes.length=d.text.toList:=by
 unfold txL addF
 simp
theorem ki_add (T:TreeD) {d:ND} (hd:d.kids= []) (i:Int):kidsF (addF T d) i=kidsF T i:=by
 unfold kidsF addF
 simp only
 rcases Nat.lt_trichotomy i.toNat T.nodes.length with h|h|h
 ·rw[List.getElem?_append_left h]
 ·rw[h,List.getElem?_append_right (Nat.le_refl _),List.getElem?_eq_none (Nat.le_refl _)]
  simp[hd]
 ·rw[List.getElem?_append_right (by omega),List.getElem?_eq_none (by simp;omega),List.getElem?_eq_none (by omega)]
theorem ki_new (T:TreeD) {d:ND} (hd:d.kids= []):kidsF (addF T d) T.nodes.length= []:=by
 rw[ki_add T hd]
 unfold kidsF
 rw[List.getElem?_eq_none (by omega)]
 rfl
theorem not_below {S:Int→Prop} (hw:WF T) (hn:1≤n) (hS:S n) (hc: ∀d,S d→ ∀k∈kidsF T d,S k): ∀ {a:Int},a<T.nodes.length→ ¬S a→ ¬Reach T n a:=by
 intro a ha hna hr
 induction hr with
 |here=>exact hna hS
 | @up a h0 hr ih =>
   obtain⟨k,rfl⟩:=Int.eq_ofNat_of_zero_le (Int.le_of_lt h0)
   have hp:=hw.par k (by omega)
   refine ih hp.2 fun hs=> ?_
   rcases Int.lt_or_le (parentF T k) 0 with h|h
   ·have:=(reach_low (T:=T) (top:=n) (n:=parentF T k) (by omega)).1 hr
    omega
   ·exact hna (hc _ hs _ (hw.mem k (by omega) h))
theorem put_kids (hw:WF T) (hok:putOk T a 0 n=true) (j:Int) (h0:0≤j) (hj:j<T.nodes.length):kidsF (putE T a 0 n).1 j=(kidsF T j).filter (· !=n)++if j=a then [n]else []:=by
 have hok2:=hok
 simp only[putOk,Bool.and_eq_true]at hok2
 obtain⟨⟨⟨⟨ha,hn⟩, -⟩, -⟩, -⟩:=hok2
 obtain⟨a0,a1⟩:=holdsF_lt hw.pos ha
 obtain⟨n1,n2⟩:=isF_lt hn
 obtain⟨A,rfl⟩:=Int.eq_ofNat_of_zero_le a0
 obtain⟨N,rfl⟩:=Int.eq_ofNat_of_zero_le (show 0≤n by omega)
 obtain⟨J,rfl⟩:=Int.eq_ofNat_of_zero_le h0
 have hkt: ∀i:Nat,i<T.nodes.length→kidsF (takeF T N) i=(kidsF T i).filter (· !=(N:Int)):=fun i hi=>by
  rw[takeF_kids hw (by omega) i hi]
  split
  ·rfl
  ·rename_i h
   refine(List.filter_eq_self.2 fun y hy=>bne_iff_ne.2 ?_).symm
   rintro rfl
   exact h (hw.kid i hi _ hy).2.2.symm
 rw[putE,if_pos hok]
 show kidsF (putF T A 0 N) J=_
 unfold putF
 have hpl:(placeF (takeF T N) A 0).toNat=(kidsF (takeF T N) A).length:=by
  unfold placeF
  rw[if_pos rfl]
  rfl
 rw[hpl,insertF_kids _ A N _ J (by rw[takeF_len];omega),hkt J (by omega)]
 by_cases h:(J:Int)=A
 ·rw[if_pos h,if_pos h]
  have:J=A:=by omega
  subst this
  rw[hkt J (by omega),List.take_length,List.drop_length]
 ·rw[if_neg h,if_neg h,List.append_nil]
theorem put_ok (ha:holdsF T a=true) (h1:1≤n) (h2:n<T.nodes.length) (hr: ¬Reach T n a):putOk T a 0 n=true:=by
 simp only[putOk,Bool.and_eq_true,decide_eq_true_eq,bne_iff_ne,Bool.not_eq_true']
 refine⟨⟨⟨⟨ha,?_⟩,by omega⟩,?_⟩,?_⟩
 ·simp only[isF,Bool.and_eq_true,decide_eq_true_eq];omega
 ·unfold placeF;rw[if_pos rfl];omega
 ·cases hb:belowF T a n
  ·rfl
  ·exact absurd (by simpa[belowF_dec] using hb) hr
theorem ba_app (a b:ByteArray):(a++b).toList=a.toList++b.toList:=by
 simp only[ByteArray.toList_eq,ByteArray.data_append,Array.toList_append]
theorem empty_list:(⟨#[]⟩:ByteArray).toList= []:=by kernel_rfl
structure TL (W:List UInt8) (T:TreeD) (l:List Int):Prop where
 wf:WF T
 et: ∀i,elemF T i=true→txL T i= []
 ch: ∃D,Ch (kidsF T) (txL T) 0 l D W∧(0::D).Nodup
 el: ∀x∈l,elemF T x=true
 k0:kidsF T 0= [1]
 n1:nameQ T 1=(⟨#[104,116,109,108]⟩:ByteArray)
 hd: ∃r,l=1::r
theorem kid_rng (hw:WF T) {i k:Int} (h:k∈kidsF T i) (h0:0≤i):1≤k∧k<T.nodes.length:=by
 obtain⟨I,rfl⟩:=Int.eq_ofNat_of_zero_le h0
 rcases Nat.lt_or_ge I T.nodes.length with hI|hI
 ·exact⟨(hw.kid I hI k h).1,(hw.kid I hI k h).2.1⟩
 ·unfold kidsF at h
  rw[List.getElem?_eq_none (by omega)]at h
  cases h
theorem fo_rng {K:List Int} (hw:WF T) (h:Fo (kidsF T) (txL T) K D s):(∀k∈K,1≤k∧k<T.nodes.length)→ ∀d∈D,1≤d∧d<T.nodes.length:=by
 induction h with
 |nil=>intro _ d hd;cases hd
 | @cons k ks E1 E2 t1 t2 i1 i2 ih1 ih2 =>
   intro hK d hd
   rcases List.mem_cons.1 hd with rfl|hd
   ·exact hK d List.mem_cons_self
   ·rcases List.mem_append.1 hd with hd|hd
    ·exact ih1 (fun j hj=>kid_rng hw hj (by have:=hK k List.mem_cons_self;omega)) d hd
    ·exact ih2 (fun j hj=>hK j (List.mem_cons_of_mem _ hj)) d hd
theorem ch_rng (hw:WF T) (h:Ch (kidsF T) (txL T) n l D s) (hn:0≤n): ∀d∈D,1≤d∧d<T.nodes.length:=fo_rng hw h.fo fun _ hk=>kid_rng hw hk hn
theorem el_pos (h:elemF T x=true):1≤x∧x<T.nodes.length:=by
 have:isF T x=true:=by
  unfold elemF at h
  rw[Bool.and_eq_true]at h
  exact h.1
 exact isF_lt this
theorem TL.sub (h:TL W T l) (hm:m.Sublist l) (hh: ∃r,m=1::r):TL W T m:=by
 obtain⟨D,h1,h2⟩:=h.ch
 exact⟨h.wf,h.et,⟨D,h1.sub hm,h2⟩,fun x hx=>h.el x (hm.subset hx),h.k0,h.n1,hh⟩
theorem TL.two (h:TL W T l):1<T.nodes.length:=by
 obtain⟨r,hr⟩:=h.hd
 have:=el_pos (h.el 1 (by rw[hr];exact List.mem_cons_self))
 omega
theorem last_pos {l:List Int} (he: ∀x∈l,elemF T x=true) (hd: ∃r,l=1::r):1≤l.getLast?.getD 0:=by
 obtain⟨r,rfl⟩:=hd
 cases e:(1::r).getLast? with
 |none=>simp at e
 |some x=>exact(el_pos (he x (List.mem_of_getLast? e))).1
theorem TL.top (h:TL W T l):holdsF T (l.getLast?.getD 0)=true∧0≤l.getLast?.getD 0∧l.getLast?.getD 0<T.nodes.length:=by
 have:holdsF T (l.getLast?.getD 0)=true:=by
  cases e:l.getLast? with
  |none=>rfl
  |some x =>
   have:=h.el x (List.mem_of_getLast? e)
   unfold holdsF
   rw[Option.getD_some,this,Bool.or_true]
 exact⟨this,holdsF_lt h.wf.pos this⟩
theorem place_top (T:TreeD) (l:List Int):placeQ T l false 0=(l.getLast?.getD 0,0):=by
 unfold placeQ
 by_cases h:l= []
 ·subst h;rfl
 ·rw[if_neg h]
  rfl
theorem put_new (h:TL W T l) {d:ND} (hp:d.parent= -1) (hk:d.kids= []):WF (putE (addF T d) (l.getLast?.getD 0) 0 T.nodes.length).1∧(∀j:Int,0≤j→j<T.nodes.length→kidsF (putE (addF T d) (l.getLast?.getD 0) 0 T.nodes.length).1 j=kidsF T j++if j=l.getLast?.getD 0 then [(T.nodes.length:Int)]else []) ∧
 kidsF (putE (addF T d) (l.getLast?.getD 0) 0 T.nodes.length).1 T.nodes.length= []:=by
 obtain⟨t1,t2,t3⟩:=h.top
 have hw:=addF_wf h.wf d hp hk
 have hp0:=h.wf.pos
 have hlen:(addF T d).nodes.length=T.nodes.length+1:=by simp[addF]
 obtain⟨t,ht⟩:=Int.eq_ofNat_of_zero_le t2
 rw[ht]at t1 t3 ⊢
 have hok:putOk (addF T d) t 0 T.nodes.length=true:=by
  refine put_ok ?_ (by omega) (by omega) ?_
  ·rw[addF_holds T d t (by omega)];exact t1
  ·refine not_below (S:=fun y=>y=T.nodes.length) hw (by omega) rfl ?_ (by omega) (by omega)
   rintro y rfl k hk2
   rw[ki_new T hk]at hk2
   cases hk2
 have hno: ∀j:Int,0≤j→(kidsF T j).filter (· !=(T.nodes.length:Int))=kidsF T j:=fun j hj=>List.filter_eq_self.2 fun y hy=>bne_iff_ne.2 (by have:=kid_rng h.wf hy hj;omega)
 refine⟨?_,fun j h0 hj=> ?_,?_⟩
 ·rw[putE,if_pos hok]
  exact putF_wf hw hok
 ·rw[put_kids hw hok j h0 (by omega),ki_add T hk,hno j h0]
 ·rw[put_kids hw hok _ (by omega) (by omega),ki_add T hk,hno _ (by omega),if_neg (by omega),←ki_add T hk,ki_new T hk]
  rfl
theorem put_fresh (h:TL W T l) {d:ND} (hp:d.parent= -1) (hk:d.kids= []):(putE (addF T d) (l.getLast?.getD 0) 0 T.nodes.length).1=insertF (addF T d) (l.getLast?.getD 0) (kidsF T (l.getLast?.getD 0)).length T.nodes.length:=by
 obtain⟨t1,t2,t3⟩:=h.top
 have hw:=addF_wf h.wf d hp hk
 have hp0:=h.wf.pos
 have hlen:(addF T d).nodes.length=T.nodes.length+1:=by simp[addF]
 obtain⟨t,ht⟩:=Int.eq_ofNat_of_zero_le t2
 rw[ht]at t1 t3 ⊢
 have hok:putOk (addF T d) t 0 T.nodes.length=true:=by
  refine put_ok ?_ (by omega) (by omega) ?_
  ·rw[addF_holds T d t (by omega)];exact t1
  ·refine not_below (S:=fun y=>y=T.nodes.length) hw (by omega) rfl ?_ (by omega) (by omega)
   rintro y rfl k hk2
   rw[ki_new T hk]at hk2
   cases hk2
 have hlast:(addF T d).nodes[T.nodes.length]?=some d:=by simp[addF]
 have htk:takeF (addF T d) (T.nodes.length:Nat)=addF T d:=by
  have hp1:parentF (addF T d) ((T.nodes.length:Nat):Int)= -1:=by
   rw[parentF,show(((T.nodes.length:Nat):Int)).toNat=T.nodes.length from rfl,hlast];exact hp
  rw[takeF,kidsOff,hp1,if_neg (by omega)]
  refine tree_ext rfl rfl fun i=> ?_
  rw[modN_get]
  split
  ·rename_i hi
   subst hi
   rw[hlast]
   show some (setParent (-1) d)=some d
   rw[←hp];rfl
  ·rfl
 rw[putE,if_pos hok]
 show putF (addF T d) t 0 (T.nodes.length:Nat)=_
 unfold putF
 rw[htk]
 unfold placeF
 rw[if_pos rfl,ki_add T hk]
 rfl
theorem put_el (T:TreeD) (a b n x:Int):elemF (putE T a b n).1 x=elemF T x:=by
 unfold putE
 split
 ·exact putF_elem T a b n x
 ·rfl
theorem TL.new (h:TL W T l) {d:ND} (hp:d.parent= -1) (hk:d.kids= []) (ht:d.elem=true→d.text.toList= []) (push:Bool) (hpe:push=true→d.elem=true) :
 TL (W++d.text.toList) (putE (addF T d) (l.getLast?.getD 0) 0 T.nodes.length).1 (if push then l++ [(T.nodes.length:Int)]else l):=by
 obtain⟨hw,hK,hN⟩:=put_new h hp hk
 obtain⟨D,hc,hnd⟩:=h.ch
 have hr:=ch_rng h.wf hc (by omega)
 obtain⟨t1,t2,t3⟩:=h.top
 have hp0:=h.wf.pos
 have hX: ∀j,txL (putE (addF T d) (l.getLast?.getD 0) 0 T.nodes.length).1 j=txL (addF T d) j:=fun j=>tx_put _ _ _ _ j
 have hE: ∀j,elemF (putE (addF T d) (l.getLast?.getD 0) 0 T.nodes.length).1 j=elemF (addF T d) j:=fun j=>put_el _ _ _ _ j
 have h2:=h.two
 have hlp:=last_pos h.el h.hd
 have hNm:nameQ (putE (addF T d) (l.getLast?.getD 0) 0 T.nodes.length).1 1=(⟨#[104,116,109,108]⟩:ByteArray):=(((nm_put _ _ _ _).2 1 (by simp[addF];omega)).2.trans ((nm_add T d).2 1 (by omega)).2).trans h.n1
 generalize (putE (addF T d) (l.getLast?.getD 0) 0 T.nodes.length).1=U at hw hK hN hX hE hNm ⊢
 have hXo: ∀j:Int,0≤j→j<T.nodes.length→txL U j=txL T j:=fun j h0 hj=>(hX j).trans (tx_add j h0 hj)
 have hXn:txL U T.nodes.length=d.text.toList:=(hX _).trans (tx_new T d)
 have hEo: ∀j,elemF T j=true→elemF U j=true:=fun j hj=>by rw[hE];exact(addF_mor T d).2.2 j hj
 have hEn:elemF U T.nodes.length=d.elem:=by rw[hE];exact addF_new T d hp0
 have hfo: ∀D0 s0,Ch (kidsF T) (txL T) (l.getLast?.getD 0) [] D0 s0→((l.getLast?.getD 0)::D0).Nodup→(∀d∈D0,d∈D)→Fo (kidsF U) (txL U) (kidsF T (l.getLast?.getD 0)) D0 s0:=by
  intro D0 s0 h0 hn hd
  refine h0.fo.frame fun y hy=> ?_
  have:=hr y (hd y hy)
  have hne:y≠l.getLast?.getD 0:=fun e=>(List.nodup_cons.1 hn).1 (e▸hy)
  exact⟨by rw[hK y (by omega) this.2,if_neg hne,List.append_nil],hXo y (by omega) this.2⟩
 have hKt:kidsF U (l.getLast?.getD 0)=kidsF T (l.getLast?.getD 0)++ [(T.nodes.length:Int)]:=by rw[hK _ t2 t3,if_pos rfl]
 have key: ∃D',D'.Perm (D++ [(T.nodes.length:Int)])∧Ch (kidsF U) (txL U) 0 (l++(if push then [(T.nodes.length:Int)]else [])) D' (W++d.text.toList):=by
  refine Ch.edit (m:= []) (t:=l.getLast?.getD 0) hc (List.append_nil l).symm rfl hnd ?_ ?_ ?_
  ·rintro y (rfl|hy) hne
   ·rw[hK 0 (by omega) (by omega),if_neg hne,List.append_nil]
   ·have:=hr y hy
    rw[hK y (by omega) this.2,if_neg hne,List.append_nil]
  ·intro y hy _
   have:=hr y hy
   exact hXo y (by omega) this.2
  ·intro D0 s0 h0 hn hd
   have hf:=hfo D0 s0 h0 hn hd
   refine⟨D0++ [(T.nodes.length:Int)],List.Perm.refl _,?_⟩
   cases push with
   |true =>
    rw[if_pos rfl,←hXn]
    have h2:Ch (kidsF U) (txL U) (T.nodes.length:Int) [] [] []:= .top (by rw[hN];exact .nil)
    have:=Ch.next (Pa.one (B:= []) (D2:= []) hKt hf .nil) h2
    simpa using this
   |false =>
    rw[if_neg (by decide),←hXn]
    refine .top ?_
    rw[hKt]
    have h2:Fo (kidsF U) (txL U) [(T.nodes.length:Int)] [(T.nodes.length:Int)] (txL U T.nodes.length):=by
     have:=Fo.cons (K:=kidsF U) (X:=txL U) (k:=T.nodes.length) (ks:= []) (D1:= []) (s1:= []) (by rw[hN];exact .nil) .nil
     simpa using this
    exact hf.append h2
 obtain⟨D',hp',hc'⟩:=key
 refine⟨hw,fun i hi=> ?_,⟨D',?_,?_⟩,?_,?_,hNm,?_⟩
 rotate_left 4
 ·rw[hK 0 (by omega) (by omega),if_neg (by omega),List.append_nil];exact h.k0
 ·obtain⟨r,rfl⟩:=h.hd
  cases push
  ·exact⟨r,rfl⟩
  ·exact⟨_,rfl⟩
 ·rw[hE]at hi
  rcases Int.lt_or_le i T.nodes.length with h2|h2
  ·have h1:=el_pos hi
   rw[hXo i (by omega) h2]
   refine h.et i ?_
   obtain⟨I,rfl⟩:=Int.eq_ofNat_of_zero_le (show 0≤i by omega)
   rwa [addF_elem T d I (by omega)]at hi
  ·have h1:=el_pos hi
   have:i=T.nodes.length:=by simp[addF]at h1;omega
   subst this
   rw[hXn]
   rw[addF_new T d hp0]at hi
   exact ht hi
 ·cases push <;>simpa using hc'
 ·refine(List.Perm.cons 0 hp').nodup_iff.2 ?_
  rw[←List.cons_append]
  refine List.nodup_append.2 ⟨hnd,by simp,fun y hy z hz=> ?_⟩
  rw[List.mem_singleton.1 hz]
  rcases List.mem_cons.1 hy with rfl|hy
  ·omega
  ·have:=hr y hy
   omega
 ·intro y hy
  cases push with
  |false=>exact hEo y (h.el y hy)
  |true =>
   rcases List.mem_append.1 hy with hy|hy
   ·exact hEo y (h.el y hy)
   ·rw[List.mem_singleton.1 hy,hEn]
    exact hpe rfl
theorem TL.ins (h:TL W T l) (sp:Int) (nm:ByteArray) (at':List Pair):TL W (insertL T l false sp nm at').1 (insertL T l false sp nm at').2.1∧((insertL T l false sp nm at').2.2.2=0∨(insertL T l false sp nm at').2.2.2=43):=by
 by_cases hm:(T.nodes.length:Int)-1<T.most
 ·have hmk:mkF T (elemN sp nm at')=(addF T (elemN sp nm at'),(T.nodes.length:Int),0):=by unfold mkF;rw[if_pos hm]
  have e:insertL T l false sp nm at'=((putE (addF T (elemN sp nm at')) (l.getLast?.getD 0) 0 T.nodes.length).1,l++ [(T.nodes.length:Int)],(T.nodes.length:Int),0):=by
   unfold insertL
   simp only[hmk,place_top,if_true]
  rw[e]
  have e2:(elemN sp nm at').text.toList= []:=empty_list
  have:=h.new (d:=elemN sp nm at') rfl rfl (fun _=>e2) true fun _=>rfl
  rw[e2,List.append_nil,if_pos rfl]at this
  exact⟨this,.inl rfl⟩
 ·rw[insertL_no hm]
  exact⟨h,.inr rfl⟩
theorem TL.text (h:TL W T l) (x:ByteArray):((textE T (l.getLast?.getD 0) 0 x).2=0→TL (W++x.toList) (textE T (l.getLast?.getD 0) 0 x).1 l)∧((textE T (l.getLast?.getD 0) 0 x).2=0∨(textE T (l.getLast?.getD 0) 0 x).2=43):=by
 obtain⟨t1,t2,t3⟩:=h.top
 have hpl:placeF T (l.getLast?.getD 0) 0=((kidsF T (l.getLast?.getD 0)).length:Nat):=by unfold placeF;rw[if_pos rfl]
 unfold textE
 rw[t1,hpl,decide_eq_true (by omega),Bool.and_self,if_pos rfl]
 by_cases hx:x.size=0
 ·rw[if_pos hx]
  have:x.toList= []:=List.eq_nil_of_length_eq_zero (by rw[size_toList];exact hx)
  rw[this,List.append_nil]
  exact⟨fun _=>h,.inl rfl⟩
 ·rw[if_neg hx]
  unfold textAt
  rw[hpl,Int.toNat_natCast]
  by_cases hc:0<(kidsF T (l.getLast?.getD 0)).length∧elemF T (prevF T (l.getLast?.getD 0) (kidsF T (l.getLast?.getD 0)).length)=false
  ·rw[if_pos hc]
   refine⟨fun _=> ?_,.inl rfl⟩
   obtain⟨hc1,hc2⟩:=hc
   obtain⟨A,k,hA⟩: ∃A k,kidsF T (l.getLast?.getD 0)=A++ [k]:=⟨_,_,(List.dropLast_concat_getLast (List.ne_nil_of_length_pos hc1)).symm⟩
   have hk:prevF T (l.getLast?.getD 0) (kidsF T (l.getLast?.getD 0)).length=k:=by
    unfold prevF
    rw[hA]
    simp
   rw[hk]at hc2 ⊢
   obtain⟨k1,k2⟩:=kid_rng h.wf (by rw[hA];simp:k∈kidsF T (l.getLast?.getD 0)) t2
   have hkk:kidsF T k= []:=by
    obtain⟨n,rfl⟩:=Int.eq_ofNat_of_zero_le (show 0≤k by omega)
    by_cases e:kidsF T n= []
    ·exact e
    ·have:=h.wf.holds n (by omega) e
     unfold holdsF at this
     rw[hc2,Bool.or_false,beq_iff_eq]at this
     omega
   have hK: ∀j,kidsF (modN T k (addText x)) j=kidsF T j:=fun j=>by
    unfold kidsF modN
    simp only[List.getElem?_modify]
    cases T.nodes[j.toNat]? with
    |none=>simp
    |some d =>
     by_cases h:k.toNat=j.toNat
     ·simp[h,addText]
     ·simp[h]
   have hX: ∀j,0≤j→txL (modN T k (addText x)) j=if j=k then txL T k++x.toList else txL T j:=fun j hj=>by
    unfold txL modN
    simp only[List.getElem?_modify]
    by_cases e:j=k
    ·subst e
     rw[if_pos rfl,List.getElem?_eq_getElem (by omega)]
     simp[addText,ba_app]
    ·rw[if_neg e]
     have:k.toNat≠j.toNat:=by omega
     cases T.nodes[j.toNat]? <;>simp[this]
   have hE: ∀j,elemF (modN T k (addText x)) j=elemF T j:=fun j=>elemF_modZ T k (addText x) (fun _=>rfl) j
   have hw:WF (modN T k (addText x)):=by
    obtain⟨n,rfl⟩:=Int.eq_ofNat_of_zero_le (show 0≤k by omega)
    exact addText_wf h.wf n x
   have hNm:nameQ (modN T k (addText x)) 1=(⟨#[104,116,109,108]⟩:ByteArray):=((nm_mod T k (f:=addText x) (fun _=>rfl) (fun _=>rfl) (fun _=>rfl)).2 1 (by have:=h.two;omega)).2.trans h.n1
   generalize modN T k (addText x)=U at hK hX hE hw hNm ⊢
   obtain⟨D,hch,hnd⟩:=h.ch
   have hr:=ch_rng h.wf hch (by omega)
   have key: ∃D',D'.Perm (D++ [])∧Ch (kidsF U) (txL U) 0 (l++ []) D' (W++x.toList):=by
    refine Ch.edit (m:= []) (t:=l.getLast?.getD 0) hch (List.append_nil l).symm rfl hnd (fun d _ _=>hK d) ?_ ?_
    ·intro d hd hdk
     have:=hr d hd
     rw[hX d (by omega),if_neg]
     rintro rfl
     exact hdk (by rw[hA];simp)
    ·intro D0 s0 h0 hn hd
     refine⟨D0,by rw[List.append_nil],.top ?_⟩
     rw[hK,hA]
     have hf:=h0.fo
     rw[hA]at hf
     obtain⟨D1,D2,s1,s2,rfl,rfl,f1,f2⟩:=hf.split
     cases f2 with
     | @cons _ _ E1 E2 u1 u2 g1 g2 =>
       cases g2
       rw[hkk]at g1
       cases g1
       have hk1:k∉D1:=fun hx=>(List.nodup_append.1 (List.nodup_cons.1 hn).2).2.2 k hx k (by simp) rfl
       have e1:Fo (kidsF U) (txL U) A D1 s1:=f1.frame fun d hd'=>by
        have:=hr d (hd d (List.mem_append_left _ hd'))
        exact⟨hK d,by rw[hX d (by omega),if_neg];rintro rfl;exact hk1 hd'⟩
       have e2:Fo (kidsF U) (txL U) [k] [k] (txL U k):=by
        have:=Fo.cons (K:=kidsF U) (X:=txL U) (k:=k) (ks:= []) (D1:= []) (s1:= []) (by rw[hK,hkk];exact .nil) .nil
        simpa using this
       have:=e1.append e2
       rw[hX k (by omega),if_pos rfl]at this
       simpa using this
   obtain⟨D',hp,hc'⟩:=key
   rw[List.append_nil]at hp hc'
   refine⟨hw,fun i hi=> ?_,⟨D',hc',(List.Perm.cons 0 hp).nodup_iff.2 hnd⟩,fun y hy=>by rw[hE];exact h.el y hy,(hK 0).trans h.k0,hNm,h.hd⟩
   rw[hE]at hi
   have hi':=el_pos hi
   rw[hX i (by omega),if_neg]
   ·exact h.et i hi
   ·rintro rfl
    rw[hc2]at hi
    cases hi
  ·rw[if_neg hc]
   by_cases hm:(T.nodes.length:Int)-1<T.most
   ·rw[if_pos hm]
    refine⟨fun _=> ?_,.inl rfl⟩
    have:=h.new (d:=textN x) rfl rfl (fun hh=>by cases hh) false (fun hh=>by cases hh)
    rw[if_neg (by decide)]at this
    have e:(putE (addF T (textN x)) (l.getLast?.getD 0) 0 T.nodes.length).1=insertF (addF T (textN x)) (l.getLast?.getD 0) (kidsF T (l.getLast?.getD 0)).length T.nodes.length:=put_fresh h rfl rfl
    rw[e]at this
    exact this
   ·rw[if_neg hm]
    exact⟨fun hh=>absurd (show(43:Int)=0 from hh) (by decide),.inr rfl⟩
end
end
end Go.Proofs.YtgepobccoffnaaaGreatDoor
