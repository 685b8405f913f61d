/- Texts joined for a claim: TxC: plain laws and contracts. No conditions beyond those that each lemma types. -/
import Derived.Test.YtgepobccoffnaaaGreatDoorT15
import Derived.Test.YtgepobccoffnaaaGreatDoorT44
set_option linter.unusedVariables false
set_option linter.unusedSimpArgs false
namespace Go.Proofs.YtgepobccoffnaaaGreatDoor
open Go.RowKit Mem
section
section
variable {T U:TreeD} {l l1 l2 m D rest:List Int} {W s:List UInt8} {a b f n x t last:Int}
theorem fo_rng2 {K':Int→List Int} {ks:List Int} (hw:WF T) (hK: ∀j,∀k∈K' j,k∈kidsF T j) (h:Fo K' (txL T) ks D s):(∀k∈ks,1≤k∧k<T.nodes.length)→ ∀d∈D,1≤d∧d<T.nodes.length:=by
 induction h with
 |nil=>intro _ d hd;cases hd
 | @cons k ks E1 E2 t1 t2 i1 i2 ih1 ih2 =>
   intro hk d hd
   rcases List.mem_cons.1 hd with rfl|hd
   ·exact hk d List.mem_cons_self
   ·rcases List.mem_append.1 hd with hd|hd
    ·exact ih1 (fun j hj=>kid_rng hw (hK _ j hj) (by have:=hk k List.mem_cons_self;omega)) d hd
    ·exact ih2 (fun j hj=>hk j (List.mem_cons_of_mem _ hj)) d hd
theorem off_mem {K:Int→List Int} {x j k:Int} (h:k∈offK K x j):k∈K j:=(List.mem_filter.1 h).1
structure TU (W:List UInt8) (l1 rest:List Int) (T:TreeD) (last:Int):Prop where
 wf:WF T
 et: ∀i,elemF T i=true→txL T i= []
 ch: ∃D1 s1 D2 s2,Ch (offK (kidsF T) last) (txL T) 0 l1 D1 s1∧Ch (offK (kidsF T) last) (txL T) last rest D2 s2∧W=s1++(txL T last++s2)∧(0::(D1++last::D2)).Nodup
 el: ∀x∈l1++last::rest,elemF T x=true
 k0:offK (kidsF T) last 0= [1]
 n1:nameQ T 1=(⟨#[104,116,109,108]⟩:ByteArray)
 hd: ∃r,l1=1::r
theorem TL.out (h:TL W T l) (hl:l=l1++f::(m++b::l2)) (h1:l1≠ []):TU W l1 l2 T b:=by
 obtain⟨D,hc,hnd⟩:=h.ch
 have hd: ∃r,l1=1::r:=by
  obtain⟨r,hr⟩:=h.hd
  cases l1 with
  |nil=>exact absurd rfl h1
  |cons y r2=>rw[hl]at hr;exact⟨r2,by rw[(List.cons.inj hr).1]⟩
 have hb1:b≠1:=by
  have hn:=(hc.nodup hnd).1
  obtain⟨r,rfl⟩:=hd
  rw[hl,List.cons_append,List.nodup_cons]at hn
  rintro rfl
  exact hn.1 (by simp)
 obtain⟨D1,s1,D2,s2,c1,c2,hs,hp⟩:=hc.cut (l:=l1++f::m) (x:=b) (m:=l2) (by rw[hl];simp) hnd
 refine⟨h.wf,h.et,⟨D1,s1,D2,s2,c1.sub (List.sublist_append_left _ _),c2,hs,(List.Perm.cons 0 hp).nodup_iff.2 hnd⟩,fun x hx=>h.el x ?_,by unfold offK;rw[h.k0,List.filter_cons_of_pos (by rw[bne_iff_ne];exact fun e=>hb1 e.symm)];rfl,h.n1,hd⟩
 rw[hl]
 rcases List.mem_append.1 hx with hx|hx
 ·exact List.mem_append_left _ hx
 ·exact List.mem_append_right _ (List.mem_cons_of_mem _ (List.mem_append_right _ hx))
theorem TU.rng (h:TU W l1 rest T last) {D1 D2:List Int} {s1 s2:List UInt8} (h1:Ch (offK (kidsF T) last) (txL T) 0 l1 D1 s1) (h2:Ch (offK (kidsF T) last) (txL T) last rest D2 s2):(1≤last∧last<T.nodes.length)∧(∀d∈D1,1≤d∧d<T.nodes.length)∧ ∀d∈D2,1≤d∧d<T.nodes.length:=by
 have hl:=el_pos (h.el last (by simp))
 exact⟨hl,fo_rng2 h.wf (fun _ _ hk=>off_mem hk) h1.fo fun k hk=>kid_rng h.wf (off_mem hk) (by omega),fo_rng2 h.wf (fun _ _ hk=>off_mem hk) h2.fo fun k hk=>kid_rng h.wf (off_mem hk) (by omega)⟩
theorem TU.wrap (h:TU W l1 rest T last) {d:ND} (hp:d.parent= -1) (hk:d.kids= []) (he:d.elem=true) (ht:d.text.toList= []):TU W l1 (last::rest) (putE (addF T d) T.nodes.length 0 last).1 T.nodes.length:=by
 obtain⟨D1,s1,D2,s2,c1,c2,hs,hnd⟩:=h.ch
 obtain⟨⟨r1,r2⟩,r3,r4⟩:=h.rng c1 c2
 have hp0:=h.wf.pos
 have hw:=addF_wf h.wf d hp hk
 have hlen:(addF T d).nodes.length=T.nodes.length+1:=by simp[addF]
 have hEn:elemF (addF T d) T.nodes.length=true:=(addF_new T d hp0).trans he
 have hok:putOk (addF T d) T.nodes.length 0 last=true:=by
  refine put_ok (by unfold holdsF;rw[hEn,Bool.or_true]) r1 (by omega) ?_
  refine not_below (S:=fun y=>y=last∨y∈D2) hw r1 (.inl rfl) ?_ (by omega) ?_
  ·intro y hy k hk2
   rw[ki_add T hk]at hk2
   by_cases e:k=last
   ·exact .inl e
   ·exact .inr (c2.closed y hy k (List.mem_filter.2 ⟨hk2,bne_iff_ne.2 e⟩))
  ·rintro(e|e)
   ·omega
   ·have:=r4 _ e
    omega
 have hK: ∀j:Int,0≤j→j<T.nodes.length→kidsF (putE (addF T d) T.nodes.length 0 last).1 j=offK (kidsF T) last j:=fun j h0 hj=>by
  rw[put_kids hw hok j h0 (by omega),ki_add T hk,if_neg (by omega),List.append_nil]
  rfl
 have hKn:kidsF (putE (addF T d) T.nodes.length 0 last).1 T.nodes.length= [last]:=by
  rw[put_kids hw hok _ (by omega) (by omega),ki_new T hk,if_pos rfl]
  rfl
 have hX: ∀j,txL (putE (addF T d) T.nodes.length 0 last).1 j=txL (addF T d) j:=fun j=>tx_put _ _ _ _ j
 have hE: ∀j,elemF (putE (addF T d) T.nodes.length 0 last).1 j=elemF (addF T d) j:=fun j=>put_el _ _ _ _ j
 have hwU:WF (putE (addF T d) T.nodes.length 0 last).1:=by rw[putE,if_pos hok];exact putF_wf hw hok
 have h2:1<T.nodes.length:=by
  obtain⟨r,hr⟩:=h.hd
  have:=el_pos (h.el 1 (by rw[hr];simp))
  omega
 have hNm:nameQ (putE (addF T d) T.nodes.length 0 last).1 1=(⟨#[104,116,109,108]⟩:ByteArray):=(((nm_put _ _ _ _).2 1 (by simp[addF];omega)).2.trans ((nm_add T d).2 1 (by omega)).2).trans h.n1
 generalize (putE (addF T d) T.nodes.length 0 last).1=U at hK hKn hX hE hwU hNm ⊢
 have hXo: ∀j:Int,0≤j→j<T.nodes.length→txL U j=txL T j:=fun j h0 hj=>(hX j).trans (tx_add j h0 hj)
 have hXn:txL U T.nodes.length= []:=(hX _).trans ((tx_new T d).trans ht)
 have hKo: ∀j:Int,0≤j→j<T.nodes.length→offK (kidsF U) T.nodes.length j=offK (kidsF T) last j:=fun j h0 hj=>by
  show(kidsF U j).filter _=_
  rw[hK j h0 hj]
  refine List.filter_eq_self.2 fun y hy=>bne_iff_ne.2 ?_
  have:=kid_rng h.wf (off_mem hy) h0
  omega
 have hnd0:=hnd
 rw[List.nodup_cons,List.nodup_append]at hnd0
 obtain⟨g1,g2,g3,g4⟩:=hnd0
 refine⟨hwU,fun i hi=> ?_,⟨D1,s1,last::D2,txL T last++s2,?_,?_,?_,?_⟩,?_,(hKo 0 (by omega) (by omega)).trans h.k0,hNm,h.hd⟩
 ·rw[hE]at hi
  have h1:=el_pos hi
  rcases Int.lt_or_le i T.nodes.length with h2|h2
  ·rw[hXo i (by omega) h2]
   refine h.et i ?_
   obtain⟨I,rfl⟩:=Int.eq_ofNat_of_zero_le (show 0≤i by omega)
   rwa [addF_elem T d I (by omega)]at hi
  ·have:i=T.nodes.length:=by omega
   rw[this];exact hXn
 ·refine c1.frame (List.nodup_cons.2 ⟨fun hx=>g1 (List.mem_append_left _ hx),g2⟩) (fun y hy=> ?_) fun y hy=> ?_
  ·rcases hy with rfl|hy
   ·exact hKo 0 (by omega) (by omega)
   ·have:=r3 y hy
    exact hKo y (by omega) this.2
  ·have:=r3 y hy
   exact hXo y (by omega) this.2
 ·have hk1:offK (kidsF U) T.nodes.length T.nodes.length= []++last:: []:=by
   unfold offK
   rw[hKn]
   exact List.filter_eq_self.2 fun y hy=>bne_iff_ne.2 (by rw[List.mem_singleton.1 hy];omega)
  have h2:Ch (offK (kidsF U) T.nodes.length) (txL U) last rest D2 s2:=by
   refine c2.frame g3 (fun y hy=> ?_) fun y hy=> ?_
   ·rcases hy with rfl|hy
    ·exact hKo _ (by omega) r2
    ·have:=r4 y hy
     exact hKo y (by omega) this.2
   ·have:=r4 y hy
    exact hXo y (by omega) this.2
  have:=Ch.next (Pa.one (X:=txL U) hk1 .nil .nil) h2
  rw[hXo last (by omega) r2]at this
  simpa using this
 ·rw[hXn,List.nil_append];exact hs
 ·have hp:(0::(D1++(T.nodes.length:Int)::last::D2)).Perm ((T.nodes.length:Int)::(0::(D1++last::D2))):=by
   rw[←List.cons_append,←List.cons_append]
   exact List.perm_middle
  refine hp.nodup_iff.2 (List.nodup_cons.2 ⟨fun hx=> ?_,hnd⟩)
  rcases List.mem_cons.1 hx with hx|hx
  ·omega
  ·rcases List.mem_append.1 hx with hx|hx
   ·have:=r3 _ hx;omega
   ·rcases List.mem_cons.1 hx with hx|hx
    ·omega
    ·have:=r4 _ hx;omega
 ·intro y hy
  rw[hE]
  rcases List.mem_append.1 hy with hy|hy
  ·exact(addF_mor T d).2.2 y (h.el y (List.mem_append_left _ hy))
  ·rcases List.mem_cons.1 hy with rfl|hy
   ·exact hEn
   ·exact(addF_mor T d).2.2 y (h.el y (List.mem_append_right _ hy))
theorem TU.back (h:TU W l1 rest T last) (hA:l1.getLast?.getD 0=a):TL W (putE T a 0 last).1 (l1++last::rest):=by
 obtain⟨D1,s1,D2,s2,c1,c2,hs,hnd⟩:=h.ch
 obtain⟨⟨r1,r2⟩,r3,r4⟩:=h.rng c1 c2
 have hp0:=h.wf.pos
 have hnd0:=hnd
 rw[List.nodup_cons,List.nodup_append]at hnd0
 obtain⟨g1,g2,g3,g4⟩:=hnd0
 have ha:a=0∨a∈D1:=by have:=c1.topin;rwa [hA]at this
 have ha0:0≤a∧a<T.nodes.length:=by
  rcases ha with rfl|ha
  ·omega
  ·have:=r3 a ha;omega
 have hHa:holdsF T a=true:=by
  rw[←hA]
  cases e:l1.getLast? with
  |none=>rfl
  |some x =>
   have:=h.el x (List.mem_append_left _ (List.mem_of_getLast? e))
   unfold holdsF
   rw[Option.getD_some,this,Bool.or_true]
 have hok:putOk T a 0 last=true:=by
  refine put_ok hHa r1 r2 ?_
  refine not_below (S:=fun y=>y=last∨y∈D2) h.wf r1 (.inl rfl) ?_ ha0.2 ?_
  ·intro y hy k hk2
   by_cases e:k=last
   ·exact .inl e
   ·exact .inr (c2.closed y hy k (List.mem_filter.2 ⟨hk2,bne_iff_ne.2 e⟩))
  ·intro hx
   have hx':a∈last::D2:=by
    rcases hx with e|e
    ·rw[e];exact List.mem_cons_self
    ·exact List.mem_cons_of_mem _ e
   rcases ha with rfl|ha
   ·exact g1 (List.mem_append_right _ hx')
   ·exact g4 a ha a hx' rfl
 have hK: ∀j:Int,0≤j→j<T.nodes.length→kidsF (putE T a 0 last).1 j=offK (kidsF T) last j++if j=a then [last]else []:=fun j h0 hj=>put_kids h.wf hok j h0 hj
 have hX: ∀j,txL (putE T a 0 last).1 j=txL T j:=fun j=>tx_put _ _ _ _ j
 have hE: ∀j,elemF (putE T a 0 last).1 j=elemF T j:=fun j=>put_el _ _ _ _ j
 have hwU:WF (putE T a 0 last).1:=by rw[putE,if_pos hok];exact putF_wf h.wf hok
 have h2:1<T.nodes.length:=by
  obtain⟨r,hr⟩:=h.hd
  have:=el_pos (h.el 1 (by rw[hr];simp))
  omega
 have ha1:1≤a:=by rw[←hA];exact last_pos (fun x hx=>h.el x (List.mem_append_left _ hx)) h.hd
 have hNm:nameQ (putE T a 0 last).1 1=(⟨#[104,116,109,108]⟩:ByteArray):=((nm_put _ _ _ _).2 1 (by omega)).2.trans h.n1
 generalize (putE T a 0 last).1=U at hK hX hE hwU hNm ⊢
 have key: ∃D',D'.Perm (D1++(last::D2))∧Ch (kidsF U) (txL U) 0 (l1++last::rest) D' (s1++(txL T last++s2)):=by
  refine Ch.edit (m:= []) (t:=a) c1 (List.append_nil l1).symm hA (List.nodup_cons.2 ⟨fun hx=>g1 (List.mem_append_left _ hx),g2⟩) ?_ (fun y _ _=>hX y) ?_
  ·rintro y hy hne
   have:0≤y∧y<T.nodes.length:=by
    rcases hy with rfl|hy
    ·omega
    ·have:=r3 y hy;omega
   rw[hK y this.1 this.2,if_neg hne,List.append_nil]
  ·intro D0 s0 h0 hn hd
   refine⟨D0++(last::D2),List.Perm.refl _,?_⟩
   have hf:Fo (kidsF U) (txL U) (offK (kidsF T) last a) D0 s0:=h0.fo.frame fun y hy=>by
    have:=r3 y (hd y hy)
    have hne:y≠a:=fun e=>(List.nodup_cons.1 hn).1 (e▸hy)
    exact⟨by rw[hK y (by omega) this.2,if_neg hne,List.append_nil],hX y⟩
   have h2:Ch (kidsF U) (txL U) last rest D2 s2:=by
    refine c2.frame g3 (fun y hy=> ?_) fun y hy=>hX y
    have hy':y∈last::D2:=by
     rcases hy with e|e
     ·rw[e];exact List.mem_cons_self
     ·exact List.mem_cons_of_mem _ e
    have hne:y≠a:=by
     rintro rfl
     rcases ha with rfl|ha
     ·exact g1 (List.mem_append_right _ hy')
     ·exact g4 y ha y hy' rfl
    have:0≤y∧y<T.nodes.length:=by
     rcases hy with rfl|hy
     ·omega
     ·have:=r4 y hy;omega
    rw[hK y this.1 this.2,if_neg hne,List.append_nil]
   have hka:kidsF U a=offK (kidsF T) last a++last:: []:=by rw[hK a ha0.1 ha0.2,if_pos rfl]
   have:=Ch.next (Pa.one hka hf .nil) h2
   rw[hX last]at this
   simpa using this
 obtain⟨D',hp',hc'⟩:=key
 exact⟨hwU,fun i hi=>by rw[hX];exact h.et i (by rw[←hE];exact hi),⟨D',by rw[hs];exact hc',(List.Perm.cons 0 hp').nodup_iff.2 hnd⟩,fun y hy=>by rw[hE];exact h.el y hy,by rw[hK 0 (by omega) (by omega),if_neg (by omega),List.append_nil];exact h.k0,hNm,by obtain⟨r,rfl⟩:=h.hd;exact⟨_,rfl⟩⟩
theorem rf_at {A B:List Int} (h:x∉B):rfind (A++x::B) x=A.length:=by
 rw[rfind_append,rfind_cons]
 have: ¬0≤rfind B x:=by have:=mem_none.1 h;omega
 rw[if_neg this,if_pos rfl,if_pos (Int.le_refl _),Int.add_zero]
theorem rm_at {A B:List Int} (h:x∉B):rmF (A++x::B) x=A++B:=by
 unfold rmF dropF
 rw[rf_at h,if_pos (by omega),Int.toNat_natCast,List.eraseIdx_append_of_length_le (Nat.le_refl _),Nat.sub_self]
 rfl
theorem swap_at {A B:List Int} (h:x∉B) (y:Int):swapF (A++x::B) x y=A++y::B:=by
 unfold swapF
 rw[rf_at h,if_pos (by omega),Int.toNat_natCast,List.set_append_right _ _ (Nat.le_refl _),Nat.sub_self]
 rfl
theorem ins_at {A B:List Int} (h:x∉B) (y:Int):insF (A++x::B) x y=A++x::y::B:=by
 unfold insF
 rw[rf_at h,if_pos (by omega),Int.toNat_natCast]
 unfold insAt
 have e:A++x::B=(A++ [x])++B:=by simp
 have e2:A.length+1=(A++ [x]).length:=by simp
 rw[e,e2,List.take_left,List.drop_left]
 simp
theorem like_yes (hx:elemF T x=true):((likeF T x).2.2=0∧ ∃d:ND,likeF T x=(addF T d,(T.nodes.length:Int),0)∧d.parent= -1∧d.kids= []∧d.elem=true∧d.text.toList= [])∨(likeF T x).2.2=43:=by
 unfold likeF
 rw[if_pos hx]
 unfold mkF
 by_cases h:(T.nodes.length:Int)-1<T.most
 ·rw[if_pos h]
  exact .inl ⟨rfl,_,rfl,rfl,rfl,rfl,empty_list⟩
 ·rw[if_neg h]
  exact .inr rfl
theorem turnR_tl (W:List UInt8) (l1:List Int) (f b:Int) (l2:List Int): ∀(r:List Int) (c:Nat) (S:TS) (rest:List Int),TU W l1 rest S.T S.last→S.l=l1++f::(r.reverse++S.last::rest)→S.l.Nodup→(∀x∈f::r,elemF S.T x=true)→(∃q,S.last::rest=q++b::l2) →
 ((turnR b r c S).2=0→ ∃rest',TU W l1 rest' (turnR b r c S).1.T (turnR b r c S).1.last∧(turnR b r c S).1.l=l1++f::(turnR b r c S).1.last::rest'∧(turnR b r c S).1.l.Nodup∧elemF (turnR b r c S).1.T f=true∧ ∃q,(turnR b r c S).1.last::rest'=q++b::l2)∧((turnR b r c S).2=0∨(turnR b r c S).2=43)
 | [],c,S,rest,h,hl,hn,he,hq=>⟨fun _=>⟨rest,h,by show S.l=l1++f::S.last::rest;simpa using hl,hn,he f List.mem_cons_self,hq⟩,.inl rfl⟩
 |x::r,c,S,rest,h,hl,hn,he,hq=>by
  have hl2:S.l=(l1++f::r.reverse)++x::(S.last::rest):=by rw[hl];simp
  have hx:x∉S.last::rest:=by
   rw[hl2,List.nodup_append]at hn
   exact(List.nodup_cons.1 hn.2.1).1
  have hrm:rmF S.l x=l1++f::(r.reverse++S.last::rest):=by rw[hl2,rm_at hx];simp
  have hnr:(rmF S.l x).Nodup:=hn.sublist (rmF_sub _ _)
  have her: ∀y∈f::r,elemF S.T y=true:=fun y hy=>he y (by
   rcases List.mem_cons.1 hy with rfl|hy
   ·exact List.mem_cons_self
   ·exact List.mem_cons_of_mem _ (List.mem_cons_of_mem _ hy))
  rw[turnR]
  split
  ·split
   ·exact turnR_tl W l1 f b l2 r (c+1) _ rest h hrm hnr her hq
   ·rcases like_yes (he x (by simp))with⟨h0,d,e,d1,d2,d3,d4⟩|h43
    ·rw[if_pos h0,e]
     have hp0:=h.wf.pos
     have hfr: ∀y∈S.l,elemF S.T y=true:=by
      intro y hy
      rw[hl]at hy
      rcases List.mem_append.1 hy with hy|hy
      ·exact h.el y (List.mem_append_left _ hy)
      ·rcases List.mem_cons.1 hy with rfl|hy
       ·exact he y List.mem_cons_self
       ·rcases List.mem_append.1 hy with hy|hy
        ·exact he y (List.mem_cons_of_mem _ (List.mem_reverse.1 hy))
        ·exact h.el y (List.mem_append_right _ hy)
     have hsw:swapF S.l x (S.T.nodes.length:Int)=l1++f::(r.reverse++(S.T.nodes.length:Int)::(S.last::rest)):=by rw[hl2,swap_at hx];simp
     obtain⟨q,hq⟩:=hq
     refine turnR_tl W l1 f b l2 r (c+1) _ (S.last::rest) (h.wrap d1 d2 d3 d4) hsw ?_ ?_ ⟨(S.T.nodes.length:Int)::q,by rw[hq];rfl⟩
     ·show(swapF S.l x (S.T.nodes.length:Int)).Nodup
      have hno:(S.T.nodes.length:Int)∉S.l:=fun hx=>by have:=el_pos (hfr _ hx);omega
      have e1:(swapF S.l x (S.T.nodes.length:Int)).Perm ((S.T.nodes.length:Int)::rmF S.l x):=by
       have e2:l1++f::(r.reverse++S.last::rest)=(l1++f::r.reverse)++S.last::rest:=by simp
       have e3:l1++f::(r.reverse++(S.T.nodes.length:Int)::S.last::rest)=(l1++f::r.reverse)++(S.T.nodes.length:Int)::S.last::rest:=by simp
       rw[hsw,hrm,e2,e3]
       exact List.perm_middle
      refine e1.nodup_iff.2 (List.nodup_cons.2 ⟨fun hx=>hno ((rmF_sub _ _).subset hx),hnr⟩)
     ·intro y hy
      show elemF (putE (addF S.T d) S.T.nodes.length 0 S.last).1 y=true
      rw[put_el]
      exact(addF_mor S.T d).2.2 y (her y hy)
    ·rw[if_neg (by rw[h43];decide)]
     exact⟨fun hh=>absurd (show(likeF S.T x).2.2=0 from hh) (by rw[h43];decide),.inr h43⟩
  ·exact turnR_tl W l1 f b l2 r (c+1) _ rest h hrm hnr her hq
theorem mv_tx (T:TreeD) (a b:Int) (P R:List Int) (i:Int):txL (MV T a b P R) i=txL T i:=by
 unfold txL
 rw[MV_get]
 cases T.nodes[i.toNat]? <;>rfl
theorem TL.under (h:TL W T (l1++b::l2)) {d:ND} (hp:d.parent= -1) (hk:d.kids= []) (he:d.elem=true) (ht:d.text.toList= []):TL W (putE (moveE (addF T d) b T.nodes.length).1 b 0 T.nodes.length).1 (l1++b::(T.nodes.length:Int)::l2):=by
 obtain⟨D,hc,hnd⟩:=h.ch
 have hr:=ch_rng h.wf hc (by omega)
 obtain⟨D0,s0,c0,n0,m0,hbD⟩:=hc.at (l:=l1) (x:=b) (m:=l2) rfl hnd
 have hp0:=h.wf.pos
 have hbe:=h.el b (by simp)
 obtain⟨b1,b2⟩:=el_pos hbe
 have hw:=addF_wf h.wf d hp hk
 have hlen:(addF T d).nodes.length=T.nodes.length+1:=by simp[addF]
 have hEn:elemF (addF T d) T.nodes.length=true:=(addF_new T d hp0).trans he
 have hEb:elemF (addF T d) b=true:=(addF_mor T d).2.2 b hbe
 have hlast:(addF T d).nodes[T.nodes.length]?=some d:=by simp[addF]
 have hpn:parentF (addF T d) (T.nodes.length:Int)= -1:=by
  rw[parentF,Int.toNat_natCast,hlast];exact hp
 have hbf:belowF (addF T d) T.nodes.length b=false:=by
  have hnr: ¬Reach (addF T d) b T.nodes.length:=fun hr=>by
   have h1:=(reach_up (T:=addF T d) (top:=b) (n:=T.nodes.length) (by omega) (by omega)).1 hr
   rw[hpn]at h1
   have:=(reach_low (T:=addF T d) (top:=b) (n:= -1) (by omega)).1 h1
   omega
  simp[belowF_dec,hnr]
 obtain⟨B,rfl⟩:=Int.eq_ofNat_of_zero_le (show 0≤b by omega)
 have hmv:(moveE (addF T d) B T.nodes.length).1=MV (addF T d) B T.nodes.length (kidsF (addF T d) B) []:=by
  unfold moveE
  rw[hbf]
  unfold holdsF
  rw[hEb,hEn]
  simp only[Bool.or_true,Bool.not_false,Bool.and_self,if_true]
  exact move_once hw (by omega) (by omega) (by unfold holdsF;rw[hEn,Bool.or_true]) hbf
 have hwM:=(moveE_wf hw B T.nodes.length).1
 rw[hmv]at hwM ⊢
 rw[ki_add T hk]at hwM ⊢
 have hKM: ∀j:Int,0≤j→j<T.nodes.length+1→kidsF (MV (addF T d) B T.nodes.length (kidsF T B) []) j=if j=T.nodes.length then kidsF T B else if j=B then []else kidsF T j:=fun j h0 hj=>by
  obtain⟨J,rfl⟩:=Int.eq_ofNat_of_zero_le h0
  rw[MV_kids J (by omega)]
  by_cases e:(J:Int)=T.nodes.length
  ·rw[if_pos e,if_pos e,ki_new T hk,List.nil_append]
  ·rw[if_neg e,if_neg e,ki_add T hk]
 have hXM: ∀j,txL (MV (addF T d) B T.nodes.length (kidsF T B) []) j=txL (addF T d) j:=fun j=>mv_tx _ _ _ _ _ j
 have hEM: ∀j,elemF (MV (addF T d) B T.nodes.length (kidsF T B) []) j=elemF (addF T d) j:=fun j=>MV_elem _ _ _ _ _ j
 have hLM:(MV (addF T d) B T.nodes.length (kidsF T B) []).nodes.length=T.nodes.length+1:=(MV_len _ _ _ _ _).trans hlen
 have hNM:nameQ (MV (addF T d) B T.nodes.length (kidsF T B) []) 1=(⟨#[104,116,109,108]⟩:ByteArray):=by
  have h3:=(nm_moveE (addF T d) B T.nodes.length).2 1 (by have:=h.two;rw[hlen];omega)
  rw[hmv,ki_add T hk]at h3
  exact(h3.2.trans ((nm_add T d).2 1 (by have:=h.two;omega)).2).trans h.n1
 generalize MV (addF T d) B T.nodes.length (kidsF T B) []=M at hwM hKM hXM hEM hLM hNM ⊢
 have hkD: ∀k∈kidsF T B,k∈D0:=fun k hk2=>c0.closed B (.inl rfl) k hk2
 have hbD0:(B:Int)∉D0:=(List.nodup_cons.1 n0).1
 have hr0: ∀d∈D0,1≤d∧d<T.nodes.length:=fun d hd=>hr d (m0 d hd)
 have hok:putOk M B 0 T.nodes.length=true:=by
  refine put_ok (by unfold holdsF;rw[hEM,hEb,Bool.or_true]) (by omega) (by omega) ?_
  refine not_below (S:=fun y=>y=T.nodes.length∨y∈D0) hwM (by omega) (.inl rfl) ?_ (by omega) ?_
  ·intro y hy k hk2
   rcases hy with rfl|hy
   ·rw[hKM _ (by omega) (by omega),if_pos rfl]at hk2
    exact .inr (hkD k hk2)
   ·have:=hr0 y hy
    rw[hKM y (by omega) (by omega),if_neg (by omega)]at hk2
    split at hk2
    ·cases hk2
    ·exact .inr (c0.closed y (.inr hy) k hk2)
  ·rintro(e|e)
   ·omega
   ·exact hbD0 e
 have hno: ∀j:Int,0≤j→(kidsF T j).filter (· !=(T.nodes.length:Int))=kidsF T j:=fun j hj=>List.filter_eq_self.2 fun y hy=>bne_iff_ne.2 (by have:=kid_rng h.wf hy hj;omega)
 have hK: ∀j:Int,0≤j→j<T.nodes.length→j≠B→kidsF (putE M B 0 T.nodes.length).1 j=kidsF T j:=fun j h0 hj hne=>by
  rw[put_kids hwM hok j h0 (by omega),hKM j h0 (by omega),if_neg (by omega),if_neg hne,if_neg hne,hno j h0,List.append_nil]
 have hKB:kidsF (putE M B 0 T.nodes.length).1 B= [(T.nodes.length:Int)]:=by
  rw[put_kids hwM hok B (by omega) (by omega),hKM B (by omega) (by omega),if_neg (by omega),if_pos rfl,if_pos rfl]
  rfl
 have hKn:kidsF (putE M B 0 T.nodes.length).1 T.nodes.length=kidsF T B:=by
  rw[put_kids hwM hok _ (by omega) (by omega),hKM _ (by omega) (by omega),if_pos rfl,if_neg (by omega),hno B (by omega),List.append_nil]
 have hX: ∀j,txL (putE M B 0 T.nodes.length).1 j=txL (addF T d) j:=fun j=>(tx_put _ _ _ _ j).trans (hXM j)
 have hE: ∀j,elemF (putE M B 0 T.nodes.length).1 j=elemF (addF T d) j:=fun j=>(put_el _ _ _ _ j).trans (hEM j)
 have hwU:WF (putE M B 0 T.nodes.length).1:=by rw[putE,if_pos hok];exact putF_wf hwM hok
 have hNm:nameQ (putE M B 0 T.nodes.length).1 1=(⟨#[104,116,109,108]⟩:ByteArray):=((nm_put _ _ _ _).2 1 (by have:=h.two;omega)).2.trans hNM
 generalize (putE M B 0 T.nodes.length).1=U at hK hKB hKn hX hE hwU hNm ⊢
 have hXo: ∀j:Int,0≤j→j<T.nodes.length→txL U j=txL T j:=fun j h0 hj=>(hX j).trans (tx_add j h0 hj)
 have hXn:txL U T.nodes.length= []:=(hX _).trans ((tx_new T d).trans ht)
 have key: ∃D',D'.Perm (D++ [(T.nodes.length:Int)])∧Ch (kidsF U) (txL U) 0 ((l1++ [(B:Int)])++((T.nodes.length:Int)::l2)) D' (W++ []):=by
  refine Ch.edit (m:=l2) (t:=B) hc (by simp) (by simp) hnd ?_ ?_ ?_
  ·rintro y hy hne
   have:0≤y∧y<T.nodes.length:=by
    rcases hy with rfl|hy
    ·omega
    ·have:=hr y hy;omega
   exact hK y this.1 this.2 hne
  ·intro y hy _
   have:=hr y hy
   exact hXo y (by omega) this.2
  ·intro E0 u0 e0 en ed
   have hb0:(B:Int)∉E0:=(List.nodup_cons.1 en).1
   refine⟨(T.nodes.length:Int)::E0,List.perm_append_comm (l₁:= [(T.nodes.length:Int)]) (l₂:=E0),?_⟩
   have h2:Ch (kidsF U) (txL U) (T.nodes.length:Int) l2 E0 u0:=by
    refine e0.root en hKn (fun y hy=> ?_) fun y hy=> ?_
    ·have:=hr y (ed y hy)
     exact hK y (by omega) this.2 fun e=>hb0 (e▸hy)
    ·have:=hr y (ed y hy)
     exact hXo y (by omega) this.2
   have:=Ch.next (Pa.one (X:=txL U) (show kidsF U B= []++(T.nodes.length:Int):: []from hKB) .nil .nil) h2
   rw[hXn]at this
   simpa using this
 obtain⟨D',hp',hc'⟩:=key
 rw[List.append_nil]at hc'
 refine⟨hwU,fun i hi=> ?_,⟨D',by simpa using hc',?_⟩,fun y hy=> ?_,(hK 0 (by omega) (by omega) (by omega)).trans h.k0,hNm,?_⟩
 rotate_left 3
 ·obtain⟨r,hr⟩:=h.hd
  cases l1 with
  |nil=>exact⟨_,by rw[(List.cons.inj hr).1];rfl⟩
  |cons y r2=>exact⟨_,by rw[(List.cons.inj hr).1];rfl⟩
 ·rw[hE]at hi
  have h1:=el_pos hi
  rcases Int.lt_or_le i T.nodes.length with h2|h2
  ·rw[hXo i (by omega) h2]
   refine h.et i ?_
   obtain⟨I,rfl⟩:=Int.eq_ofNat_of_zero_le (show 0≤i by omega)
   rwa [addF_elem T d I (by omega)]at hi
  ·have:i=T.nodes.length:=by omega
   rw[this];exact hXn
 ·refine(List.Perm.cons 0 hp').nodup_iff.2 ?_
  rw[←List.cons_append]
  refine List.nodup_append.2 ⟨hnd,by simp,fun y hy z hz=> ?_⟩
  rw[List.mem_singleton.1 hz]
  rcases List.mem_cons.1 hy with rfl|hy
  ·omega
  ·have:=hr y hy
   omega
 ·rw[hE]
  rcases List.mem_append.1 hy with hy|hy
  ·exact(addF_mor T d).2.2 y (h.el y (List.mem_append_left _ hy))
  ·rcases List.mem_cons.1 hy with rfl|hy
   ·exact hEb
   ·rcases List.mem_cons.1 hy with rfl|hy
    ·exact hEn
    ·exact(addF_mor T d).2.2 y (h.el y (List.mem_append_right _ (List.mem_cons_of_mem _ hy)))
theorem TL.nodup (h:TL W T l):l.Nodup:=by
 obtain⟨D,hc,hnd⟩:=h.ch
 exact(hc.nodup hnd).1
theorem between_at {A B:List Int} {f b:Int} (hn:(l1++f::(A++b::B)).Nodup):betweenF (l1++f::(A++b::B)) f b=A∧underF (l1++f::(A++b::B)) f=l1.getLast?.getD 0:=by
 have hn0:=hn
 rw[List.nodup_append]at hn0
 obtain⟨n1,n2,n3⟩:=hn0
 have hf:f∉A++b::B:=(List.nodup_cons.1 n2).1
 have hb:b∉B:=(List.nodup_cons.1 (List.nodup_append.1 (List.nodup_cons.1 n2).2).2.1).1
 have e1:rfind (l1++f::(A++b::B)) f=l1.length:=rf_at hf
 have e2:rfind (l1++f::(A++b::B)) b=(l1++f::A).length:=by
  rw[show l1++f::(A++b::B)=(l1++f::A)++b::B by simp]
  exact rf_at hb
 unfold betweenF underF
 rw[e1,e2,Int.toNat_natCast,Int.toNat_natCast]
 refine⟨?_,?_⟩
 ·rw[show l1++f::(A++b::B)=(l1++f::A)++b::B by simp,List.take_left,show l1++f::A=(l1++ [f])++A by simp,show l1.length+1=(l1++ [f]).length by simp,List.drop_left]
 ·cases h:l1 with
  |nil=>rfl
  |cons y r =>
   rw[if_pos (by simp),←h]
   rw[List.getD_eq_getElem?_getD,List.getElem?_append_left (by rw[h];simp),List.getLast?_eq_getElem?]
theorem TL.turn (h:TL W T (l1++f::(m++b::l2))) (h1:l1≠ []) (ent:List Int):((turnL T (l1++f::(m++b::l2)) ent false f b).2.2.2=0→TL W (turnL T (l1++f::(m++b::l2)) ent false f b).1 (turnL T (l1++f::(m++b::l2)) ent false f b).2.1)∧((turnL T (l1++f::(m++b::l2)) ent false f b).2.2.2=0∨(turnL T (l1++f::(m++b::l2)) ent false f b).2.2.2=43):=by
 have hn:=h.nodup
 obtain⟨e1,e2⟩:=between_at hn
 unfold turnL
 simp only
 rw[e1,e2]
 obtain⟨k1,k2⟩:=turnR_tl W l1 f b l2 m.reverse 1 ⟨T,l1++f::(m++b::l2),ent,rfind ent f,b⟩ l2 (h.out rfl h1) (by simp) hn (fun x hx=>h.el x (by
  rcases List.mem_cons.1 hx with rfl|hx
  ·simp
  ·rw[List.mem_reverse]at hx;simp[hx])) ⟨[],rfl⟩
 generalize turnR b m.reverse 1 ⟨T,l1++f::(m++b::l2),ent,rfind ent f,b⟩=q at k1 k2 ⊢
 rcases k2 with k2|k2
 ·rw[if_pos k2]
  obtain⟨rest',hU,hql,hqn,hqe,q0,hq0⟩:=k1 k2
  have hpl:(if l1.getLast?.getD 0≠0 then placeQ q.1.T q.1.l false (l1.getLast?.getD 0)else(0,0))=(l1.getLast?.getD 0,0):=by
   by_cases h0:l1.getLast?.getD 0=0
   ·rw[if_neg (fun x=>x h0),h0]
   ·rw[if_pos h0]
    unfold placeQ
    rw[if_neg (by rw[hql];simp),if_neg h0]
    rfl
  rw[hpl]
  have hB:=hU.back rfl
  have hel:elemF (putE q.1.T (l1.getLast?.getD 0) 0 q.1.last).1 f=true:=by rw[put_el];exact hqe
  have hql':q.1.l=l1++f::(q0++b::l2):=by rw[hql,hq0]
  rw[hq0]at hB
  rw[hql']at hqn ⊢
  generalize (putE q.1.T (l1.getLast?.getD 0) 0 q.1.last).1=V at hB hel ⊢
  have hf:f∉q0++b::l2:=by
   rw[List.nodup_append]at hqn
   exact(List.nodup_cons.1 hqn.2.1).1
  have hb:b∉l2:=by
   have:=hB.nodup
   rw[List.nodup_append]at this
   have:=this.2.1
   rw[List.nodup_append]at this
   exact(List.nodup_cons.1 this.2.1).1
  unfold closeL
  rw[rm_at hf]
  rcases like_yes hel with⟨h0,d,e,d1,d2,d3,d4⟩|h43
  ·rw[if_pos h0,e]
   have h5:TL W V ((l1++q0)++b::l2):=by rw[List.append_assoc];exact hB
   have:=h5.under d1 d2 d3 d4
   rw[show l1++(q0++b::l2)=(l1++q0)++b::l2 by simp,ins_at hb]
   exact⟨fun _=>this,.inl rfl⟩
  ·rw[if_neg (by rw[h43];decide)]
   exact⟨fun hh=>absurd (show(likeF V f).2.2=0 from hh) (by rw[h43];decide),.inr h43⟩
 ·rw[if_neg (by rw[k2];decide)]
  exact⟨fun hh=>absurd (show q.2=0 from hh) (by rw[k2];decide),.inr k2⟩
end
end
end Go.Proofs.YtgepobccoffnaaaGreatDoor
