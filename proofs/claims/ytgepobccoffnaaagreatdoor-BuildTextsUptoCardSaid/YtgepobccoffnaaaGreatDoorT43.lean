/- Texts joined for a claim: TxA, BuJ: plain laws and contracts. No conditions beyond those that each lemma types. -/
import Derived.Test.YtgepobccoffnaaaGreatDoorT03
import Derived.Test.YtgepobccoffnaaaGreatDoorT32
import Derived.Test.YtgepobccoffnaaaGreatDoorT39
set_option linter.unusedVariables false
set_option linter.unusedSimpArgs false
namespace Go.Proofs.YtgepobccoffnaaaGreatDoor
open Go.RowKit Mem
section
def txL (T:TreeD) (n:Int):List UInt8:=((T.nodes[n.toNat]?).map fun d=>d.text.toList).getD []
inductive Fo (K:Int→List Int) (X:Int→List UInt8):List Int→List Int→List UInt8→Prop
 |nil:Fo K X [] [] []
 |cons {k:Int} {ks D1 D2:List Int} {s1 s2:List UInt8} (h1:Fo K X (K k) D1 s1) (h2:Fo K X ks D2 s2):Fo K X (k::ks) (k::(D1++D2)) (X k++(s1++s2))
inductive Pa (K:Int→List Int) (X:Int→List UInt8):Int→Int→List Int→List Int→List UInt8→Prop
 |one {n t:Int} {A B D1 D2:List Int} {s1:List UInt8} (hk:K n=A++t::B) (h1:Fo K X A D1 s1) (h2:Fo K X B D2 []):Pa K X n t (D1++ [t]) D2 (s1++X t)
 |down {n k t:Int} {A B D1 D2 L R:List Int} {s1 s3:List UInt8} (hk:K n=A++k::B) (h1:Fo K X A D1 s1) (h2:Fo K X B D2 []) (h3:Pa K X k t L R s3):Pa K X n t (D1++k::L) (R++D2) (s1++(X k++s3))
inductive Ch (K:Int→List Int) (X:Int→List UInt8):Int→List Int→List Int→List UInt8→Prop
 |top {n:Int} {D:List Int} {s:List UInt8} (h:Fo K X (K n) D s):Ch K X n [] D s
 |next {n x:Int} {l L R D:List Int} {s1 s2:List UInt8} (h1:Pa K X n x L R s1) (h2:Ch K X x l D s2):Ch K X n (x::l) (L++(D++R)) (s1++s2)
section
variable {K K':Int→List Int} {X X':Int→List UInt8} {A B ks D D' D1 D2 L R l m:List Int} {s s' s1 s2 e:List UInt8} {n k t x:Int}
theorem Fo.append (h:Fo K X A D1 s1) (h2:Fo K X B D2 s2):Fo K X (A++B) (D1++D2) (s1++s2):=by
 induction h with
 |nil=>exact h2
 | @cons k ks E1 E2 t1 t2 i1 i2 _ ih =>
   rw[List.cons_append,List.cons_append,List.append_assoc,List.append_assoc,List.append_assoc]
   exact .cons i1 ih
theorem Fo.split: ∀ {A:List Int} {D s},Fo K X (A++B) D s→ ∃D1 D2 s1 s2,D=D1++D2∧s=s1++s2∧Fo K X A D1 s1∧Fo K X B D2 s2
 | [],D,s,h=>⟨[],D,[],s,rfl,rfl,.nil,h⟩
 |k::A,D,s,h=>by
  rw[List.cons_append]at h
  cases h with
  | @cons _ _ E1 E2 t1 t2 i1 i2 =>
    obtain⟨F1,F2,u1,u2,rfl,rfl,j1,j2⟩:=Fo.split i2
    exact⟨k::(E1++F1),F2,X k++(t1++u1),u2,by simp,by simp,.cons i1 j1,j2⟩
theorem Fo.frame (h:Fo K X ks D s):(∀d∈D,K' d=K d∧X' d=X d)→Fo K' X' ks D s:=by
 induction h with
 |nil=>intro _;exact .nil
 | @cons k ks E1 E2 t1 t2 i1 i2 ih1 ih2 =>
   intro hU
   obtain⟨e1,e2⟩:=hU k List.mem_cons_self
   rw[←e2]
   refine .cons ?_ (ih2 fun d hd=>hU d (List.mem_cons_of_mem _ (List.mem_append_right _ hd)))
   rw[e1]
   exact ih1 fun d hd=>hU d (List.mem_cons_of_mem _ (List.mem_append_left _ hd))
theorem Fo.mem (h:Fo K X ks D s): ∀k∈ks,k∈D:=by
 induction h with
 |nil=>intro k hk;cases hk
 |cons _ _ _ ih2 =>
  intro k hk
  rcases List.mem_cons.1 hk with rfl|hk
  ·exact List.mem_cons_self
  ·exact List.mem_cons_of_mem _ (List.mem_append_right _ (ih2 k hk))
theorem Fo.closed (h:Fo K X ks D s): ∀d∈D,∀k∈K d,k∈D:=by
 induction h with
 |nil=>intro d hd;cases hd
 | @cons k ks E1 E2 t1 t2 i1 i2 ih1 ih2 =>
   intro d hd j hj
   rcases List.mem_cons.1 hd with rfl|hd
   ·exact List.mem_cons_of_mem _ (List.mem_append_left _ (i1.mem j hj))
   ·rcases List.mem_append.1 hd with hd|hd
    ·exact List.mem_cons_of_mem _ (List.mem_append_left _ (ih1 d hd j hj))
    ·exact List.mem_cons_of_mem _ (List.mem_append_right _ (ih2 d hd j hj))
theorem Pa.fill (h:Pa K X n t L R s1) (h2:Fo K X (K t) D s2):Fo K X (K n) (L++(D++R)) (s1++s2):=by
 induction h with
 |one hk i1 i2 =>
  rw[hk]
  have:=i1.append (Fo.cons h2 i2)
  simpa using this
 |down hk i1 i2 _ ih =>
  rw[hk]
  have:=i1.append (Fo.cons (ih h2) i2)
  simpa using this
theorem Pa.trans {L2 R2:List Int} (h:Pa K X n k L R s1) (h2:Pa K X k t L2 R2 s2):Pa K X n t (L++L2) (R2++R) (s1++s2):=by
 induction h with
 |one hk i1 i2 =>
  have:=Pa.down hk i1 i2 h2
  simpa using this
 |down hk i1 i2 _ ih =>
  have:=Pa.down hk i1 i2 (ih h2)
  simpa using this
theorem Pa.tin (h:Pa K X n t L R s1):t∈L:=by
 induction h with
 |one=>exact List.mem_append_right _ List.mem_cons_self
 |down _ _ _ _ ih=>exact List.mem_append_right _ (List.mem_cons_of_mem _ ih)
theorem Ch.fo (h:Ch K X n l D s):Fo K X (K n) D s:=by
 induction h with
 |top h=>exact h
 |next h1 _ ih=>exact h1.fill ih
theorem Ch.lift (h:Pa K X n x L R s1) (h2:Ch K X x l D s2):Ch K X n l (L++(D++R)) (s1++s2):=by
 cases h2 with
 |top h2=>exact .top (h.fill h2)
 |next j1 j2 =>
  have:=Ch.next (h.trans j1) j2
  simpa using this
theorem Ch.sub (h:Ch K X n l D s): ∀ {l':List Int},l'.Sublist l→Ch K X n l' D s:=by
 induction h with
 |top h=>intro l' hl;rw[List.sublist_nil.1 hl];exact .top h
 | @next n x l L R D s1 s2 h1 h2 ih =>
   intro l' hl
   cases hl with
   |cons _ hl=>exact Ch.lift h1 (ih hl)
   |cons_cons _ hl=>exact .next h1 (ih hl)
theorem Pa.closed (h:Pa K X n t L R s1): ∀d,d=n∨d∈L∨d∈R→d≠t→(n::(L++R)).Nodup→ ∀k∈K d,k∈L∨k∈R:=by
 induction h with
 | @one n t A B D1 D2 s1 hk i1 i2 =>
   intro d hd hdt _ k hkd
   rcases hd with rfl|hd|hd
   ·rw[hk]at hkd
    rcases List.mem_append.1 hkd with h|h
    ·exact .inl (List.mem_append_left _ (i1.mem k h))
    ·rcases List.mem_cons.1 h with rfl|h
     ·exact .inl (by simp)
     ·exact .inr (i2.mem k h)
   ·rcases List.mem_append.1 hd with h|h
    ·exact .inl (List.mem_append_left _ (i1.closed d h k hkd))
    ·exact absurd (List.mem_singleton.1 h) hdt
   ·exact .inr (i2.closed d hd k hkd)
 | @down n k t A B D1 D2 L R s1 s3 hk i1 i2 h3 ih =>
   intro d hd hdt hnd j hj
   have hnd2:(k::(L++R)).Nodup:=by
    refine List.Nodup.sublist ?_ (List.nodup_cons.1 hnd).2
    simp
   rcases hd with rfl|hd|hd
   ·rw[hk]at hj
    rcases List.mem_append.1 hj with h|h
    ·exact .inl (List.mem_append_left _ (i1.mem j h))
    ·rcases List.mem_cons.1 h with rfl|h
     ·exact .inl (by simp)
     ·exact .inr (List.mem_append_right _ (i2.mem j h))
   ·rcases List.mem_append.1 hd with h|h
    ·exact .inl (List.mem_append_left _ (i1.closed d h j hj))
    ·have h':d=k∨d∈L∨d∈R:=by
      rcases List.mem_cons.1 h with h|h
      ·exact .inl h
      ·exact .inr (.inl h)
     rcases ih d h' hdt hnd2 j hj with h|h
     ·exact .inl (List.mem_append_right _ (List.mem_cons_of_mem _ h))
     ·exact .inr (List.mem_append_left _ h)
   ·rcases List.mem_append.1 hd with h|h
    ·rcases ih d (.inr (.inr h)) hdt hnd2 j hj with h|h
     ·exact .inl (List.mem_append_right _ (List.mem_cons_of_mem _ h))
     ·exact .inr (List.mem_append_left _ h)
    ·exact .inr (List.mem_append_right _ (i2.closed d h j hj))
theorem Pa.frame (h:Pa K X n t L R s1):(n::(L++R)).Nodup→(∀d,d=n∨d∈L∨d∈R→d≠t→K' d=K d)→(∀d,d∈L∨d∈R→X' d=X d)→Pa K' X' n t L R s1:=by
 induction h with
 | @one n t A B D1 D2 s1 hk i1 i2 =>
   intro hnd hU hX
   rw[List.append_assoc,List.nodup_cons,List.mem_append,List.mem_append,List.nodup_append]at hnd
   obtain⟨h1,h2,h3,h4⟩:=hnd
   have hnt:n≠t:=fun e=>h1 (.inr (.inl (by rw[e];exact List.mem_cons_self)))
   rw[←hX t (.inl (by simp))]
   refine .one ((hU n (.inl rfl) hnt).trans hk) (i1.frame fun d hd=>⟨hU d (.inr (.inl (List.mem_append_left _ hd))) fun e=> ?_,hX d (.inl (List.mem_append_left _ hd))⟩) (i2.frame fun d hd=>⟨hU d (.inr (.inr hd)) fun e=> ?_,hX d (.inr hd)⟩)
   ·exact h4 d hd t (by simp) e
   ·rw[e]at hd
    rw[List.singleton_append,List.nodup_cons]at h3
    exact h3.1 hd
 | @down n k t A B D1 D2 L R s1 s3 hk i1 i2 h3 ih =>
   intro hnd hU hX
   have hnd0:(n::(D1++((k::(L++R))++D2))).Nodup:=by simpa using hnd
   rw[List.nodup_cons,List.mem_append,List.mem_append,List.nodup_append,List.nodup_append]at hnd0
   obtain⟨g1,g2,⟨g3,g4,g5⟩,g6⟩:=hnd0
   have htl:=h3.tin
   have hnt:n≠t:=fun e=>g1 (.inr (.inl (by rw[e];exact List.mem_cons_of_mem _ (List.mem_append_left _ htl))))
   rw[←hX k (.inl (by simp))]
   refine .down ((hU n (.inl rfl) hnt).trans hk) (i1.frame fun d hd=>⟨hU d (.inr (.inl (List.mem_append_left _ hd))) fun e=> ?_,hX d (.inl (List.mem_append_left _ hd))⟩) (i2.frame fun d hd=>⟨hU d (.inr (.inr (List.mem_append_right _ hd))) fun e=> ?_,hX d (.inr (List.mem_append_right _ hd))⟩) (ih g3 (fun d hd hdt=>hU d ?_ hdt) fun d hd=>hX d ?_)
   ·exact g6 d hd t (List.mem_append_left _ (List.mem_cons_of_mem _ (List.mem_append_left _ htl))) e
   ·exact g5 t (List.mem_cons_of_mem _ (List.mem_append_left _ htl)) d hd e.symm
   ·rcases hd with rfl|hd|hd
    ·exact .inr (.inl (by simp))
    ·exact .inr (.inl (List.mem_append_right _ (List.mem_cons_of_mem _ hd)))
    ·exact .inr (.inr (List.mem_append_left _ hd))
   ·rcases hd with hd|hd
    ·exact .inl (List.mem_append_right _ (List.mem_cons_of_mem _ hd))
    ·exact .inr (List.mem_append_left _ hd)
theorem Ch.topin (h:Ch K X n l D s):l.getLast?.getD n=n∨l.getLast?.getD n∈D:=by
 induction h with
 |top=>exact .inl rfl
 | @next n x l L R D s1 s2 h1 h2 ih =>
   have e:(x::l).getLast?.getD n=l.getLast?.getD x:=by cases l <;>simp[List.getLast?_cons]
   rw[e]
   rcases ih with h|h
   ·rw[h];exact .inr (List.mem_append_left _ h1.tin)
   ·exact .inr (List.mem_append_right _ (List.mem_append_left _ h))
theorem Ch.closed (h:Ch K X n l D s): ∀d,d=n∨d∈D→ ∀k∈K d,k∈D:=by
 intro d hd k hk
 rcases hd with rfl|hd
 ·exact h.fo.mem k hk
 ·exact h.fo.closed d hd k hk
theorem Ch.edit {E:List Int} {t:Int} {l' m':List Int} (h:Ch K X n l' D s):l'=l++m→l.getLast?.getD n=t→(n::D).Nodup→(∀d,d=n∨d∈D→d≠t→K' d=K d)→(∀d∈D,d∉K t→X' d=X d) →
 (∀D0 s0,Ch K X t m D0 s0→(t::D0).Nodup→(∀d∈D0,d∈D)→ ∃D1,D1.Perm (D0++E)∧Ch K' X' t m' D1 (s0++e))→ ∃D',D'.Perm (D++E)∧Ch K' X' n (l++m') D' (s++e):=by
 intro hl ht hnd hU hX hyp
 induction h generalizing l with
 | @top n D s h =>
   obtain⟨rfl,rfl⟩:=List.append_eq_nil_iff.1 hl.symm
   obtain rfl:n=t:=ht
   exact hyp D s (.top h) hnd fun _ h=>h
 | @next n x l0 L R D s1 s2 h1 h2 ih =>
   cases l with
   |nil =>
    obtain rfl:n=t:=ht
    rw[List.nil_append]at hl
    subst hl
    exact hyp _ _ (.next h1 h2) hnd fun _ h=>h
   |cons y l =>
    rw[List.cons_append]at hl
    obtain⟨rfl,rfl⟩:=List.cons.inj hl
    have e1:l.getLast?.getD x=t:=by rw[←ht];cases l <;>simp[List.getLast?_cons]
    have hnd0:(n::(L++(D++R))).Nodup:=hnd
    rw[List.nodup_cons,List.nodup_append,List.nodup_append]at hnd0
    obtain⟨g1,g2,⟨g3,g4,g5⟩,g6⟩:=hnd0
    have hxD:x∉D:=fun hx=>g6 x h1.tin x (List.mem_append_left _ hx) rfl
    have htin:t=x∨t∈D:=by
     have:=(h2.sub (List.sublist_append_left l m)).topin
     rwa [e1]at this
    have hkt: ∀d∈K t,d∈D:=fun d hd=>h2.closed t htin d hd
    obtain⟨D',hp,hc⟩:=ih rfl e1 (List.nodup_cons.2 ⟨hxD,g3⟩) (fun d hd hdt=>hU d (by
     rcases hd with rfl|hd
     ·exact .inr (List.mem_append_left _ h1.tin)
     ·exact .inr (List.mem_append_right _ (List.mem_append_left _ hd))) hdt)
     (fun d hd hdk=>hX d (List.mem_append_right _ (List.mem_append_left _ hd)) hdk)
     (fun D0 s0 hc hn hd=>hyp D0 s0 hc hn fun d hd'=>List.mem_append_right _ (List.mem_append_left _ (hd d hd')))
    have hnd1:(n::(L++R)).Nodup:=hnd.sublist (List.Sublist.cons_cons n ((List.Sublist.refl L).append (List.sublist_append_right D R)))
    have hno: ∀d,d=n∨d∈L∨d∈R→d∉D:=by
     rintro d (rfl|hd|hd) hx
     ·exact g1 (List.mem_append_right _ (List.mem_append_left _ hx))
     ·exact g6 d hd d (List.mem_append_left _ hx) rfl
     ·exact g5 d hx d hd rfl
    have hpa:Pa K' X' n x L R s1:=h1.frame hnd1 (fun d hd hdx=>hU d (by
     rcases hd with hd|hd|hd
     ·exact .inl hd
     ·exact .inr (List.mem_append_left _ hd)
     ·exact .inr (List.mem_append_right _ (List.mem_append_right _ hd))) (by
     rintro rfl
     rcases htin with h|h
     ·exact hdx h
     ·exact hno _ hd h))
     (fun d hd=>hX d (by
       rcases hd with hd|hd
       ·exact List.mem_append_left _ hd
       ·exact List.mem_append_right _ (List.mem_append_right _ hd)) fun hk=>hno d (.inr hd) (hkt d hk))
    refine⟨L++(D'++R),?_,?_⟩
    ·rw[List.append_assoc,List.append_assoc]
     refine List.Perm.append_left L ?_
     refine(hp.append_right R).trans ?_
     rw[List.append_assoc]
     exact List.Perm.append_left D List.perm_append_comm
    ·rw[List.append_assoc]
     exact .next hpa hc
theorem Ch.frame (h:Ch K X n l D s):(n::D).Nodup→(∀d,d=n∨d∈D→K' d=K d)→(∀d∈D,X' d=X d)→Ch K' X' n l D s:=by
 induction h with
 |top h=>intro _ hU hX;exact .top (by rw[hU _ (.inl rfl)];exact h.frame fun d hd=>⟨hU d (.inr hd),hX d hd⟩)
 | @next n x l L R D s1 s2 h1 h2 ih =>
   intro hnd hU hX
   have hnd0:=hnd
   rw[List.nodup_cons,List.nodup_append,List.nodup_append]at hnd0
   obtain⟨g1,g2,⟨g3,g4,g5⟩,g6⟩:=hnd0
   have hxD:x∉D:=fun hx=>g6 x h1.tin x (List.mem_append_left _ hx) rfl
   have hnd1:(n::(L++R)).Nodup:=hnd.sublist (List.Sublist.cons_cons n ((List.Sublist.refl L).append (List.sublist_append_right D R)))
   refine .next (h1.frame hnd1 (fun d hd _=>hU d (by
    rcases hd with hd|hd|hd
    ·exact .inl hd
    ·exact .inr (List.mem_append_left _ hd)
    ·exact .inr (List.mem_append_right _ (List.mem_append_right _ hd)))) fun d hd=>hX d (by
    rcases hd with hd|hd
    ·exact List.mem_append_left _ hd
    ·exact List.mem_append_right _ (List.mem_append_right _ hd))) (ih (List.nodup_cons.2 ⟨hxD,g3⟩) (fun d hd=>hU d (by
    rcases hd with rfl|hd
    ·exact .inr (List.mem_append_left _ h1.tin)
    ·exact .inr (List.mem_append_right _ (List.mem_append_left _ hd)))) fun d hd=>hX d (List.mem_append_right _ (List.mem_append_left _ hd)))
def offK (K:Int→List Int) (x d:Int):List Int:=(K d).filter (· !=x)
theorem filter_off {l:List Int} (h:x∉l):l.filter (· !=x)=l:=List.filter_eq_self.2 fun y hy=>bne_iff_ne.2 fun e=>h (e▸hy)
theorem Fo.off (h:Fo K X ks D s) (hx:x∉D):Fo (offK K x) X ks D s:=h.frame fun d hd=>⟨filter_off fun hk=>hx (h.closed d hd x hk),rfl⟩
theorem Pa.cut (h:Pa K X n t L R s):(n::(L++R)).Nodup→ ∃L' s',L=L'++ [t]∧s=s'++X t∧Fo (offK K t) X (offK K t n) (L'++R) s':=by
 induction h with
 | @one n t A B D1 D2 s1 hk i1 i2 =>
   intro hnd
   rw[List.append_assoc,List.nodup_cons,List.nodup_append]at hnd
   obtain⟨h1,h2,h3,h4⟩:=hnd
   have a1:t∉D1:=fun h=>h4 t h t (by simp) rfl
   have a2:t∉D2:=(List.nodup_cons.1 h3).1
   refine⟨D1,s1,rfl,rfl,?_⟩
   have e:offK K t n=A++B:=by
    unfold offK
    rw[hk,List.filter_append,List.filter_cons_of_neg (by simp),filter_off fun h=>a1 (i1.mem t h),filter_off fun h=>a2 (i2.mem t h)]
   rw[e]
   have:=(i1.off a1).append (i2.off a2)
   rwa [List.append_nil]at this
 | @down n k t A B D1 D2 L R s1 s3 hk i1 i2 h3 ih =>
   intro hnd
   have hnd0:(n::(D1++((k::(L++R))++D2))).Nodup:=by simpa using hnd
   rw[List.nodup_cons,List.nodup_append,List.nodup_append]at hnd0
   obtain⟨g1,g2,⟨g3,g4,g5⟩,g6⟩:=hnd0
   have htl:=h3.tin
   have a1:t∉D1:=fun h=>g6 t h t (List.mem_append_left _ (List.mem_cons_of_mem _ (List.mem_append_left _ htl))) rfl
   have a2:t∉D2:=fun h=>g5 t (List.mem_cons_of_mem _ (List.mem_append_left _ htl)) t h rfl
   have a3:k≠t:=fun e=>(List.nodup_cons.1 g3).1 (by rw[e];exact List.mem_append_left _ htl)
   obtain⟨L',s',rfl,rfl,hf⟩:=ih g3
   refine⟨D1++k::L',s1++(X k++s'),by simp,by simp,?_⟩
   have e:offK K t n=A++k::B:=by
    have hb:(k !=t)=true:=bne_iff_ne.2 a3
    unfold offK
    rw[hk,List.filter_append,List.filter_cons_of_pos (by simpa using a3),filter_off fun h=>a1 (i1.mem t h),filter_off fun h=>a2 (i2.mem t h)]
   rw[e]
   have:=(i1.off a1).append (Fo.cons hf (i2.off a2))
   simpa using this
theorem Ch.cut {l':List Int} (h:Ch K X n l' D s):l'=l++x::m→(n::D).Nodup→ ∃D1 s1 D2 s2,Ch (offK K x) X n l D1 s1∧Ch (offK K x) X x m D2 s2∧s=s1++(X x++s2)∧(D1++x::D2).Perm D:=by
 intro hl hnd
 induction h generalizing l with
 |top h =>
  rcases List.append_eq_nil_iff.1 hl.symm with⟨_,h⟩
  cases h
 | @next n y l0 L R D s1 s2 h1 h2 ih =>
   have hnd0:=hnd
   rw[List.nodup_cons,List.nodup_append,List.nodup_append]at hnd0
   obtain⟨g1,g2,⟨g3,g4,g5⟩,g6⟩:=hnd0
   have hyD:y∉D:=fun hx=>g6 y h1.tin y (List.mem_append_left _ hx) rfl
   have hnd1:(n::(L++R)).Nodup:=hnd.sublist (List.Sublist.cons_cons n ((List.Sublist.refl L).append (List.sublist_append_right D R)))
   cases l with
   |nil =>
    rw[List.nil_append]at hl
    obtain⟨rfl,rfl⟩:=List.cons.inj hl
    obtain⟨L',s',rfl,rfl,hf⟩:=h1.cut hnd1
    refine⟨L'++R,s',D,s2,.top hf,h2.frame (List.nodup_cons.2 ⟨hyD,g3⟩) (fun d hd=>filter_off fun hk=>hyD (h2.closed d hd _ hk)) (fun _ _=>rfl),by simp,?_⟩
    simp only[List.append_assoc,List.singleton_append]
    refine List.Perm.append_left L' ?_
    refine(List.perm_middle).trans ?_
    exact List.Perm.cons _ (List.perm_append_comm)
   |cons z l =>
    rw[List.cons_append]at hl
    obtain⟨rfl,rfl⟩:=List.cons.inj hl
    obtain⟨D1,t1,D2,t2,c1,c2,rfl,hp⟩:=ih rfl (List.nodup_cons.2 ⟨hyD,g3⟩)
    have hxD:x∈D:=hp.mem_iff.1 (by simp)
    have hxn:x∉L∧x∉R:=⟨fun h=>g6 x h x (List.mem_append_left _ hxD) rfl,fun h=>g5 x hxD x h rfl⟩
    have hpa:Pa (offK K x) X n y L R s1:=h1.frame hnd1 (fun d hd hdy=>filter_off fun hk=>by
     rcases h1.closed d hd hdy hnd1 x hk with h|h
     ·exact hxn.1 h
     ·exact hxn.2 h) fun _ _=>rfl
    refine⟨_,_,D2,t2,.next hpa c1,c2,by simp,?_⟩
    simp only[List.append_assoc]
    refine List.Perm.append_left L ?_
    refine List.Perm.trans ?_ (hp.append_right R)
    rw[List.append_assoc]
    refine List.Perm.append_left D1 ?_
    exact List.perm_append_comm
theorem Ch.at {l':List Int} (h:Ch K X n l' D s):l'=l++x::m→(n::D).Nodup→ ∃D0 s0,Ch K X x m D0 s0∧(x::D0).Nodup∧(∀d∈D0,d∈D)∧x∈D:=by
 intro hl hnd
 induction h generalizing l with
 |top h =>
  rcases List.append_eq_nil_iff.1 hl.symm with⟨_,h⟩
  cases h
 | @next n y l0 L R D s1 s2 h1 h2 ih =>
   have hnd0:=hnd
   rw[List.nodup_cons,List.nodup_append,List.nodup_append]at hnd0
   obtain⟨g1,g2,⟨g3,g4,g5⟩,g6⟩:=hnd0
   have hyD:y∉D:=fun hx=>g6 y h1.tin y (List.mem_append_left _ hx) rfl
   cases l with
   |nil =>
    rw[List.nil_append]at hl
    obtain⟨rfl,rfl⟩:=List.cons.inj hl
    exact⟨D,s2,h2,List.nodup_cons.2 ⟨hyD,g3⟩,fun d hd=>List.mem_append_right _ (List.mem_append_left _ hd),List.mem_append_left _ h1.tin⟩
   |cons z l =>
    rw[List.cons_append]at hl
    obtain⟨rfl,rfl⟩:=List.cons.inj hl
    obtain⟨D0,s0,c1,c2,c3,c4⟩:=ih rfl (List.nodup_cons.2 ⟨hyD,g3⟩)
    exact⟨D0,s0,c1,c2,fun d hd=>List.mem_append_right _ (List.mem_append_left _ (c3 d hd)),List.mem_append_right _ (List.mem_append_left _ c4)⟩
theorem Ch.nodup (h:Ch K X n l D s):(n::D).Nodup→l.Nodup∧ ∀x∈l,x∈D:=by
 induction h with
 |top=>intro _;exact⟨List.nodup_nil,fun x hx=>by cases hx⟩
 | @next n y l0 L R D s1 s2 h1 h2 ih =>
   intro hnd
   have hnd0:=hnd
   rw[List.nodup_cons,List.nodup_append,List.nodup_append]at hnd0
   obtain⟨g1,g2,⟨g3,g4,g5⟩,g6⟩:=hnd0
   have hyD:y∉D:=fun hx=>g6 y h1.tin y (List.mem_append_left _ hx) rfl
   obtain⟨i1,i2⟩:=ih (List.nodup_cons.2 ⟨hyD,g3⟩)
   refine⟨List.nodup_cons.2 ⟨fun hx=>hyD (i2 y hx),i1⟩,fun x hx=> ?_⟩
   rcases List.mem_cons.1 hx with rfl|hx
   ·exact List.mem_append_left _ h1.tin
   ·exact List.mem_append_right _ (List.mem_append_left _ (i2 x hx))
theorem Pa.root {r:Int} (h:Pa K X n t L R s1):(n::(L++R)).Nodup→K' r=K n→(∀d,d∈L∨d∈R→d≠t→K' d=K d)→(∀d,d∈L∨d∈R→X' d=X d)→Pa K' X' r t L R s1:=by
 intro hnd hr hU hX
 cases h with
 | @one _ _ A B D1 D2 s1 hk i1 i2 =>
   rw[List.append_assoc,List.nodup_cons,List.nodup_append]at hnd
   obtain⟨h1,h2,h3,h4⟩:=hnd
   rw[←hX t (.inl (by simp))]
   refine .one (hr.trans hk) (i1.frame fun d hd=>⟨hU d (.inl (List.mem_append_left _ hd)) fun e=> ?_,hX d (.inl (List.mem_append_left _ hd))⟩) (i2.frame fun d hd=>⟨hU d (.inr hd) fun e=> ?_,hX d (.inr hd)⟩)
   ·exact h4 d hd t (by simp) e
   ·rw[e]at hd
    rw[List.singleton_append,List.nodup_cons]at h3
    exact h3.1 hd
 | @down _ k _ A B D1 D2 L R s1 s3 hk i1 i2 h3 =>
   have hnd0:(n::(D1++((k::(L++R))++D2))).Nodup:=by simpa using hnd
   rw[List.nodup_cons,List.nodup_append,List.nodup_append]at hnd0
   obtain⟨g1,g2,⟨g3,g4,g5⟩,g6⟩:=hnd0
   have htl:=h3.tin
   rw[←hX k (.inl (by simp))]
   refine .down (hr.trans hk) (i1.frame fun d hd=>⟨hU d (.inl (List.mem_append_left _ hd)) fun e=> ?_,hX d (.inl (List.mem_append_left _ hd))⟩) (i2.frame fun d hd=>⟨hU d (.inr (List.mem_append_right _ hd)) fun e=> ?_,hX d (.inr (List.mem_append_right _ hd))⟩) (h3.frame g3 (fun d hd hdt=>hU d ?_ hdt) fun d hd=>hX d ?_)
   ·exact g6 d hd t (List.mem_append_left _ (List.mem_cons_of_mem _ (List.mem_append_left _ htl))) e
   ·exact g5 t (List.mem_cons_of_mem _ (List.mem_append_left _ htl)) d hd e.symm
   ·rcases hd with rfl|hd|hd
    ·exact .inl (by simp)
    ·exact .inl (List.mem_append_right _ (List.mem_cons_of_mem _ hd))
    ·exact .inr (List.mem_append_left _ hd)
   ·rcases hd with hd|hd
    ·exact .inl (List.mem_append_right _ (List.mem_cons_of_mem _ hd))
    ·exact .inr (List.mem_append_left _ hd)
theorem Ch.root {r:Int} (h:Ch K X n l D s):(n::D).Nodup→K' r=K n→(∀d∈D,K' d=K d)→(∀d∈D,X' d=X d)→Ch K' X' r l D s:=by
 intro hnd hr hU hX
 cases h with
 |top h=>exact .top (by rw[hr];exact h.frame fun d hd=>⟨hU d hd,hX d hd⟩)
 | @next _ x l L R D s1 s2 h1 h2 =>
   have hnd0:=hnd
   rw[List.nodup_cons,List.nodup_append,List.nodup_append]at hnd0
   obtain⟨g1,g2,⟨g3,g4,g5⟩,g6⟩:=hnd0
   have hxD:x∉D:=fun hx=>g6 x h1.tin x (List.mem_append_left _ hx) rfl
   have hnd1:(n::(L++R)).Nodup:=hnd.sublist (List.Sublist.cons_cons n ((List.Sublist.refl L).append (List.sublist_append_right D R)))
   refine .next (h1.root hnd1 hr (fun d hd _=>hU d ?_) fun d hd=>hX d ?_) (h2.frame (List.nodup_cons.2 ⟨hxD,g3⟩) (fun d hd=>hU d (by
    rcases hd with rfl|hd
    ·exact List.mem_append_left _ h1.tin
    ·exact List.mem_append_right _ (List.mem_append_left _ hd))) fun d hd=>hX d (List.mem_append_right _ (List.mem_append_left _ hd)))
   all_goals
    rcases hd with hd|hd
    ·exact List.mem_append_left _ hd
    ·exact List.mem_append_right _ (List.mem_append_right _ hd)
end
end
def Nm (T U:TreeD):Prop:=T.nodes.length≤U.nodes.length∧ ∀x:Int,x.toNat<T.nodes.length→spaceQ U x=spaceQ T x∧nameQ U x=nameQ T x
theorem Nm.refl (T:TreeD):Nm T T:=⟨Nat.le_refl _,fun _ _=>⟨rfl,rfl⟩⟩
theorem Nm.trans {T U V:TreeD} (h:Nm T U) (k:Nm U V):Nm T V:=⟨Nat.le_trans h.1 k.1,fun x hx=>⟨(k.2 x (Nat.lt_of_lt_of_le hx h.1)).1.trans (h.2 x hx).1,(k.2 x (Nat.lt_of_lt_of_le hx h.1)).2.trans (h.2 x hx).2⟩⟩
theorem nm_mod (T:TreeD) (n:Int) {f:ND→ND} (h1: ∀d,(f d).elem=d.elem) (h2: ∀d,(f d).space=d.space) (h3: ∀d,(f d).name=d.name):Nm T (modN T n f):=by
 refine⟨by rw[modN_len];exact Nat.le_refl _,fun x _=> ?_⟩
 have e1:=elemF_modZ T n f h1 x
 unfold spaceQ nameQ
 rw[e1]
 unfold modN
 simp only[List.getElem?_modify]
 cases T.nodes[x.toNat]? with
 |none=>simp
 |some d=>by_cases h:n.toNat=x.toNat <;>simp[h,h2,h3]
theorem nm_add (T:TreeD) (d:ND):Nm T (addF T d):=by
 refine⟨by simp[addF],fun x hx=> ?_⟩
 have e1:elemF (addF T d) x=elemF T x:=by
  by_cases h0:x<0
  ·unfold elemF isF
   rw[show decide (1≤x)=false by simp;omega]
   rfl
  ·have:=addF_elem T d x.toNat hx
   rwa [Int.toNat_of_nonneg (by omega)]at this
 unfold spaceQ nameQ
 rw[e1]
 unfold addF
 simp only
 rw[List.getElem?_append_left hx]
 exact⟨rfl,rfl⟩
theorem nm_insert (T:TreeD) (a:Int) (i:Nat) (n:Int):Nm T (insertF T a i n):=by
 unfold insertF
 exact(nm_mod _ _ (f:=setKids _) (fun _=>rfl) (fun _=>rfl) (fun _=>rfl)).trans (nm_mod _ _ (f:=setParent a) (fun _=>rfl) (fun _=>rfl) (fun _=>rfl))
theorem nm_take (T:TreeD) (n:Int):Nm T (takeF T n):=by
 have h1:Nm T (kidsOff T n):=by
  unfold kidsOff
  split
  ·exact nm_mod _ _ (f:=setKids _) (fun _=>rfl) (fun _=>rfl) (fun _=>rfl)
  ·exact .refl T
 unfold takeF
 exact h1.trans (nm_mod _ _ (f:=setParent (-1)) (fun _=>rfl) (fun _=>rfl) (fun _=>rfl))
theorem nm_put (T:TreeD) (a b n:Int):Nm T (putE T a b n).1:=by
 unfold putE
 split
 ·exact(nm_take T n).trans (nm_insert _ _ _ _)
 ·exact .refl T
theorem nm_move (b:Int): ∀(l:List Int) (T:TreeD),Nm T (moveF T b l)
 | [],T=> .refl T
 |_::r,T=>(nm_put T b 0 _).trans (nm_move b r _)
theorem nm_moveE (T:TreeD) (a b:Int):Nm T (moveE T a b).1:=by
 unfold moveE
 split
 ·exact nm_move b _ T
 ·exact .refl T
end Go.Proofs.YtgepobccoffnaaaGreatDoor
