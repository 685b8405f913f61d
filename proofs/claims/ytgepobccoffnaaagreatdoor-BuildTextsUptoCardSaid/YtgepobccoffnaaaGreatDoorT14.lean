/- Texts joined for a claim: FmE: plain laws and contracts. No conditions beyond those that each lemma types. -/
import Derived.Test.YtgepobccoffnaaaGreatDoorT13
set_option linter.unusedVariables false
set_option linter.unusedSimpArgs false
set_option maxRecDepth 100000
set_option maxHeartbeats 8000000
section
namespace Go.Proofs.YtgepobccoffnaaaGreatDoor
open Go.RowKit Mem
structure TS where
 T:TreeD
 l:List Int
 ent:List Int
 keep:Int
 last:Int
noncomputable def turnR (b:Int):List Int→Nat→TS→TS×Int
 | [],_,S=>(S,0)
 |x::r,c,S =>
  if 0≤rfind S.ent x then
   if 3<c then turnR b r (c+1) {S with ent:=dropF S.ent (rfind S.ent x),keep:=if rfind S.ent x<S.keep then S.keep-1 else S.keep,l:=rmF S.l x}
   else if(likeF S.T x).2.2=0 then
    turnR b r (c+1) ⟨(putE (likeF S.T x).1 (likeF S.T x).2.1 0 S.last).1,swapF S.l x (likeF S.T x).2.1,S.ent.set (rfind S.ent x).toNat (likeF S.T x).2.1,if S.last=b then rfind S.ent x+1 else S.keep,(likeF S.T x).2.1⟩
   else({S with T:=(likeF S.T x).1},(likeF S.T x).2.2)
  else turnR b r (c+1) {S with l:=rmF S.l x}
def betweenF (l:List Int) (f b:Int):List Int:=(l.take (rfind l b).toNat).drop ((rfind l f).toNat+1)
def underF (l:List Int) (f:Int):Int:=if 0<rfind l f then l.getD ((rfind l f).toNat-1) 0 else 0
noncomputable def turnL (T:TreeD) (l ent:List Int) (on:Bool) (f b:Int):TreeD×List Int×List Int×Int :=
 let q:=turnR b (betweenF l f b).reverse 1 ⟨T,l,ent,rfind ent f,b⟩
 if q.2=0 then
  let p:=if underF l f≠0 then placeQ q.1.T q.1.l on (underF l f)else(0,0)
  closeL (putE q.1.T p.1 p.2 q.1.last).1 q.1.l q.1.ent f b q.1.keep
 else(q.1.T,q.1.l,q.1.ent,q.2)
theorem between_len (l:List Int) (f b:Int) (h:rfind l f<rfind l b) (h0:0≤rfind l f):((rfind l f+1:Int)+(betweenF l f b).length=rfind l b):=by
 have h1:=rfind_spec l b
 rw[betweenF,List.length_drop,List.length_take]
 omega
theorem between_get (l:List Int) (f b:Int) (k:Nat) (h:k<(betweenF l f b).length): ∃h':(rfind l f).toNat+1+k<l.length,(betweenF l f b)[k]=l[(rfind l f).toNat+1+k]:=by
 have h2:=h
 rw[betweenF,List.length_drop,List.length_take]at h2
 refine⟨by omega,?_⟩
 simp only[betweenF,List.getElem_drop,List.getElem_take]
theorem between_ne (l:List Int) (f b:Int) (k:Nat) (h:k<(betweenF l f b).length):(betweenF l f b)[k]≠f:=by
 obtain⟨h',e⟩:=between_get l f b k h
 rw[e]
 exact(rfind_spec l f).2.2.1 _ h' (by have:=(rfind_spec l f).1;omega)
theorem rev_step {α:Type} (B:List α) (k:Nat) (h:k<B.length):(B.take (k+1)).reverse=B[k]::(B.take k).reverse:=by
 rw[List.take_succ_eq_append_getElem h]
 simp
theorem mem_rfind {l:List Int} {n:Int}:0≤rfind l n↔n∈l:=by
 obtain⟨h1,h2,h3,h4⟩:=rfind_spec l n
 constructor
 ·intro h
  have hk:rfind l n=((rfind l n).toNat:Int):=by omega
  have hlt:(rfind l n).toNat<l.length:=by omega
  rw[←h4 _ hlt hk]
  exact List.getElem_mem _
 ·intro h
  obtain⟨i,hi,rfl⟩:=List.getElem_of_mem h
  rcases Int.lt_or_le (rfind l l[i]) 0 with h|h
  ·exact absurd rfl (h3 i hi (by omega))
  ·exact h
theorem mem_drop {l:List Int} {x f:Int} (hf:f∈l) (hx:x≠f):f∈dropF l (rfind l x):=by
 unfold dropF
 split
 ·rename_i h
  obtain⟨i,hi,rfl⟩:=List.getElem_of_mem hf
  obtain⟨h1,h2,h3,h4⟩:=rfind_spec l x
  have hne:i≠(rfind l x).toNat:=by
   intro e
   exact hx ((h4 i hi (by omega)).symm)
  rw[List.mem_eraseIdx_iff_getElem]
  exact⟨i,hi,hne,rfl⟩
 ·exact hf
theorem mem_set {l:List Int} {x f n:Int} (hf:f∈l) (hx:x≠f) (h0:0≤rfind l x):f∈l.set (rfind l x).toNat n:=by
 obtain⟨i,hi,rfl⟩:=List.getElem_of_mem hf
 obtain⟨h1,h2,h3,h4⟩:=rfind_spec l x
 have hne:(rfind l x).toNat≠i:=by
  intro e
  exact hx ((h4 i hi (by omega)).symm)
 have:(l.set (rfind l x).toNat n)[i]'(by simpa using hi)=l[i]:=by rw[List.getElem_set_ne hne]
 rw[←this]
 exact List.getElem_mem _
theorem keepF_ok {ent:List Int} {f keep:Int} (hf:f∈ent) (h1:0≤keep) (h2:keep≤ent.length):0≤keepF ent f keep∧keepF ent f keep≤(dropF ent (rfind ent f)).length:=by
 have h0:=mem_rfind.2 hf
 have hs:=rfind_spec ent f
 have hl:((dropF ent (rfind ent f)).length:Int)=ent.length-1:=by
  rw[dropF,if_pos h0,List.length_eraseIdx,if_pos (by omega)]
  omega
 unfold keepF
 split <;>omega
section
variable {w0 w w':World} {B B' tb sb lb:Nat} {ex:Nat→Prop} {T T':TreeD} {l l' ent ent':List Int} {on on':Bool}
theorem LI.set (h:LI w0 B tb sb lb ex T l ent on w) (k:Nat) (hk:k<ent.length): ∃g c,w.cell? ⟨lb,0,none⟩=some (.pointer (some ⟨tb,0,none⟩))∧w.cell? ⟨lb,1,none⟩=some (.pointer (some ⟨sb,0,none⟩))∧w.cell? ⟨lb,2,none⟩=some (.slice (some ⟨g,0,none⟩) ent.length c)∧ent.length≤c∧c≤maxLen∧w.cell? ⟨g,k,none⟩=some (.int .i64 ent[k])∧w.frozen? ⟨g,k,none⟩=false∧g≠lb ∧
 ∀n,LI w0 B tb sb lb ex T l (ent.set k n) on (w.setCell ⟨g,k,none⟩ (.int .i64 n))∧Keeps (Own w0 ex) w (w.setCell ⟨g,k,none⟩ (.int .i64 n)):=by
 obtain⟨ge,h1,h2,h3,h4⟩:=h
 obtain⟨a,c,c0,c1,c2,c3,hA,ho,_,_,hrow,_,hne⟩:=h1.cells
 obtain⟨g,c',he,_,hc1,hc2⟩:=own_some ho.1 (by omega)
 injection he with e1 _ e3
 subst e1 e3
 have hgs:ge=some g:=ho.2.symm
 refine⟨g,c,c0,c1,c2,hc1,hc2,(own_row ho.1).cell (intsV_get ent k hk),ho.1.frozenAt _,(by rintro rfl;exact hne hgs),fun n=> ?_⟩
 have hne1:lb≠g:=by rintro rfl;exact hne hgs
 have hl:LstO (w.setCell ⟨g,k,none⟩ (.int .i64 n)) lb tb sb ge (ent.set k n) on:=by
  refine⟨.slice (some ⟨g,0,none⟩) ent.length c,(heap_setCell_other _ _ _ _ hne1).trans hrow,⟨?_,hgs.symm⟩,hne⟩
  rw[List.length_set]
  exact ownrow_set ho.1 k n
 exact LI.lst_step h2 h3 (by rw[List.length_set];exact h4) hl ((Keeps.refl _ _).set (p:=⟨g,k,none⟩) (.inl (.inr hgs)) _) (fun k hk=> .inl hk)
end
end Go.Proofs.YtgepobccoffnaaaGreatDoor
namespace Go.Proofs.YtgepobccoffnaaaGreatDoor
open Go.RowKit Mem
section
variable {w0 w w':World} {B B' tb sb lb:Nat} {ex:Nat→Prop} {T T':TreeD} {l l' ent ent':List Int} {on on':Bool}
theorem LI.less {ex':Nat→Prop} (h:LI w0 B tb sb lb ex T l ent on w) (he: ∀k,ex' k→ex k):LI w0 B tb sb lb ex' T l ent on w :=
 h.foreign (F:=fun _=>False) (Keeps.refl _ _) (fun _ h=>h.elim) fun k hk=>⟨.inl (he k hk),h.exlt k (he k hk)⟩
theorem turn_li (h:LI w0 B tb sb lb ex T l ent on w) (f b:Int) (hl:l.length<1000000) (he:ent.length<1000000) (hf:f∈ent) (h0:0≤rfind l f) (hfb:rfind l f<rfind l b) :
 Calls Tryz.prog 222 #[.pointer (some ⟨lb,0,none⟩),.int .i64 f,.int .i64 b] w fun e w' =>
  e= .returned (.int .i64 (turnL T l ent on f b).2.2.2)∧LI w0 B tb sb lb ex (turnL T l ent on f b).1 (turnL T l ent on f b).2.1 (turnL T l ent on f b).2.2.1 on w'∧Keeps (Own w0 ex) w w':=by
 obtain⟨sa,sc,c0,c1,_⟩:=h.cells
 have HL:=Lib.hid h
 have HAll:=Lib.hid (SAll_li h)
 have hbl:=between_len l f b hfb h0
 obtain⟨i,hi⟩:=Int.eq_ofNat_of_zero_le h0
 obtain⟨Bt,hB⟩: ∃Bt,Bt=betweenF l f b:=⟨_,rfl⟩
 have HG:=Lib.hid (fun k (hk:k<(betweenF l f b).length)=>between_get l f b k hk)
 have HNE:=Lib.hid (fun k (hk:k<(betweenF l f b).length)=>between_ne l f b k hk)
 have HT:Hid (turnL T l ent on f b=if(turnR b (betweenF l f b).reverse 1 ⟨T,l,ent,rfind ent f,b⟩).2=0 then
  closeL (putE (turnR b (betweenF l f b).reverse 1 ⟨T,l,ent,rfind ent f,b⟩).1.T (if underF l f≠0 then placeQ (turnR b (betweenF l f b).reverse 1 ⟨T,l,ent,rfind ent f,b⟩).1.T (turnR b (betweenF l f b).reverse 1 ⟨T,l,ent,rfind ent f,b⟩).1.l on (underF l f)else(0,0)).1 (if underF l f≠0 then placeQ (turnR b (betweenF l f b).reverse 1 ⟨T,l,ent,rfind ent f,b⟩).1.T (turnR b (betweenF l f b).reverse 1 ⟨T,l,ent,rfind ent f,b⟩).1.l on (underF l f)else(0,0)).2 (turnR b (betweenF l f b).reverse 1 ⟨T,l,ent,rfind ent f,b⟩).1.last).1 (turnR b (betweenF l f b).reverse 1 ⟨T,l,ent,rfind ent f,b⟩).1.l (turnR b (betweenF l f b).reverse 1 ⟨T,l,ent,rfind ent f,b⟩).1.ent f b (turnR b (betweenF l f b).reverse 1 ⟨T,l,ent,rfind ent f,b⟩).1.keep
  else((turnR b (betweenF l f b).reverse 1 ⟨T,l,ent,rfind ent f,b⟩).1.T,(turnR b (betweenF l f b).reverse 1 ⟨T,l,ent,rfind ent f,b⟩).1.l,(turnR b (betweenF l f b).reverse 1 ⟨T,l,ent,rfind ent f,b⟩).1.ent,(turnR b (betweenF l f b).reverse 1 ⟨T,l,ent,rfind ent f,b⟩).2)):=Lib.hid rfl
 rw[←hB]at HG HNE HT hbl
 have HU:Hid (underF l f=if 0<i then l.getD (i-1) 0 else 0):=Lib.hid (by
  rw[underF,hi]
  have:(0:Int)<(i:Int)↔0<i:=by omega
  simp only[this]
  rfl)
 have hFf: ∀u,LI w0 B tb sb lb ex T l ent on u→Calls Tryz.prog 160 #[.pointer (some ⟨sb,0,none⟩),.int .i64 f] u fun e w'=>e= .returned (.int .i64 i)∧u=w':=fun u hu=>by
  have:=SFind_li hu f
  rw[hi]at this
  exact this
 have hFb: ∀u,LI w0 B tb sb lb ex T l ent on u→Calls Tryz.prog 160 #[.pointer (some ⟨sb,0,none⟩),.int .i64 b] u fun e w'=>e= .returned (.int .i64 ((i:Int)+1+Bt.length))∧u=w':=fun u hu=>by
  have:=SFind_li hu b
  rw[←hbl,hi]at this
  exact this
 have HFf:=Lib.hid hFf
 have HFb:=Lib.hid hFb
 have HFe:=Lib.hid (fun u (hu:LI w0 B tb sb lb ex T l ent on u)=>find_li hu f)
 have hkeep:=mem_rfind.2 hf
 have hkl:=(rfind_spec ent f).2.1
 have hil:i+1+Bt.length<l.length:=by
  have:=(rfind_spec l b).2.1
  omega
 rw[hi]at HG
 rw[show((i:Int)).toNat=i from rfl]at HG
 have HF:=Lib.hid hf
 clear h hB hFf hFb hbl hi h0 hfb hf
 generalize underF l f=un at *
 go_enter Tryz.func222,Tryz.ntmps222
 go_upto_if 32 with(first|(go_at_call 105;go_must (refine HAll.out.mono ?_;rintro e w1 ⟨v,rfl,ho,hb⟩;obtain⟨g1,m1,rfl,_,hm1,hm2⟩:=own_some ho (by omega);have HA:=Lib.hid (own_row ho).at;have HG1:=Lib.hid (ho.lt g1 rfl);have HB:=Lib.hid hb;have H1:=Lib.hid (HL.out.world hb);have d0:=cell_later hb c0;have d1:=cell_later hb c1;clear hb ho))|(go_at_call_of 160 (Value.int .i64 f);go_must (refine(HFf.out _ H1.out).mono ?_;rintro e w2 ⟨rfl,rfl⟩)))
 unfold maxLen at hm2
 go_cut [9]from 31 to 37 (fun s9 wx=>s9= .int .i64 un∧wx=w1)
 case first =>
  by_cases hi0:0<i
  ·obtain⟨j,rfl⟩: ∃j,i=j+1:=⟨i-1,by omega⟩
   have hjl:j<l.length:=by omega
   have hx:=HA.out.get (intsV_get l j hjl)
   rw[Nat.zero_add]at hx
   have hU:un=l[j]:=by
    rw[HU.out,if_pos hi0]
    simp[List.getD,List.getElem?_eq_getElem hjl]
   have HU2:=Lib.hid hU
   clear hU
   go_wp2_with fail
   go_meet
   exact⟨congrArg _ HU2.out.symm,rfl⟩
  ·have hU:un=0:=by rw[HU.out,if_neg hi0]
   have HU2:=Lib.hid hU
   obtain rfl:i=0:=by omega
   clear hU
   go_wp2_with fail
   go_meet
   exact⟨congrArg _ HU2.out.symm,rfl⟩
 case rest =>
 obtain⟨rfl,hwc⟩:=hcut
 subst hwc
 obtain⟨ex',hex⟩: ∃e:Nat→Prop,e=fun k=>ex k∨k=g1:=⟨_,rfl⟩
 have hL1:LI w0 B tb sb lb ex' T l ent on wc:=HL.out.foreign (F:=fun _=>False) (Keeps.ofBelow HB.out) (fun _ h=>h.elim) (fun k hk=>by
  rw[hex]at hk
  rcases hk with hk|hk
  ·exact⟨.inl hk,Nat.lt_of_lt_of_le (HL.out.exlt k hk) HB.out.size⟩
  ·rw[hk];exact⟨.inr HG1.out.1,HG1.out.2⟩)
 have HL1:=Lib.hid hL1
 have HA1:Hid (AtF (Own w0 ex') wc (some ⟨g1,0,none⟩) (intsV l)):=Lib.hid (AtF.of_new HA.out (fun b o s hb=>by
  cases hb
  exact fun hx=>hx.2 (by rw[hex];exact .inr rfl)))
 have HEX:Hid (∀k,ex k→ex' k):=Lib.hid (fun k hk=>by rw[hex];exact .inl hk)
 clear hL1 hex HA HL HU HAll
 generalize rfind ent f=kp0 at *
 go_wp2_with (first|(go_at_call 209;go_must (refine(HFe.out _ H1.out).mono ?_;rintro e w2 ⟨rfl,rfl⟩))|(go_at_call 160;go_must (refine(HFb.out _ H1.out).mono ?_;rintro e w2 ⟨rfl,rfl⟩)))
 go_loopw [10,11,12,13] (fun s10 s11 s12 s13 wr=> ∃(k c:Nat) (S:TS),k≤Bt.length∧s12= .int .i64 ((i:Int)+k)∧s13= .int .i64 c∧c+k=Bt.length+1∧s10= .int .i64 S.keep∧s11= .int .i64 S.last ∧
  Hid (LI w0 B tb sb lb ex' S.T S.l S.ent on wr)∧Hid (Keeps (Own w0 ex') wc wr)∧Hid (turnR b Bt.reverse 1 ⟨T,l,ent,kp0,b⟩=turnR b (Bt.take k).reverse c S)∧Hid (S.l.length≤l.length∧S.ent.length≤ent.length∧f∈S.ent∧0≤S.keep∧S.keep≤S.ent.length)) (fun _ _ s12 _ _=>(intOf s12-i).toNat)
 case atStart=>exact⟨Bt.length,1,⟨T,l,ent,kp0,b⟩,Nat.le_refl _,by go_num,rfl,by omega,rfl,rfl,HL1,Lib.hid (Keeps.refl _ _),Lib.hid (by rw[List.take_of_length_le (Nat.le_refl _)]),Lib.hid ⟨Nat.le_refl _,Nat.le_refl _,HF.out,hkeep,Int.le_of_lt hkl⟩⟩
 case round =>
  obtain⟨k,c,S,hk,rfl,rfl,hck,rfl,rfl,HLr,HKr,HV,HS⟩:=hrel
  obtain⟨T1,l1,e1,kp,la⟩:=S
  simp only at HLr HV HS ⊢
  obtain⟨_,_,e0,ec1,_⟩:=HLr.out.cells
  cases k with
  |zero =>
   have hq:turnR b Bt.reverse 1 ⟨T,l,ent,kp0,b⟩=(⟨T1,l1,e1,kp,la⟩,0):=HV.out
   obtain⟨p,hp⟩: ∃p:Int×Int,p=if un≠0 then placeQ T1 l1 on un else(0,0):=⟨_,rfl⟩
   have HT2:Hid (turnL T l ent on f b=closeL (putE T1 p.1 p.2 la).1 l1 e1 f b kp):=Lib.hid (by
    rw[HT.out,hq,hp]
    rfl)
   have hok:=keepF_ok HS.out.2.2.1 HS.out.2.2.2.1 HS.out.2.2.2.2
   have hl1:l1.length<1000000:=by have:=HS.out.1;omega
   have he1:e1.length<1000000:=by have:=HS.out.2.1;omega
   have HPut:Hid (∀u,LI w0 B tb sb lb ex' T1 l1 e1 on u→Calls Tryz.prog 155 #[.pointer (some ⟨tb,0,none⟩),.int .i64 p.1,.int .i64 p.2,.int .i64 la] u fun e w'=>e= .returned (.int .i64 (putE T1 p.1 p.2 la).2)∧LI w0 B tb sb lb ex' (putE T1 p.1 p.2 la).1 l1 e1 on w'∧Keeps (Own w0 ex') u w'):=Lib.hid (fun u hu=>Put_li hu _ _ _)
   have HCl:Hid (∀u,LI w0 B tb sb lb ex' (putE T1 p.1 p.2 la).1 l1 e1 on u→Calls Tryz.prog 233 #[.pointer (some ⟨lb,0,none⟩),.int .i64 f,.int .i64 b,.int .i64 kp] u fun e w' =>
    e= .returned (.int .i64 (closeL (putE T1 p.1 p.2 la).1 l1 e1 f b kp).2.2.2)∧LI w0 B tb sb lb ex' (closeL (putE T1 p.1 p.2 la).1 l1 e1 f b kp).1 (closeL (putE T1 p.1 p.2 la).1 l1 e1 f b kp).2.1 (closeL (putE T1 p.1 p.2 la).1 l1 e1 f b kp).2.2.1 on w'∧Keeps (Own w0 ex') u w'):=Lib.hid (fun u hu=>close_li hu f b kp hl1 he1 hok.1 hok.2)
   generalize putE T1 p.1 p.2 la=PT at *
   clear hq HT hok
   by_cases hun:un=0
   ·rw[if_neg (by simpa using hun)]at hp
    subst hp
    subst hun
    go_wp2_with fail
    refine(HPut.out _ HLr.out).mono ?_
    rintro e w4 ⟨rfl,h4,k4⟩
    have K4:=Lib.hid (HKr.out.trans k4)
    have H4:=Lib.hid h4
    clear h4 k4
    go_wp2_with fail
    refine(HCl.out _ H4.out).mono ?_
    rintro e w5 ⟨rfl,h5,k5⟩
    have K5:=Lib.hid (K4.out.trans k5)
    have H5:=Lib.hid h5
    clear h5 k5
    go_wp2_with fail
    go_ret
    rw[HT2.out]
    exact⟨rfl,H5.out.less HEX.out,(Keeps.ofBelow HB.out).trans (K5.out.mono fun _ _ hx=>⟨hx.1,fun hy=>hx.2 (HEX.out _ hy)⟩)⟩
   ·rw[if_pos hun]at hp
    have hun':(un==0)=false:=by simpa using hun
    have HPl:=Lib.hid (Place_li HLr.out un)
    rw[←hp]at HPl
    clear hp hun
    obtain⟨p1,p2⟩:=p
    go_wp2_with fail
    refine HPl.out.mono ?_
    rintro e w3 ⟨rfl,hb3⟩
    have HKr':=Lib.hid (HKr.out.trans (Keeps.ofBelow hb3))
    have HLr':=Lib.hid (HLr.out.world hb3)
    clear HLr HKr hb3 e0 ec1
    have HLr:=HLr'
    have HKr:=HKr'
    obtain⟨_,_,e0,ec1,_⟩:=HLr.out.cells
    go_wp2_with fail
    refine(HPut.out _ HLr.out).mono ?_
    rintro e w4 ⟨rfl,h4,k4⟩
    have K4:=Lib.hid (HKr.out.trans k4)
    have H4:=Lib.hid h4
    clear h4 k4
    go_wp2_with fail
    refine(HCl.out _ H4.out).mono ?_
    rintro e w5 ⟨rfl,h5,k5⟩
    have K5:=Lib.hid (K4.out.trans k5)
    have H5:=Lib.hid h5
    clear h5 k5
    go_wp2_with fail
    go_ret
    rw[HT2.out]
    exact⟨rfl,H5.out.less HEX.out,(Keeps.ofBelow HB.out).trans (K5.out.mono fun _ _ hx=>⟨hx.1,fun hy=>hx.2 (HEX.out _ hy)⟩)⟩
  |succ k =>
   have hkB:k<Bt.length:=by omega
   obtain⟨hm,hBk⟩:=HG.out k hkB
   have hne:=HNE.out k hkB
   have hcell:=(HA1.out.kept HKr.out).at.get (intsV_get l (i+1+k) hm)
   obtain⟨m,hmm⟩: ∃m,m=i+1+k:=⟨_,rfl⟩
   have HRV:Hid (turnR b Bt.reverse 1 ⟨T,l,ent,kp0,b⟩=turnR b (Bt[k]::(Bt.take k).reverse) c ⟨T1,l1,e1,kp,la⟩):=Lib.hid (by rw[←rev_step];exact HV.out)
   rw[hBk]at hne HRV
   obtain⟨x,hx⟩: ∃x,x=l[i+1+k]:=⟨_,rfl⟩
   rw[←hx]at hne HRV hcell
   rw[←hmm,Nat.zero_add]at hcell
   have hidx:((i:Int)+((k+1:Nat):Int))=((m:Nat):Int):=by omega
   rw[hidx]
   have hml:m<l.length:=by omega
   have him:(i:Int)<(m:Int):=by omega
   have hw1:IntKind.i64.wrap ((m:Int)-1)=(m:Int)-1:=by rw[IntKind.wrap_i64];omega
   have hc1:c≤1000001:=by omega
   have HFx:=Lib.hid (find_li HLr.out x)
   obtain⟨a1,a2,_,_⟩:=rfind_spec e1 x
   have HM:=Lib.hid hmm
   have HNx:=Lib.hid hne
   have hel:e1.length<1000000:=by have:=HS.out.2.1;omega
   have hll:l1.length<1000000:=by have:=HS.out.1;omega
   clear hBk hx HV hmm hidx hne hm
   by_cases h0:0≤rfind e1 x
   ·by_cases h3:3<c
    ·have HDr:=Lib.hid (drop_li HLr.out (rfind e1 x) a2)
     have HR2:Hid (turnR b Bt.reverse 1 ⟨T,l,ent,kp0,b⟩=turnR b (Bt.take k).reverse (c+1) ⟨T1,rmF l1 x,dropF e1 (rfind e1 x),if rfind e1 x<kp then kp-1 else kp,la⟩):=Lib.hid (by rw[HRV.out,turnR,if_pos h0,if_pos h3])
     have HRl:=Lib.hid (show(rmF l1 x).length≤l1.length from dropF_len l1 (rfind l1 x))
     have HDl:Hid (((dropF e1 (rfind e1 x)).length:Int)=e1.length-1):=Lib.hid (by
      rw[dropF,if_pos h0,List.length_eraseIdx,if_pos (by omega)]
      omega)
     have HMD:=Lib.hid (mem_drop HS.out.2.2.1 HNx.out)
     have hs4:=HS.out.2.2.2
     have hw2:IntKind.i64.wrap (kp-1)=kp-1:=by rw[IntKind.wrap_i64];omega
     generalize dropF e1 (rfind e1 x)=e2 at *
     generalize rfind e1 x=at0 at *
     have HH0:=Lib.hid hs4
     clear HRV hs4
     by_cases hk3:at0<kp
     all_goals
      first
       |rw[if_pos hk3]at HR2
       |rw[if_neg hk3]at HR2
      go_wp2_with (first|(go_at_call 209;go_must (refine HFx.out.mono ?_;rintro e w2 ⟨rfl,rfl⟩))|(go_at_call 208;go_must (refine HDr.out.mono ?_;rintro e w3 ⟨rfl,h3',k3⟩;obtain⟨_,_,e0',ec1',_⟩:=h3'.cells;have H3:=Lib.hid h3';have K3:=Lib.hid (HKr.out.trans k3);clear h3' k3)))
      refine(SRemove_li H3.out x).mono ?_
      rintro e w4 ⟨rfl,h4,k4⟩
      have H4:=Lib.hid h4
      have K4:=Lib.hid (K3.out.trans k4)
      clear h4 k4
      go_wp2_with fail
      go_roundw
      case rel =>
       refine⟨k,c+1,_,by omega,congrArg (Value.int .i64) (by have:=HM.out;omega),by go_num,by omega,?_,?_,?_,K4,HR2,?_⟩
       ·rfl
       ·rfl
       ·exact H4
       ·refine Lib.hid ⟨Nat.le_trans HRl.out HS.out.1,?_,HMD.out,?_,?_⟩
        ·have:=HDl.out;have:=HS.out.2.1;show e2.length≤_;omega
        ·have:=HH0.out;dsimp only;omega
        ·have:=HH0.out;have:=HDl.out;dsimp only;omega
      case measure=>simp[intOf];omega
    ·have HLk:=Lib.hid (Like_li HLr.out x)
     have HRC:Hid (turnR b Bt.reverse 1 ⟨T,l,ent,kp0,b⟩=if(likeF T1 x).2.2=0 then
      turnR b (Bt.take k).reverse (c+1) ⟨(putE (likeF T1 x).1 (likeF T1 x).2.1 0 la).1,swapF l1 x (likeF T1 x).2.1,e1.set (rfind e1 x).toNat (likeF T1 x).2.1,if la=b then rfind e1 x+1 else kp,(likeF T1 x).2.1⟩
      else(⟨(likeF T1 x).1,l1,e1,kp,la⟩,(likeF T1 x).2.2)):=Lib.hid (by rw[HRV.out,turnR,if_pos h0,if_neg h3])
     have HMS:=Lib.hid (fun n=>mem_set (n:=n) HS.out.2.2.1 HNx.out h0)
     generalize likeF T1 x=q at *
     obtain⟨T2,n,er⟩:=q
     simp only at HLk HRC
     obtain⟨j,hj⟩:=Int.eq_ofNat_of_zero_le h0
     rw[hj]at HFx HRC HMS a2
     rw[show((j:Int)).toNat=j from rfl]at HRC HMS
     have hje:j<e1.length:=by omega
     clear HRV hj h0 a1
     have h3c:(c:Int)≤3:=by omega
     by_cases her:er=0
     ·rw[if_pos her]at HRC
      subst her
      have hls:(swapF l1 x n).length=l1.length:=by
       unfold swapF
       split
       ·rw[List.length_set]
       ·rfl
      have HLS:=Lib.hid hls
      clear hls
      by_cases hlb:la=b
      all_goals
       first
        |rw[if_pos hlb]at HRC
        |rw[if_neg hlb]at HRC
       go_wp2_with (first|(go_at_call 209;go_must (refine HFx.out.mono ?_;rintro e w2 ⟨rfl,rfl⟩))|(go_at_call 231;go_must (refine HLk.out.mono ?_;rintro e w3 ⟨rfl,h3',k3⟩;obtain⟨g3,c3,z0,z1,z2,zc,zm,zx,zf,zne,hset⟩:=h3'.set j hje;obtain⟨_,_,y0,y1,_⟩:=(hset n).1.cells;have H4:=Lib.hid (hset n).1;have K4:=Lib.hid ((HKr.out.trans k3).trans (hset n).2);unfold maxLen at zm;clear h3' k3 hset)))
      ·skip
       refine(SSwap_li H4.out x n).mono ?_
       rintro e w5 ⟨rfl,h5,k5⟩
       obtain⟨_,_,v0,v1,_⟩:=h5.cells
       have H5:=Lib.hid h5
       have K5:=Lib.hid (K4.out.trans k5)
       subst hlb
       clear h5 k5
       go_wp2_with fail
       refine(Put_li H5.out n 0 la).mono ?_
       rintro e w6 ⟨rfl,h6,k6⟩
       have H6:=Lib.hid h6
       have K6:=Lib.hid (K5.out.trans k6)
       clear h6 k6
       go_wp2_with fail
       go_roundw
       case rel =>
        refine⟨k,c+1,_,by omega,congrArg (Value.int .i64) (by have:=HM.out;omega),by go_num,by omega,?_,?_,?_,K6,HRC,?_⟩
        ·rfl
        ·rfl
        ·exact H6
        ·refine Lib.hid ⟨?_,?_,HMS.out n,?_,?_⟩
         ·have:=HLS.out;have:=HS.out.1;dsimp only;omega
         ·have:=HS.out.2.1;dsimp only;rw[List.length_set];exact this
         ·have:=HS.out.2.2.2;dsimp only at this ⊢;omega
         ·have:=HS.out.2.2.2;dsimp only at this ⊢;rw[List.length_set];omega
       case measure=>simp[intOf];omega
      ·skip
       refine(SSwap_li H4.out x n).mono ?_
       rintro e w5 ⟨rfl,h5,k5⟩
       obtain⟨_,_,v0,v1,_⟩:=h5.cells
       have H5:=Lib.hid h5
       have K5:=Lib.hid (K4.out.trans k5)
       have hlb':(la==b)=false:=by simpa using hlb
       clear h5 k5
       go_wp2_with fail
       refine(Put_li H5.out n 0 la).mono ?_
       rintro e w6 ⟨rfl,h6,k6⟩
       have H6:=Lib.hid h6
       have K6:=Lib.hid (K5.out.trans k6)
       clear h6 k6
       go_wp2_with fail
       go_roundw
       case rel =>
        refine⟨k,c+1,_,by omega,congrArg (Value.int .i64) (by have:=HM.out;omega),by go_num,by omega,?_,?_,?_,K6,HRC,?_⟩
        ·rfl
        ·rfl
        ·exact H6
        ·refine Lib.hid ⟨?_,?_,HMS.out n,?_,?_⟩
         ·have:=HLS.out;have:=HS.out.1;dsimp only;omega
         ·have:=HS.out.2.1;dsimp only;rw[List.length_set];exact this
         ·have:=HS.out.2.2.2;dsimp only at this ⊢;omega
         ·have:=HS.out.2.2.2;dsimp only at this ⊢;rw[List.length_set];omega
       case measure=>simp[intOf];omega
     ·rw[if_neg her]at HRC
      have her':(er==0)=false:=by simpa using her
      have HT2:Hid (turnL T l ent on f b=(T2,l1,e1,er)):=Lib.hid (by rw[HT.out,HRC.out,if_neg her])
      clear HT HRC her
      go_wp2_with (first|(go_at_call 209;go_must (refine HFx.out.mono ?_;rintro e w2 ⟨rfl,rfl⟩))|(go_at_call 231;go_must (refine HLk.out.mono ?_;rintro e w3 ⟨rfl,h3',k3⟩;have H3:=Lib.hid h3';have K3:=Lib.hid (HKr.out.trans k3);clear h3' k3)))
      go_ret
      rw[HT2.out]
      exact⟨rfl,H3.out.less HEX.out,(Keeps.ofBelow HB.out).trans (K3.out.mono fun _ _ hx=>⟨hx.1,fun hy=>hx.2 (HEX.out _ hy)⟩)⟩
   ·have h1:rfind e1 x= -1:=by omega
    have HR2:Hid (turnR b Bt.reverse 1 ⟨T,l,ent,kp0,b⟩=turnR b (Bt.take k).reverse (c+1) ⟨T1,rmF l1 x,e1,kp,la⟩):=Lib.hid (by rw[HRV.out,turnR,if_neg h0])
    rw[h1]at HFx
    have HRl:=Lib.hid (show(rmF l1 x).length≤l1.length from dropF_len l1 (rfind l1 x))
    clear HRV h0 h1
    go_wp2_with (go_at_call 209;go_must (refine HFx.out.mono ?_;rintro e w2 ⟨rfl,rfl⟩))
    refine(SRemove_li HLr.out x).mono ?_
    rintro e w3 ⟨rfl,h3,k3⟩
    have H3:=Lib.hid h3
    have K3:=Lib.hid (HKr.out.trans k3)
    clear h3 k3
    go_wp2_with fail
    go_roundw
    case rel=>exact⟨k,c+1,⟨T1,rmF l1 x,e1,kp,la⟩,by omega,congrArg (Value.int .i64) (by have:=HM.out;omega),by go_num,by omega,rfl,rfl,H3,K3,HR2,Lib.hid ⟨Nat.le_trans HRl.out HS.out.1,HS.out.2⟩⟩
    case measure=>simp[intOf];omega
end
end Go.Proofs.YtgepobccoffnaaaGreatDoor
namespace Go.Proofs.YtgepobccoffnaaaGreatDoor
open Go.RowKit Mem
structure AS where
 T:TreeD
 l:List Int
 ent:List Int
noncomputable def adoptR (on:Bool) (name:ByteArray):Nat→Nat→AS→AS×Bool×Int
 |0,_,S=>(S,true,0)
 |r+1,t,S =>
  if findF S.T S.ent name=0 then(S,decide (0<t),0)
  else if rfind S.l (findF S.T S.ent name)<0 then({S with ent:=rmF S.ent (findF S.T S.ent name)},true,0)
  else if hasNodeF S.T S.l (findF S.T S.ent name)=false then(S,true,0)
  else if blockF S.T S.l (findF S.T S.ent name)=0 then(⟨S.T,S.l.take (rfind S.l (findF S.T S.ent name)).toNat,rmF S.ent (findF S.T S.ent name)⟩,true,0)
  else if(turnL S.T S.l S.ent on (findF S.T S.ent name) (blockF S.T S.l (findF S.T S.ent name))).2.2.2=0 then
   adoptR on name r (t+1) ⟨(turnL S.T S.l S.ent on (findF S.T S.ent name) (blockF S.T S.l (findF S.T S.ent name))).1,(turnL S.T S.l S.ent on (findF S.T S.ent name) (blockF S.T S.l (findF S.T S.ent name))).2.1,(turnL S.T S.l S.ent on (findF S.T S.ent name) (blockF S.T S.l (findF S.T S.ent name))).2.2.1⟩
  else(⟨(turnL S.T S.l S.ent on (findF S.T S.ent name) (blockF S.T S.l (findF S.T S.ent name))).1,(turnL S.T S.l S.ent on (findF S.T S.ent name) (blockF S.T S.l (findF S.T S.ent name))).2.1,(turnL S.T S.l S.ent on (findF S.T S.ent name) (blockF S.T S.l (findF S.T S.ent name))).2.2.1⟩,false,(turnL S.T S.l S.ent on (findF S.T S.ent name) (blockF S.T S.l (findF S.T S.ent name))).2.2.2)
noncomputable def adoptL (on:Bool) (name:ByteArray) (S:AS):AS×Bool×Int :=
 if namedF S.T (S.l.getLast?.getD 0) [name]&&decide (rfind S.ent (S.l.getLast?.getD 0)<0)then(⟨S.T,S.l.dropLast,S.ent⟩,true,0)else adoptR on name 8 0 S
theorem findR_mem (T:TreeD) (name:ByteArray): ∀l:List Int,findR T name l≠0→findR T name l∈l
 | [],h=>absurd rfl h
 |x::r,h=>by
  rw[findR]at h ⊢
  split
  ·exact List.mem_cons_self
  ·rename_i hx
   rw[if_neg hx]at h
   exact List.mem_cons_of_mem _ (findR_mem T name r h)
theorem findF_mem {T:TreeD} {ent:List Int} {name:ByteArray} (h:findF T ent name≠0):findF T ent name∈ent:=by
 have:=findR_mem T name _ h
 exact List.mem_of_mem_drop (List.mem_reverse.1 this)
theorem blockR_mem (T:TreeD): ∀l:List Int,blockR T l≠0→blockR T l∈l
 | [],h=>absurd rfl h
 |x::r,h=>by
  rw[blockR]at h ⊢
  split
  ·exact List.mem_cons_self
  ·rename_i hx
   rw[if_neg hx]at h
   exact List.mem_cons_of_mem _ (blockR_mem T r h)
theorem blockF_above {T:TreeD} {l:List Int} {f:Int} (h:blockF T l f≠0):rfind l f<rfind l (blockF T l f):=by
 have hm:=blockR_mem T _ h
 obtain⟨i,hi,he⟩:=List.getElem_of_mem hm
 rw[List.getElem_drop]at he
 have hs:=rfind_spec l f
 have hi':(rfind l f+1).toNat+i<l.length:=by
  rw[List.length_drop]at hi;omega
 rcases Int.lt_or_le (rfind l f) (rfind l (blockF T l f))with h'|h'
 ·exact h'
 ·have hb:=rfind_spec l (blockF T l f)
  exact absurd he (hb.2.2.1 _ hi' (by omega))
theorem rmF_len (l:List Int) (n:Int):(rmF l n).length≤l.length:=dropF_len _ _
theorem insF_len (l:List Int) (b n:Int):(insF l b n).length≤l.length+1:=by
 unfold insF
 split
 ·have:=rfind_spec l b
  rw[insAt_len _ _ _ (by omega)]
  exact Nat.le_refl _
 ·omega
theorem swapF_len (l:List Int) (o n:Int):(swapF l o n).length=l.length:=by
 unfold swapF
 split
 ·rw[List.length_set]
 ·rfl
theorem insAt_le (l:List Int) (i:Nat) (x:Int):(insAt l i x).length=l.length+1:=by
 simp only[insAt,List.length_append,List.length_take,List.length_cons,List.length_drop]
 omega
theorem turnR_len (b:Int): ∀(r:List Int) (c:Nat) (S:TS),(turnR b r c S).1.l.length≤S.l.length∧(turnR b r c S).1.ent.length≤S.ent.length
 | [],_,_=>⟨Nat.le_refl _,Nat.le_refl _⟩
 |x::r,c,S=>by
  rw[turnR]
  split
  ·split
   ·obtain⟨h1,h2⟩:=turnR_len b r (c+1) {S with ent:=dropF S.ent (rfind S.ent x),keep:=if rfind S.ent x<S.keep then S.keep-1 else S.keep,l:=rmF S.l x}
    exact⟨Nat.le_trans h1 (rmF_len _ _),Nat.le_trans h2 (dropF_len _ _)⟩
   ·split
    ·refine⟨Nat.le_trans (turnR_len b r (c+1) _).1 ?_,Nat.le_trans (turnR_len b r (c+1) _).2 ?_⟩
     ·exact Nat.le_of_eq (swapF_len _ _ _)
     ·exact Nat.le_of_eq (by simp)
    ·exact⟨Nat.le_refl _,Nat.le_refl _⟩
  ·obtain⟨h1,h2⟩:=turnR_len b r (c+1) {S with l:=rmF S.l x}
   exact⟨Nat.le_trans h1 (rmF_len _ _),h2⟩
theorem closeL_len (T:TreeD) (l ent:List Int) (f b keep:Int):(closeL T l ent f b keep).2.1.length≤l.length+1∧(closeL T l ent f b keep).2.2.1.length≤ent.length+1:=by
 unfold closeL
 split
 ·refine⟨Nat.le_trans (insF_len _ _ _) (Nat.succ_le_succ (rmF_len _ _)),?_⟩
  show(insAt _ _ _).length≤_
  rw[insAt_le]
  exact Nat.succ_le_succ (dropF_len _ _)
 ·exact⟨Nat.le_succ _,Nat.le_succ _⟩
theorem turnL_len (T:TreeD) (l ent:List Int) (on:Bool) (f b:Int):(turnL T l ent on f b).2.1.length≤l.length+1∧(turnL T l ent on f b).2.2.1.length≤ent.length+1:=by
 obtain⟨h1,h2⟩:=turnR_len b (betweenF l f b).reverse 1 ⟨T,l,ent,rfind ent f,b⟩
 unfold turnL
 simp only
 split
 ·obtain⟨h3,h4⟩:=closeL_len (putE (turnR b (betweenF l f b).reverse 1 ⟨T,l,ent,rfind ent f,b⟩).1.T (if underF l f≠0 then placeQ (turnR b (betweenF l f b).reverse 1 ⟨T,l,ent,rfind ent f,b⟩).1.T (turnR b (betweenF l f b).reverse 1 ⟨T,l,ent,rfind ent f,b⟩).1.l on (underF l f)else(0,0)).1 (if underF l f≠0 then placeQ (turnR b (betweenF l f b).reverse 1 ⟨T,l,ent,rfind ent f,b⟩).1.T (turnR b (betweenF l f b).reverse 1 ⟨T,l,ent,rfind ent f,b⟩).1.l on (underF l f)else(0,0)).2 (turnR b (betweenF l f b).reverse 1 ⟨T,l,ent,rfind ent f,b⟩).1.last).1 (turnR b (betweenF l f b).reverse 1 ⟨T,l,ent,rfind ent f,b⟩).1.l (turnR b (betweenF l f b).reverse 1 ⟨T,l,ent,rfind ent f,b⟩).1.ent f b (turnR b (betweenF l f b).reverse 1 ⟨T,l,ent,rfind ent f,b⟩).1.keep
  exact⟨Nat.le_trans h3 (Nat.succ_le_succ h1),Nat.le_trans h4 (Nat.succ_le_succ h2)⟩
 ·exact⟨Nat.le_trans h1 (Nat.le_succ _),Nat.le_trans h2 (Nat.le_succ _)⟩
theorem pop_step {l:List Int} {f:Int} {k:Nat} (h0:0≤rfind l f) (hk:(rfind l f).toNat<k+1) (hkl:k<l.length):(l[k]=f↔k=(rfind l f).toNat):=by
 obtain⟨h1,h2,h3,h4⟩:=rfind_spec l f
 constructor
 ·intro e
  rcases Nat.lt_or_ge (rfind l f).toNat k with h|h
  ·exact absurd e (h3 k hkl (by omega))
  ·omega
 ·intro e
  exact h4 k hkl (by omega)
end Go.Proofs.YtgepobccoffnaaaGreatDoor
namespace Go.Proofs.YtgepobccoffnaaaGreatDoor
open Go.RowKit Mem
section
variable {w0 w w':World} {B B' tb sb lb:Nat} {ex:Nat→Prop} {T T':TreeD} {l l' ent ent':List Int} {on on':Bool}
theorem Adopt_li (h:LI w0 B tb sb lb ex T l ent on w) (name:ByteArray) (hl:l.length+10<1000000) (he:ent.length+10<1000000) :
 Calls Tryz.prog 207 #[.pointer (some ⟨lb,0,none⟩),.string name] w fun e w' =>
  e= .returned (.tuple #[.bool (adoptL on name ⟨T,l,ent⟩).2.1,.int .i64 (adoptL on name ⟨T,l,ent⟩).2.2])∧LI w0 B tb sb lb ex (adoptL on name ⟨T,l,ent⟩).1.T (adoptL on name ⟨T,l,ent⟩).1.l (adoptL on name ⟨T,l,ent⟩).1.ent on w'∧Keeps (Own w0 ex) w w':=by
 obtain⟨sa,sc,c0,c1,_⟩:=h.cells
 have HL:=Lib.hid h
 have HTop:Hid (∀u,LI w0 B tb sb lb ex T l ent on u→Calls Tryz.prog 50 #[.pointer (some ⟨sb,0,none⟩)] u fun e w'=>e= .returned (.int .i64 (l.getLast?.getD 0))∧ ∃q,w'=u.drewN q):=Lib.hid (fun u hu=>STop_li hu)
 have HNm:Hid (∀u,LI w0 B tb sb lb ex T l ent on u→Calls Tryz.prog 197 #[.pointer (some ⟨lb,0,none⟩),.int .i64 (l.getLast?.getD 0),.slice (some ⟨u.heap.size,0,none⟩) 1 1] (u.alloc (.cells #[.string name] 9)) fun e w'=>e= .returned (.bool (namedF T (l.getLast?.getD 0) [name]))∧Below u.heap.size u w'):=Lib.hid (fun u hu=>named1_li hu _ name)
 have HFe:Hid (∀u,LI w0 B tb sb lb ex T l ent on u→Calls Tryz.prog 209 #[.pointer (some ⟨lb,0,none⟩),.int .i64 (l.getLast?.getD 0)] u fun e w'=>e= .returned (.int .i64 (rfind ent (l.getLast?.getD 0)))∧u=w'):=Lib.hid (fun u hu=>find_li hu _)
 have HPop:Hid (∀u,LI w0 B tb sb lb ex T l ent on u→Calls Tryz.prog 64 #[.pointer (some ⟨sb,0,none⟩)] u fun e w'=>e= .returned (.int .i64 (l.getLast?.getD 0))∧LI w0 B tb sb lb ex T l.dropLast ent on w'∧Keeps (Own w0 ex) u w'):=Lib.hid (fun u hu=>SPop_li hu)
 have HA:Hid (adoptL on name ⟨T,l,ent⟩=if namedF T (l.getLast?.getD 0) [name]&&decide (rfind ent (l.getLast?.getD 0)<0)then(⟨T,l.dropLast,ent⟩,true,0)else adoptR on name 8 0 ⟨T,l,ent⟩):=Lib.hid rfl
 have hrf:=(rfind_spec ent (l.getLast?.getD 0)).1
 generalize l.getLast?.getD 0=top at *
 generalize rfind ent top=rt at *
 clear h
 go_enter Tryz.func207,Tryz.ntmps207
 obtain⟨cnd,hcnd⟩: ∃cnd,cnd=(namedF T top [name]&&decide (rt<0)):=⟨_,rfl⟩
 rw[←hcnd]at HA
 go_upto_region 1 with fail
 go_cut [28]from 10 to 28 (fun s28 wx=>s28= .bool cnd∧Hid (Below w.heap.size w wx))
 case first =>
  go_wp2_with (go_at_call 50;fail)
  refine(HTop.out _ HL.out).mono ?_
  rintro e w1 ⟨rfl,q,rfl⟩
  have H1:=Lib.hid (HL.out.world (stk_drewN w q))
  have KB1:=Lib.hid (stk_drewN w q)
  have d1:=(show(w.drewN q).cell? ⟨lb,1,none⟩=some (.pointer (some ⟨sb,0,none⟩))from c1)
  clear c0 c1
  generalize w.drewN q=w1 at *
  cases hnm:namedF T top [name]
  ·rw[hnm]at HNm hcnd
   have hc2:cnd=false:=hcnd
   clear hcnd
   subst hc2
   go_wp2_with (go_at_call 197;go_must (refine(HNm.out _ H1.out).mono ?_;rintro e w2 ⟨rfl,hb2⟩;have KB2:=Lib.hid (belowCall KB1.out hb2);clear hb2))
   go_meet
   exact⟨rfl,KB2⟩
  ·rw[hnm]at HNm hcnd
   have hc2:cnd=decide (rt<0):=hcnd
   clear hcnd
   subst hc2
   go_wp2_with (go_at_call 197;fail)
   refine(HNm.out _ H1.out).mono ?_
   rintro e w2 ⟨rfl,hb2⟩
   have H2:=Lib.hid (H1.out.world hb2)
   have e1:=cell_later hb2 d1
   have KB2:=Lib.hid (belowCall KB1.out hb2)
   clear hb2 d1 H1 KB1
   go_wp2_with (go_at_call 50;fail)
   refine(HTop.out _ H2.out).mono ?_
   rintro e w3 ⟨rfl,q3,rfl⟩
   have H3:=Lib.hid (H2.out.world (stk_drewN w2 q3))
   have KB3:=Lib.hid (belowCall KB2.out (stk_drewN w2 q3))
   clear e1 H2 KB2
   generalize w2.drewN q3=w3 at *
   go_wp2_with (first|(go_at_call 209;go_must (refine(HFe.out _ H3.out).mono ?_;rintro e w4 ⟨rfl,rfl⟩)))
   go_meet
   exact⟨rfl,KB3⟩
 case rest =>
 obtain⟨rfl,HBc⟩:=hcut
 have HLc:=Lib.hid (HL.out.world HBc.out)
 have d0:=cell_later HBc.out c0
 have d1:=cell_later HBc.out c1
 clear hcnd HTop HNm HFe HL c0 c1
 cases cnd
 ·have HA2:Hid (adoptL on name ⟨T,l,ent⟩=adoptR on name 8 0 ⟨T,l,ent⟩):=Lib.hid (by rw[HA.out];rfl)
  clear HA HPop
  go_wp2_with fail
  go_loopw [6] (fun s6 wr=> ∃(t:Nat) (S:AS),t≤8∧s6= .int .i64 t∧Hid (LI w0 B tb sb lb ex S.T S.l S.ent on wr)∧Hid (Keeps (Own w0 ex) w wr)∧Hid (adoptR on name 8 0 ⟨T,l,ent⟩=adoptR on name (8-t) t S)∧Hid (S.l.length≤l.length+t∧S.ent.length≤ent.length+t)) (fun s6 _=>8-(intOf s6).toNat)
  case atStart=>exact⟨0,⟨T,l,ent⟩,by omega,rfl,HLc,Lib.hid (Keeps.ofBelow HBc.out),Lib.hid rfl,Lib.hid ⟨Nat.le_refl _,Nat.le_refl _⟩⟩
  case round =>
   obtain⟨t,S,ht,rfl,HLr,HKr,HV,HS⟩:=hrel
   obtain⟨T1,l1,e1⟩:=S
   simp only at HLr HV HS ⊢
   obtain⟨_,_,g0,g1,_⟩:=HLr.out.cells
   by_cases hlt:t<8
   ·obtain⟨r,hr⟩: ∃r,8-t=r+1:=⟨7-t,by omega⟩
    have HFi:=Lib.hid (Find_li HLr.out name)
    have HR:Hid (adoptR on name 8 0 ⟨T,l,ent⟩=if findF T1 e1 name=0 then(⟨T1,l1,e1⟩,decide (0<t),0)
     else if rfind l1 (findF T1 e1 name)<0 then(⟨T1,l1,rmF e1 (findF T1 e1 name)⟩,true,0)
     else if hasNodeF T1 l1 (findF T1 e1 name)=false then(⟨T1,l1,e1⟩,true,0)
     else if blockF T1 l1 (findF T1 e1 name)=0 then(⟨T1,l1.take (rfind l1 (findF T1 e1 name)).toNat,rmF e1 (findF T1 e1 name)⟩,true,0)
     else if(turnL T1 l1 e1 on (findF T1 e1 name) (blockF T1 l1 (findF T1 e1 name))).2.2.2=0 then
      adoptR on name r (t+1) ⟨(turnL T1 l1 e1 on (findF T1 e1 name) (blockF T1 l1 (findF T1 e1 name))).1,(turnL T1 l1 e1 on (findF T1 e1 name) (blockF T1 l1 (findF T1 e1 name))).2.1,(turnL T1 l1 e1 on (findF T1 e1 name) (blockF T1 l1 (findF T1 e1 name))).2.2.1⟩
     else(⟨(turnL T1 l1 e1 on (findF T1 e1 name) (blockF T1 l1 (findF T1 e1 name))).1,(turnL T1 l1 e1 on (findF T1 e1 name) (blockF T1 l1 (findF T1 e1 name))).2.1,(turnL T1 l1 e1 on (findF T1 e1 name) (blockF T1 l1 (findF T1 e1 name))).2.2.1⟩,false,(turnL T1 l1 e1 on (findF T1 e1 name) (blockF T1 l1 (findF T1 e1 name))).2.2.2)):=Lib.hid (by rw[HV.out,hr];rfl)
    have HMem:=Lib.hid (fun h:findF T1 e1 name≠0=>findF_mem h)
    have hHR:=Lib.hid hr
    clear HV hr
    generalize findF T1 e1 name=f at *
    by_cases hf:f=0
    ·rw[if_pos hf]at HR
     subst hf
     go_wp2_with (go_at_call 166;go_must (refine HFi.out.mono ?_;rintro e w2 ⟨rfl,hb2⟩;have H2:=Lib.hid (HLr.out.world hb2);have K2:=Lib.hid (HKr.out.trans (Keeps.ofBelow hb2));clear hb2))
     go_ret2
     rw[HA2.out,HR.out]
     refine⟨?_,H2.out,K2.out⟩
     simp
    rw[if_neg hf]at HR
    have hf':(f==0)=false:=by simpa using hf
    have HM:=Lib.hid (HMem.out hf)
    clear HMem hf
    have hr1:=(rfind_spec l1 f).1
    go_wp2_with (go_at_call 166;go_must (refine HFi.out.mono ?_;rintro e w2 ⟨rfl,hb2⟩;have H2:=Lib.hid (HLr.out.world hb2);have K2:=Lib.hid (HKr.out.trans (Keeps.ofBelow hb2));have j0:=cell_later hb2 g0;have j1:=cell_later hb2 g1;have HSF:=Lib.hid (SFind_li H2.out f);clear hb2))
    by_cases hr0:rfind l1 f<0
    ·rw[if_pos hr0]at HR
     have HRm:=Lib.hid (Remove_li H2.out f)
     generalize rfind l1 f=rf at *
     refine HSF.out.mono ?_
     rintro e w3 ⟨rfl,rfl⟩
     go_wp2_with fail
     refine HRm.out.mono ?_
     rintro e w4 ⟨rfl,h4,k4⟩
     have H4:=Lib.hid h4
     have K4:=Lib.hid (K2.out.trans k4)
     clear h4 k4
     go_wp2_with fail
     go_ret2
     rw[HA2.out,HR.out]
     exact⟨rfl,H4.out,K4.out⟩
    rw[if_neg hr0]at HR
    have HHN:=Lib.hid (HasNode_li H2.out f)
    have h00:0≤rfind l1 f:=by omega
    have HBk:Hid (∀u,LI w0 B tb sb lb ex T1 l1 e1 on u→Calls Tryz.prog 221 #[.pointer (some ⟨lb,0,none⟩),.int .i64 f] u fun e w'=>e= .returned (.int .i64 (blockF T1 l1 f))∧Below u.heap.size u w'):=Lib.hid (fun u hu=>block_li hu f h00)
    have HTn:Hid (blockF T1 l1 f≠0→ ∀u,LI w0 B tb sb lb ex T1 l1 e1 on u→Calls Tryz.prog 222 #[.pointer (some ⟨lb,0,none⟩),.int .i64 f,.int .i64 (blockF T1 l1 f)] u fun e w' =>
     e= .returned (.int .i64 (turnL T1 l1 e1 on f (blockF T1 l1 f)).2.2.2)∧LI w0 B tb sb lb ex (turnL T1 l1 e1 on f (blockF T1 l1 f)).1 (turnL T1 l1 e1 on f (blockF T1 l1 f)).2.1 (turnL T1 l1 e1 on f (blockF T1 l1 f)).2.2.1 on w'∧Keeps (Own w0 ex) u w'):=Lib.hid (fun hb u hu =>
      turn_li hu f _ (by have:=HS.out.1;omega) (by have:=HS.out.2;omega) HM.out h00 (blockF_above hb))
    have HTl:=Lib.hid (turnL_len T1 l1 e1 on f (blockF T1 l1 f))
    have HRs:=Lib.hid (rfind_spec l1 f)
    have hl1l:rfind l1 f<l1.length:=(rfind_spec l1 f).2.1
    refine HSF.out.mono ?_
    rintro e w3 ⟨rfl,rfl⟩
    cases hhn:hasNodeF T1 l1 f
    ·rw[hhn,if_pos rfl]at HR
     rw[hhn]at HHN
     generalize rfind l1 f=rf at *
     go_wp2_with (go_at_call 220;go_must (refine HHN.out.mono ?_;rintro e w4 ⟨rfl,hb4⟩;have H4:=Lib.hid (H2.out.world hb4);have K4:=Lib.hid (K2.out.trans (Keeps.ofBelow hb4));clear hb4))
     go_ret2
     rw[HA2.out,HR.out]
     exact⟨rfl,H4.out,K4.out⟩
    rw[hhn,if_neg (by simp)]at HR
    rw[hhn]at HHN
    obtain⟨b,hb⟩: ∃b,b=blockF T1 l1 f:=⟨_,rfl⟩
    rw[←hb]at HR HBk HTn HTl
    obtain⟨p,hp⟩:=Int.eq_ofNat_of_zero_le h00
    have HPS:=Lib.hid (fun k (hk:(rfind l1 f).toNat<k+1) (hkl:k<l1.length)=>pop_step (f:=f) h00 hk hkl)
    rw[hp]at HR HPS hl1l
    rw[show((p:Int)).toNat=p from rfl]at HR HPS
    have hpl:p<l1.length:=by omega
    have hd0:decide ((p:Int)<0)=false:=decide_eq_false (by omega)
    rw[hp]
    clear hb hp h00 hr0 hr1 hl1l HRs HSF hhn
    go_wp2_with (first|(go_at_call 220;go_must (refine HHN.out.mono ?_;rintro e w4 ⟨rfl,hb4⟩;have H4:=Lib.hid (H2.out.world hb4);have K4:=Lib.hid (K2.out.trans (Keeps.ofBelow hb4));have i0:=cell_later hb4 j0;have i1:=cell_later hb4 j1;clear hb4))|(go_at_call 221;fail))
    refine(HBk.out _ H4.out).mono ?_
    rintro e w5 ⟨rfl,hb5⟩
    have H5:=Lib.hid (H4.out.world hb5)
    have K5:=Lib.hid (K4.out.trans (Keeps.ofBelow hb5))
    have v0:=cell_later hb5 i0
    have v1:=cell_later hb5 i1
    clear hb5 i0 i1 j0 j1 g0 g1 H4 K4 H2 K2 HBk HHN
    by_cases hb0:b=0
    ·rw[if_pos hb0]at HR
     subst hb0
     clear HTn HTl
     have HR2:Hid (adoptR on name 8 0 ⟨T,l,ent⟩=(⟨T1,l1.take p,rmF e1 f⟩,true,0)):=HR
     clear HR
     obtain⟨n0,hn0⟩: ∃n0,l1.length=p+n0+1:=⟨l1.length-p-1,by omega⟩
     have HN0:=Lib.hid hn0
     clear hn0
     go_wp2_with fail
     go_loopg [] n0 (fun gk wr=>Hid (gk≤n0∧LI w0 B tb sb lb ex T1 (l1.take (p+gk+1)) e1 on wr∧Keeps (Own w0 ex) w wr))
     case atStart=>exact Lib.hid ⟨Nat.le_refl _,by rw[←HN0.out,List.take_of_length_le (Nat.le_refl _)];exact H5.out,K5.out⟩
     case round =>
      have HX:=hrel
      clear hrel v0 v1 H5 K5 HLr HKr HFi
      have hkl:p+gk<l1.length:=by have:=HN0.out;have:=HX.out.1;omega
      obtain⟨_,_,v0,v1,_⟩:=HX.out.2.1.cells
      have HPp:=Lib.hid (SPop_li HX.out.2.1)
      have htl:=take_last hkl
      have hps:=HPS.out (p+gk) (by omega) hkl
      rw[htl.1,htl.2]at HPp
      obtain⟨x,hx⟩: ∃x,x=l1[p+gk]:=⟨_,rfl⟩
      rw[←hx]at HPp hps
      clear htl hx
      go_wp2_with fail
      refine HPp.out.mono ?_
      rintro e w7 ⟨rfl,h7,k7⟩
      have H7:=Lib.hid h7
      have K7:=Lib.hid (HX.out.2.2.trans k7)
      cases gk with
      |zero =>
       have hxf:x=f:=hps.2 rfl
       have hxf':(x !=f)=false:=by simp[hxf]
       have HRm:=Lib.hid (Remove_li h7 f)
       clear h7 k7 hps hxf
       go_wp2_with fail
       refine HRm.out.mono ?_
       rintro e w8 ⟨rfl,h8,k8⟩
       have H8:=Lib.hid h8
       have K8:=Lib.hid (K7.out.trans k8)
       clear h8 k8
       go_wp2_with fail
       go_ret2
       rw[HA2.out,HR2.out]
       exact⟨rfl,H8.out,K8.out⟩
      |succ j =>
       have hxf:x≠f:=fun e=>by have:=hps.1 e;omega
       have hxf':(x !=f)=true:=by simpa using hxf
       clear h7 k7 hps hxf
       go_wp2_with fail
       go_roundg j
       case measure=>omega
       case rel=>exact Lib.hid ⟨by have:=HX.out.1;omega,H7.out,K7.out⟩
    ·rw[if_neg hb0]at HR
     have hb0':(b==0)=false:=by simpa using hb0
     have HTn2:=Lib.hid (HTn.out hb0)
     clear HTn hb0 HPS
     generalize turnL T1 l1 e1 on f b=q at *
     obtain⟨T2,l2,e2,er⟩:=q
     simp only at HR HTn2 HTl
     go_wp2_with (go_at_call 222;fail)
     refine(HTn2.out _ H5.out).mono ?_
     rintro e w6 ⟨rfl,h6,k6⟩
     have H6:=Lib.hid h6
     have K6:=Lib.hid (K5.out.trans k6)
     clear h6 k6
     by_cases her:er=0
     ·rw[if_pos her]at HR
      subst her
      go_wp2_with fail
      go_roundw
      case rel=>exact⟨t+1,⟨T2,l2,e2⟩,by omega,by go_num,H6,K6,Lib.hid (by rw[HR.out,show 8-(t+1)=r by have:=hHR.out;omega]),Lib.hid ⟨by have:=HTl.out.1;have:=HS.out.1;dsimp only;omega,by have:=HTl.out.2;have:=HS.out.2;dsimp only;omega⟩⟩
      case measure=>simp[intOf];omega
     ·rw[if_neg her]at HR
      have her':(er==0)=false:=by simpa using her
      go_wp2_with fail
      go_ret2
      rw[HA2.out,HR.out]
      exact⟨rfl,H6.out,K6.out⟩
   ·obtain rfl:t=8:=by omega
    have HV2:Hid (adoptR on name 8 0 ⟨T,l,ent⟩=(⟨T1,l1,e1⟩,true,0)):=Lib.hid (by rw[HV.out];rfl)
    go_wp2_with fail
    go_ret2
    rw[HA2.out,HV2.out]
    exact⟨rfl,HLr.out,HKr.out⟩
 ·have HA2:Hid (adoptL on name ⟨T,l,ent⟩=(⟨T,l.dropLast,ent⟩,true,0)):=Lib.hid (by rw[HA.out];rfl)
  go_wp2_with fail
  refine(HPop.out _ HLc.out).mono ?_
  rintro e w5 ⟨rfl,h5,k5⟩
  have H5:=Lib.hid h5
  have K5:=Lib.hid ((Keeps.ofBelow HBc.out).trans k5)
  clear h5 k5
  go_wp2_with fail
  go_ret2
  rw[HA2.out]
  exact⟨rfl,H5.out,K5.out⟩
end
end Go.Proofs.YtgepobccoffnaaaGreatDoor
end
