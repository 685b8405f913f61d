/- Texts joined for a claim: RfD, RfQQ, StkDG, ShelfB: plain laws and contracts. No conditions beyond those that each lemma types. -/
import Derived.Test.YtgepobccoffnaaaGreatDoorT01
import Derived.Test.YtgepobccoffnaaaGreatDoorT02
import Derived.Test.YtgepobccoffnaaaGreatDoorT05
import Derived.Test.YtgepobccoffnaaaGreatDoorT06
import Derived.Test.YtgepobccoffnaaaGreatDoorT08
import Derived.Deep.RegionLaw
import Derived.StillTactics
import Derived.StillTail
import Derived.StillTailTactics
import Derived.Test.YtgepobccoffnaaaGreatDoorT07
import Derived.Deep.LoopGhost
import Derived.Deep.RegionHeld3
import Derived.Shelf.Slices.Cells
import Derived.Shelf.Spec.SlicesInsert
import Derived.Shelf.Spec.SlicesInsertGrow
import Derived.Test.YtgepobccoffnaaaGreatDoorRows
set_option linter.unusedVariables false
set_option linter.unusedSimpArgs false
set_option maxRecDepth 100000
set_option maxHeartbeats 8000000
section
namespace Go.Proofs.YtgepobccoffnaaaGreatDoor
open Go.RowKit Mem
def mvN (T:TreeD) (a b:Int) (P R:List Int) (i:Nat) (d:ND):ND :=
 {d with parent:=if(i:Int)∈P then b else d.parent,kids:=if(i:Int)=b then kidsF T b++P else if(i:Int)=a then R else d.kids}
def MV (T:TreeD) (a b:Int) (P R:List Int):TreeD:=⟨T.nodes.mapIdx (mvN T a b P R),T.most,T.far⟩
theorem MV_len (T:TreeD) (a b:Int) (P R:List Int):(MV T a b P R).nodes.length=T.nodes.length:=by simp[MV]
theorem MV_get (T:TreeD) (a b:Int) (P R:List Int) (i:Nat):(MV T a b P R).nodes[i]?=T.nodes[i]?.map (mvN T a b P R i):=by simp[MV]
theorem MV_kids {T:TreeD} {a b:Int} {P R:List Int} (i:Nat) (hi:i<T.nodes.length):kidsF (MV T a b P R) i=if(i:Int)=b then kidsF T b++P else if(i:Int)=a then R else kidsF T i:=by
 simp only[kidsF,Int.toNat_natCast,MV_get,List.getElem?_eq_getElem hi]
 rfl
theorem MV_parent {T:TreeD} {a b:Int} {P R:List Int} (i:Nat) (hi:i<T.nodes.length):parentF (MV T a b P R) i=if(i:Int)∈P then b else parentF T i:=by
 simp only[parentF,Int.toNat_natCast,MV_get,List.getElem?_eq_getElem hi]
 rfl
theorem MV_elem (T:TreeD) (a b:Int) (P R:List Int) (i:Int):elemF (MV T a b P R) i=elemF T i:=by
 have h:isF (MV T a b P R) i=isF T i:=by simp[isF,MV_len]
 simp only[elemF,h,MV_get]
 cases T.nodes[i.toNat]? <;>rfl
theorem MV_holds (T:TreeD) (a b:Int) (P R:List Int) (i:Int):holdsF (MV T a b P R) i=holdsF T i:=by simp only[holdsF,MV_elem]
theorem tree_ext {T U:TreeD} (hm:T.most=U.most) (hf:T.far=U.far) (h: ∀i:Nat,T.nodes[i]?=U.nodes[i]?):T=U:=by
 obtain⟨n1,m1,f1⟩:=T
 obtain⟨n2,m2,f2⟩:=U
 simp only[TreeD.mk.injEq]
 exact⟨List.ext_getElem? h,hm,hf⟩
theorem MV_zero (T:TreeD) (a b:Nat):MV T a b [] (kidsF T a)=T:=by
 refine tree_ext rfl rfl fun i=> ?_
 rw[MV_get]
 cases h:T.nodes[i]? with
 |none=>rfl
 |some d =>
  have hk:kidsF T i=d.kids:=by simp[kidsF,h]
  simp only[Option.map_some,mvN,List.not_mem_nil,if_false,List.append_nil,Option.some.injEq]
  cases d
  simp only[ND.mk.injEq,true_and]
  split
  ·rename_i e;rw[←e,hk]
  ·split
   ·rename_i e;rw[←e,hk]
   ·rfl
theorem MV_reach {T:TreeD} (hw:WF T) {a b:Nat} {P R:List Int} (hb:b<T.nodes.length) (hP: ∀x∈P,parentF T x=a∧1≤x) (hab:belowF T b a=false) {k:Int} (h:Reach (MV T a b P R) k b):Reach T k b:=by
 have hna: ¬Reach T a b:=by
  intro h
  rw[belowF_true h]at hab
  cases hab
 have key: ∀m:Int,Reach (MV T a b P R) k m→m<T.nodes.length→Reach T m b→Reach T k b:=by
  intro m hm
  induction hm with
  |here=>exact fun _ h=>h
  | @up m h0 _ ih =>
    intro hlt hr
    obtain⟨i,rfl⟩:=Int.eq_ofNat_of_zero_le (by omega:0≤m)
    have hi:i<T.nodes.length:=by omega
    have hnP: ¬(i:Int)∈P:=by
     intro hp
     have h2:=reach_more hr h0
     rw[(hP _ hp).1]at h2
     exact hna h2
    rw[MV_parent i hi,if_neg hnP]at ih
    exact ih (hw.par i hi).2 (reach_more hr h0)
 exact key b h (by omega) .here
theorem MV_put {T:TreeD} (hw:WF T) {a b k:Nat} {P R:List Int} (ha:a<T.nodes.length) (hb:b<T.nodes.length) (hL:kidsF T a=P++(k:Int)::R) (hhb:holdsF T b=true) (hab:belowF T b a=false) :
 putE (MV T a b P (k::R)) b 0 k=(MV T a b (P++ [(k:Int)]) R,0):=by
 have hne:a≠b:=by
  rintro rfl
  rw[belowF_true .here]at hab
  cases hab
 have hnd:=hw.nodup a ha
 have hkids:=hw.kid a ha
 rw[hL]at hnd hkids
 obtain⟨hk1,hk2,hk3⟩:=hkids k (by simp)
 have hkP: ¬(k:Int)∈P:=fun h=>by
  have:=(List.nodup_append.1 hnd).2.2 _ h (k:Int) (by simp)
  exact this rfl
 have hkR: ¬(k:Int)∈R:=(List.nodup_cons.1 (List.nodup_append.1 hnd).2.1).1
 have hkl:k<T.nodes.length:=by omega
 have hkb:k≠b:=by
  rintro rfl
  have h:=belowF_true (T:=T) (n:=(k:Int)) (top:=(a:Int)) (.up (by omega) (by rw[hk3];exact .here))
  rw[hab]at h
  cases h
 have hPall: ∀x∈P,parentF T x=a∧1≤x:=fun x hx=>by
  obtain⟨h1,_,h3⟩:=hkids x (List.mem_append_left _ hx)
  exact⟨h3,h1⟩
 have hok:putOk (MV T a b P (k::R)) b 0 k=true:=by
  simp only[putOk,Bool.and_eq_true,MV_holds,hhb,Bool.not_eq_true',decide_eq_true_eq,true_and,bne_iff_ne]
  refine⟨⟨⟨?_,by omega⟩,?_⟩,?_⟩
  ·simp only[isF,MV_len,Bool.and_eq_true,decide_eq_true_eq];omega
  ·rw[placeF,if_pos rfl];omega
  ·cases hbf:belowF (MV T a b P (k::R)) b k
   ·rfl
   ·exfalso
    have hr:Reach (MV T a b P (k::R)) (k:Int) (b:Int):=by simpa[belowF_dec] using hbf
    have h2:=MV_reach hw hb hPall hab hr
    have h3:=reach_more h2 (by omega)
    rw[hk3]at h3
    rw[belowF_true h3]at hab
    cases hab
 rw[putE,hok,if_pos rfl]
 have hpk:parentF (MV T a b P (k::R)) k=a:=by rw[MV_parent k hkl,if_neg hkP,hk3]
 have hka:kidsF (MV T a b P (k::R)) a=(k:Int)::R:=by rw[MV_kids a ha,if_neg (by omega),if_pos rfl]
 have hkb':kidsF (MV T a b P (k::R)) b=kidsF T b++P:=by rw[MV_kids b hb,if_pos rfl]
 have hfil:((k:Int)::R).filter (· !=(k:Int))=R:=by
  rw[List.filter_cons_of_neg (by simp)]
  exact List.filter_eq_self.2 fun x hx=>by
   rw[bne_iff_ne]
   rintro rfl
   exact hkR hx
 have hT1:kidsOff (MV T a b P (k::R)) k=modN (MV T a b P (k::R)) a (setKids R):=by
  rw[kidsOff,hpk,if_pos (by omega),hka,hfil]
 have hkb2:kidsF (takeF (MV T a b P (k::R)) k) b=kidsF T b++P:=by
  rw[takeF,hT1,kidsF_setParent _ k _ b (by rw[modN_len,MV_len];exact hb),kidsF_mod _ a _ b (by rw[MV_len];exact hb),if_neg hne,hkb']
 have hins:putF (MV T a b P (k::R)) b 0 k=modN (modN (modN (modN (MV T a b P (k::R)) a (setKids R)) k (setParent (-1))) b (setKids (kidsF T b++P++ [(k:Int)]))) k (setParent b):=by
  rw[putF,insertF,placeF,if_pos rfl,hkb2,Int.toNat_natCast,List.take_length,List.drop_length,takeF,hT1]
 rw[hins]
 refine Prod.ext ?_ rfl
 refine tree_ext rfl rfl fun i=> ?_
 simp only[modN_get,MV_get]
 cases hd:T.nodes[i]? with
 |none=>simp
 |some d =>
  have e1:((i:Int)=(b:Int))↔b=i:=by omega
  have e2:((i:Int)=(a:Int))↔a=i:=by omega
  have e3:((i:Int)=(k:Int))↔k=i:=by omega
  by_cases hik:k=i
  ·subst hik
   rw[if_pos rfl,if_neg (Ne.symm hkb),if_pos rfl]
   by_cases hia:a=k
   ·subst hia
    simp only[Option.map_some,if_pos,mvN,setKids,setParent,List.mem_append,List.mem_singleton,or_true,Option.some.injEq,ND.mk.injEq,true_and]
    rw[if_neg (by omega)]
   ·simp[mvN,setParent,hia,e1,e2,Ne.symm hkb]
  ·rw[if_neg hik]
   by_cases hib:b=i
   ·subst hib
    simp[mvN,setKids,hik,hne,e3]
   ·rw[if_neg hib]
    by_cases hia:a=i
    ·subst hia
     simp[mvN,setKids,hik,e1,e3,hib]
    ·simp[mvN,hik,hib,hia,e1,e2,e3]
theorem MV_move {T:TreeD} (hw:WF T) {a b:Nat} (ha:a<T.nodes.length) (hb:b<T.nodes.length) (hhb:holdsF T b=true) (hab:belowF T b a=false) :
 ∀(R P:List Int),kidsF T a=P++R→moveF (MV T a b P R) b R=MV T a b (P++R) []
 | [],P,_=>by simp[moveF]
 |x::R,P,hL=>by
  have h1:=hw.kid a ha x (by rw[hL];simp)
  obtain⟨k,rfl⟩:=Int.eq_ofNat_of_zero_le (by omega:0≤x)
  have h2:=MV_put hw ha hb hL hhb hab
  have h3:=MV_move hw ha hb hhb hab R (P++ [(k:Int)]) (by rw[hL];simp)
  have h4:moveF (MV T a b P ((k:Int)::R)) b ((k:Int)::R)=moveF (putE (MV T a b P ((k:Int)::R)) b 0 k).1 b R:=rfl
  rw[h4,h2,h3]
  simp
theorem move_once {T:TreeD} (hw:WF T) {a b:Nat} (ha:a<T.nodes.length) (hb:b<T.nodes.length) (hhb:holdsF T b=true) (hab:belowF T b a=false):moveF T b (kidsF T a)=MV T a b (kidsF T a) []:=by
 have h:=MV_move hw ha hb hhb hab (kidsF T a) [] rfl
 rw[MV_zero]at h
 exact h
end Go.Proofs.YtgepobccoffnaaaGreatDoor
namespace Go.Proofs.YtgepobccoffnaaaGreatDoor
open Go.RowKit Mem
end Go.Proofs.YtgepobccoffnaaaGreatDoor
end
section
namespace Go.Proofs.YtgepobccoffnaaaGreatDoor
open Go.RowKit Mem
def farW (F:Nat→Prop) (T:TreeD):TreeD:=⟨T.nodes,T.most,F⟩
theorem mkF_farW (F:Nat→Prop) (T:TreeD) (d:ND):mkF (farW F T) d=(farW F (mkF T d).1,(mkF T d).2):=by
 unfold mkF
 by_cases h:(T.nodes.length:Int)-1<T.most
 ·rw[if_pos h,if_pos (show((farW F T).nodes.length:Int)-1<(farW F T).most from h)]
  rfl
 ·rw[if_neg h,if_neg (show ¬((farW F T).nodes.length:Int)-1<(farW F T).most from h)]
theorem likeF_farW (F:Nat→Prop) (T:TreeD) (n:Int):likeF (farW F T) n=(farW F (likeF T n).1,(likeF T n).2):=by
 unfold likeF
 have he:elemF (farW F T) n=elemF T n:=rfl
 rw[he]
 cases elemF T n
 ·rfl
 ·exact mkF_farW F T _
theorem belowF_farW (F:Nat→Prop) (T:TreeD) (n top:Int):belowF (farW F T) n top=belowF T n top:=by
 rw[Bool.eq_iff_iff]
 simp only[belowF_dec,decide_eq_true_eq,reachV]
 rfl
theorem kidsOff_farW (F:Nat→Prop) (T:TreeD) (n:Int):kidsOff (farW F T) n=farW F (kidsOff T n):=by
 unfold kidsOff
 have hp:parentF (farW F T) n=parentF T n:=rfl
 rw[hp]
 split <;>rfl
theorem takeF_farW (F:Nat→Prop) (T:TreeD) (n:Int):takeF (farW F T) n=farW F (takeF T n):=by rw[takeF,kidsOff_farW];rfl
theorem putE_farW (F:Nat→Prop) (T:TreeD) (a b n:Int):putE (farW F T) a b n=(farW F (putE T a b n).1,(putE T a b n).2):=by
 unfold putE
 have he:putOk (farW F T) a b n=putOk T a b n:=by
  unfold putOk
  rw[belowF_farW]
  rfl
 rw[he]
 split
 ·rw[putF,takeF_farW];rfl
 ·rfl
theorem textE_farW (F:Nat→Prop) (T:TreeD) (a b:Int) (s:ByteArray):textE (farW F T) a b s=(farW F (textE T a b s).1,(textE T a b s).2):=by
 unfold textE
 have h1:holdsF (farW F T) a=holdsF T a:=rfl
 have h2:placeF (farW F T) a b=placeF T a b:=rfl
 rw[h1,h2]
 split
 ·split
  ·rfl
  ·unfold textAt
   rw[h2]
   have h3: ∀i,elemF (farW F T) (prevF (farW F T) a i)=elemF T (prevF T a i):=fun _=>rfl
   have h4:(farW F T).nodes.length=T.nodes.length:=rfl
   have h5:(farW F T).most=T.most:=rfl
   simp only[h3,h4,h5]
   split
   ·rfl
   ·split <;>rfl
 ·rfl
theorem moveF_farW (F:Nat→Prop) (b:Int): ∀(l:List Int) (T:TreeD),moveF (farW F T) b l=farW F (moveF T b l)
 | [],_=>rfl
 |x::r,T=>by
  show moveF (putE (farW F T) b 0 x).1 b r=farW F (moveF (putE T b 0 x).1 b r)
  rw[putE_farW]
  exact moveF_farW F b r _
theorem moveE_farW (F:Nat→Prop) (T:TreeD) (a b:Int):moveE (farW F T) a b=(farW F (moveE T a b).1,(moveE T a b).2):=by
 unfold moveE
 have h1: ∀x,holdsF (farW F T) x=holdsF T x:=fun _=>rfl
 have h2:kidsF (farW F T) a=kidsF T a:=rfl
 rw[h1,h1,h2,belowF_farW,moveF_farW]
 split <;>rfl
def Own (w0:World) (ex:Nat→Prop):Nat→Prop:=fun k=>w0.heap.size≤k∧ ¬ex k
end Go.Proofs.YtgepobccoffnaaaGreatDoor
namespace Go.Proofs.YtgepobccoffnaaaGreatDoor
open Go.RowKit Mem
def cS:ByteArray:=(⟨#[99]⟩:ByteArray)
theorem root_wf (most:Int):WF ⟨[rootN],most,noFar⟩:=by
 refine⟨Nat.one_pos,rfl,?_,?_,?_,?_,⟨fun _=>0,?_⟩,?_⟩ <;>intro i hi <;>simp at hi <;>subst hi
 ·simp[parentF,rootN]
 ·intro k hk;simp[kidsF,rootN]at hk
 ·intro h;simp[parentF,rootN]at h
 ·simp[kidsF,rootN]
 ·intro h;simp[parentF,rootN]at h
 ·intro h;simp[kidsF,rootN]at h
end Go.Proofs.YtgepobccoffnaaaGreatDoor
namespace Go.Proofs.YtgepobccoffnaaaGreatDoor
open Go.RowKit Mem
section
variable {w0 w w':World} {B B' rb gn gk gn' gk':Nat} {ex far:Nat→Prop} {T T':TreeD}
theorem moveF_wf (b:Int): ∀(l:List Int) (T:TreeD),WF T→WF (moveF T b l)∧(moveF T b l).nodes.length=T.nodes.length∧(moveF T b l).most=T.most
 | [],_,h=>⟨h,rfl,rfl⟩
 |x::r,T,h=>by
  have h1:=putE_wf h b 0 x
  have h2:=moveF_wf b r (putE T b 0 x).1 h1.1
  exact⟨h2.1,h2.2.1.trans h1.2.1,h2.2.2.trans h1.2.2⟩
theorem moveE_wf {T:TreeD} (hw:WF T) (a b:Int):WF (moveE T a b).1∧(moveE T a b).1.nodes.length=T.nodes.length∧(moveE T a b).1.most=T.most:=by
 unfold moveE
 split
 ·exact moveF_wf b _ T hw
 ·exact⟨hw,rfl,rfl⟩
end
end Go.Proofs.YtgepobccoffnaaaGreatDoor
end
section
namespace Go.Proofs.YtgepobccoffnaaaGreatDoor
open Go.RowKit Mem
theorem searchF_step (p stop:Int→Bool) (l:List Int) (k:Nat) (h:k<l.length):searchF p stop (l.take (k+1)).reverse=(p l[k]||(!stop l[k]&&searchF p stop (l.take k).reverse)):=by
 rw[List.take_succ_eq_append_getElem h,List.reverse_append]
 rfl
theorem keepS3 {u u':World} {sb tb b o:Nat} {v x:Value} (hb:Below u.heap.size u u') (h:u.cell? ⟨sb,0,none⟩=some (.pointer (some ⟨tb,0,none⟩))∧u.cell? ⟨sb,1,none⟩=some v∧u.cell? ⟨b,o,none⟩=some x) :
 u'.cell? ⟨sb,0,none⟩=some (.pointer (some ⟨tb,0,none⟩))∧u'.cell? ⟨sb,1,none⟩=some v∧u'.cell? ⟨b,o,none⟩=some x :=
 ⟨cell_later hb h.1,cell_later hb h.2.1,cell_later hb h.2.2⟩
section
variable (T:TreeD) (w:World) (sb tb g:Nat) (gs:Option Nat) (l:List Int)
theorem search_any (h:StkO w sb tb gs l) (hT:TreeO w tb g T) (hat: ∀i (h:i<T.nodes.length),T.nodes[i].attrs.length≤1048576) (hl:l.length≤1048576) (scope:Int) (f:Nat) (lb:Array Value) (ef: ∀args w,(callFunc f args).run Tryz.prog w= .ok (.enter f args) w)
 (p:Int→Bool) (hp: ∀W x,Below w.heap.size w W→Calls Tryz.prog f (#[.int .i64 x]++lb) W fun e w'=>e= .returned (.bool (p x))∧Below W.heap.size W w') :
 Calls Tryz.prog 177 #[.pointer (some ⟨sb,0,none⟩),.int .i64 scope,.func (.func f) #[] lb] w fun e w'=>e= .returned (.bool (searchF p (stopF T scope) l.reverse))∧Below w.heap.size w w':=by
 have HS:=Lib.hid h
 have HT:=Lib.hid hT
 have HP:=Lib.hid hp
 have HAt:=Lib.hid hat
 obtain⟨a,c,c0,c1,hA,_⟩:=h.cells
 have HA:=Lib.hid hA
 clear h hT hp hat hA
 go_enter Tryz.func177,Tryz.ntmps177
 go_wp2_with fail
 go_loopw [7] (fun i wr=> ∃k:Nat,k≤l.length∧i= .int .i64 ((k:Int)-1)∧Below w.heap.size w wr∧searchF p (stopF T scope) l.reverse=searchF p (stopF T scope) (l.take k).reverse) (fun i _=>(intOf i+1).toNat)
 case atStart=>exact⟨l.length,Nat.le_refl _,rfl,Below.refl _ _,by rw[List.take_of_length_le (Nat.le_refl _)]⟩
 case round =>
  obtain⟨k,hk,rfl,hb,hv⟩:=hrel
  have HB:=Lib.hid hb
  have HV:=Lib.hid hv
  clear hv
  cases k with
  |zero =>
   clear hb
   go_wp2_with fail
   go_ret
   exact⟨ret_bool (by rw[HV.out];rfl),HB.out⟩
  |succ k =>
   have hlt:k<l.length:=by omega
   obtain⟨bb,o,rfl⟩:=HA.out.some_of (by intro h;have:=congrArg List.length h;rw[intsV_length,List.length_nil]at this;omega)
   have hx:=cell_later hb (HA.out.get (intsV_get l k hlt))
   have d0:=cell_later hb c0
   have d1:=cell_later hb c1
   have e1:((k+1:Nat):Int)-1=(k:Int):=by omega
   rw[e1]
   have HF:=Lib.hid (HP.out wr l[k] hb)
   have HST:=Lib.hid (searchF_step p (stopF T scope) l k hlt)
   obtain⟨x,hxx⟩: ∃x,x=l[k]:=⟨_,rfl⟩
   rw[←hxx]at hx HF HST
   clear hb hxx
   cases hpx:p x
   ·rw[hpx]at HF HST
    go_wp2_with (go_at_fn f;go_must (refine HF.out.mono ?_;rintro e w1 ⟨rfl,hb1⟩;have z0:=cell_later hb1 d0;have z1:=cell_later hb1 d1;have zx:=cell_later hb1 hx;have HB1:=Lib.hid hb1;clear hb1))
    have HT1:=Lib.hid ((HT.out.below HB.out).below HB1.out)
    have HT1':=Lib.hid (HT1.out.below (stk_drewN w1 1))
    have HW:=Lib.hid (What_any T tb g w1.drew x HAt.out HT1'.out)
    have q0:w1.drew.cell? ⟨sb,0,none⟩=some (.pointer (some ⟨tb,0,none⟩)):=z0
    have q1:w1.drew.cell? ⟨sb,1,none⟩=some (.slice (some ⟨bb,o,none⟩) l.length c):=z1
    have qx:w1.drew.cell? ⟨bb,o+k,none⟩=some (.int .i64 x):=zx
    go_region_held3 (fun u=>u.cell? ⟨sb,0,none⟩=some (.pointer (some ⟨tb,0,none⟩))∧u.cell? ⟨sb,1,none⟩=some (.slice (some ⟨bb,o,none⟩) l.length c)∧u.cell? ⟨bb,o+k,none⟩=some (.int .i64 x))
     (first|exact⟨q0,q1,qx⟩|with_reducible exact keepS3 HB2.out ⟨q0,q1,qx⟩)
     (first|(go_at_call 49;go_must (refine HW.out.mono ?_;rintro e w2 ⟨v,rfl,_,hb2⟩;have HB2:=Lib.hid hb2;clear hb2)))
    have r0:=cell_later HB2.out q0
    have r1:=cell_later HB2.out q1
    have rx:=cell_later HB2.out qx
    have HT2:=Lib.hid (HT1'.out.below HB2.out)
    have HBw:=Lib.hid (belowCall (belowCall HB.out HB1.out).drew HB2.out)
    clear z0 z1 zx q0 q1 qx HW d0 d1 hx
    have HE:Hid (∀u,TreeO u tb g T→Calls Tryz.prog 80 #[.pointer (some ⟨tb,0,none⟩),.int .i64 x] u fun e w'=>e= .returned (.bool (elemF T x))∧u=w'):=Lib.hid (fun u hu=>elem_any T tb g u x hu)
    have HBo:Hid (∀u,Calls Tryz.prog 213 #[.int .i64 scope,.int .i64 (spaceQ T x),.string (nameQ T x)] u fun e w'=>e= .returned (.bool (boundsF scope (spaceQ T x) (nameQ T x)))∧u=w'):=Lib.hid (fun u=>Bounds_any scope _ _ u)
    have HSt:Hid (stopF T scope x=(elemF T x&&boundsF scope (spaceQ T x) (nameQ T x))):=Lib.hid rfl
    generalize spaceQ T x=xs at *
    generalize nameQ T x=xn at *
    cases hel:elemF T x <;>cases hbo:boundsF scope xs xn
    all_goals
     rw[hel]at HE HSt
     rw[hbo]at HBo HSt
     go_wp2_with fail
     refine wp_region_calm (by kernel_rfl) (by kernel_rfl) ?_
     repeat
      with_reducible refine wpQuiet_step (fun K hK=> ?_)
      first
       |(with_reducible apply calm_skip
         ·rfl
         simp only[Act.put,List.setIfInBounds_toArray,List.set_cons_zero,List.set_cons_succ]
         refine hK _ ?_
         clear hK K)
       |(with_reducible apply calm_run
         ·rfl
         ·intro wq hC
          have zr0:=cell_later hC.out r0
          have zr1:=cell_later hC.out r1
          have zrx:=cell_later hC.out rx
          unfold Oper.quietAt
          go_simp
          first|done|(go_at_call 80;go_must (refine(HE.out _ (HT2.out.below hC.out)).mono ?_;rintro e wx ⟨rfl,rfl⟩;exact⟨rfl,hC⟩))|(go_at_call 213;go_must (refine(HBo.out _).mono ?_;rintro e wx ⟨rfl,rfl⟩;exact⟨rfl,hC⟩))|with_reducible rfl|rfl
         simp only[Act.put,List.setIfInBounds_toArray,List.set_cons_zero,List.set_cons_succ]
         refine hK _ ?_
         clear hK K)
     with_reducible refine wpQuiet_nil ?_
     intro wq HQ
     have zr0:=cell_later HQ.out r0
     have zr1:=cell_later HQ.out r1
     have zrx:=cell_later HQ.out rx
     have HBx:=Lib.hid (belowCall HBw.out HQ.out)
     go_wp2_with fail
     first
      |(go_round
        case rel=>exact⟨k,by omega,by go_num,HBx.out,by rw[HV.out,HST.out,HSt.out];rfl⟩
        case measure=>simp[intOf])
      |(go_ret
        exact⟨ret_bool (by rw[HV.out,HST.out,HSt.out];rfl),HBx.out⟩)
   ·rw[hpx]at HF HST
    go_wp2_with (go_at_fn f;go_must (refine HF.out.mono ?_;rintro e w1 ⟨rfl,hb1⟩;have HB1:=Lib.hid hb1;clear hb1))
    go_ret
    exact⟨ret_bool (by rw[HV.out,HST.out];rfl),belowCall HB.out HB1.out⟩
end
end Go.Proofs.YtgepobccoffnaaaGreatDoor
namespace Go.Proofs.YtgepobccoffnaaaGreatDoor
open Go.RowKit Mem
section
variable (T:TreeD) (w:World) (sb tb g:Nat) (gs:Option Nat) (l:List Int)
theorem has1_any (h:StkO w sb tb gs l) (hT:TreeO w tb g T) (hat: ∀i (h:i<T.nodes.length),T.nodes[i].attrs.length≤1048576) (n:Int) (names:List ByteArray) (a:Option Addr) (c:Nat) (ha:At w a (strsV names)) (hl:names.length≤1048576)
 (b1 b2:Nat) (h1:w.cell? ⟨b1,0,none⟩=some (.pointer (some ⟨sb,0,none⟩))) (h2:w.cell? ⟨b2,0,none⟩=some (.slice a names.length c)) :
 Calls Tryz.prog 178 #[.int .i64 n,.pointer (some ⟨b1,0,none⟩),.pointer (some ⟨b2,0,none⟩)] w fun e w'=>e= .returned (.bool (namedF T n names))∧Below w.heap.size w w':=by
 have HC:=Lib.hid (snamed_any T w sb tb g gs l h hT hat n names a c ha hl)
 clear h hT hat ha
 go_enter Tryz.func178,Tryz.ntmps178
 go_wp2_with (go_at_call 176;go_must (refine HC.out.mono ?_;rintro e w1 ⟨rfl,hb⟩;have HB:=Lib.hid hb;clear hb))
 go_ret
 exact⟨rfl,HB.out⟩
theorem hasnode1_any (n m:Int) (b1:Nat) (h1:w.cell? ⟨b1,0,none⟩=some (.int .i64 m)) :
 Calls Tryz.prog 230 #[.int .i64 n,.pointer (some ⟨b1,0,none⟩)] w fun e w'=>e= .returned (.bool (n==m))∧Below w.heap.size w w':=by
 go_enter Tryz.func230,Tryz.ntmps230
 go_wp2_with fail
 go_ret
 exact⟨rfl,Below.refl _ _⟩
def hasF (T:TreeD) (l:List Int) (scope:Int) (names:List ByteArray):Bool:=searchF (fun x=>namedF T x names) (stopF T scope) l.reverse
def hasNodeF (T:TreeD) (l:List Int) (m:Int):Bool:=searchF (fun x=>x==m) (stopF T 0) l.reverse
theorem Has_any (h:StkO w sb tb gs l) (hT:TreeO w tb g T) (hat: ∀i (h:i<T.nodes.length),T.nodes[i].attrs.length≤1048576) (hl:l.length≤1048576) (scope:Int) (names:List ByteArray) (a:Option Addr) (c:Nat) (ha:At w a (strsV names)) (hn:names.length≤1048576) :
 Calls Tryz.prog 121 #[.pointer (some ⟨sb,0,none⟩),.int .i64 scope,.slice a names.length c] w fun e w'=>e= .returned (.bool (hasF T l scope names))∧Below w.heap.size w w':=by
 have hb1:=((Below.refl w.heap.size w).alloc (Nat.le_refl _) (.cells #[.pointer (some ⟨sb,0,none⟩)] 65))
 have hb2:=hb1.alloc (by simp) (.cells #[.slice a names.length c] 174)
 have k1:=heap_alloc_new w (.cells #[.pointer (some ⟨sb,0,none⟩)] 65)
 have k2:=heap_alloc_new (w.alloc (.cells #[.pointer (some ⟨sb,0,none⟩)] 65)) (.cells #[.slice a names.length c] 174)
 have k1':=(heap_alloc_old (w.alloc (.cells #[.pointer (some ⟨sb,0,none⟩)] 65)) (.cells #[.slice a names.length c] 174) (r:=w.heap.size) (by simp)).trans k1
 have hs1:(w.alloc (.cells #[.pointer (some ⟨sb,0,none⟩)] 65)).heap.size=w.heap.size+1:=by simp
 rw[hs1]at k2
 have HF:=Lib.hid (search_any T ((w.alloc (.cells #[.pointer (some ⟨sb,0,none⟩)] 65)).alloc (.cells #[.slice a names.length c] 174)) sb tb g gs l (h.below hb2) (hT.below hb2) hat hl scope 178 #[.pointer (some ⟨w.heap.size,0,none⟩),.pointer (some ⟨w.heap.size+1,0,none⟩)] (enters_of Tryz.func178 (by kernel_rfl) rfl)
  (fun x=>namedF T x names) (fun W x hW=>has1_any T W sb tb g gs l ((h.below hb2).below hW) ((hT.below hb2).below hW) hat x names a c ((ha.below hb2).below hW) hn w.heap.size (w.heap.size+1) (cell_later hW (cell_of_row _ _ 0 _ _ _ k1')) (cell_later hW (cell_of_row _ _ 0 _ _ _ k2))))
 have HB2:=Lib.hid hb2
 clear h hT hat ha hb1 hb2 k1 k1' k2 hs1
 go_enter Tryz.func121,Tryz.ntmps121
 go_wp2_with (go_at_call 177;go_must (refine HF.out.mono ?_;rintro e w1 ⟨rfl,hb⟩;have HB:=Lib.hid hb;clear hb))
 go_ret
 exact⟨rfl,belowCall HB2.out HB.out⟩
theorem HasNode_any (h:StkO w sb tb gs l) (hT:TreeO w tb g T) (hat: ∀i (h:i<T.nodes.length),T.nodes[i].attrs.length≤1048576) (hl:l.length≤1048576) (m:Int) :
 Calls Tryz.prog 220 #[.pointer (some ⟨sb,0,none⟩),.int .i64 m] w fun e w'=>e= .returned (.bool (hasNodeF T l m))∧Below w.heap.size w w':=by
 have hb1:=((Below.refl w.heap.size w).alloc (Nat.le_refl _) (.cells #[.int .i64 m] 3))
 have k1:=heap_alloc_new w (.cells #[.int .i64 m] 3)
 have HF:=Lib.hid (search_any T (w.alloc (.cells #[.int .i64 m] 3)) sb tb g gs l (h.below hb1) (hT.below hb1) hat hl 0 230 #[.pointer (some ⟨w.heap.size,0,none⟩)] (enters_of Tryz.func230 (by kernel_rfl) rfl)
  (fun x=>x==m) (fun W x hW=>hasnode1_any W x m w.heap.size (cell_later hW (cell_of_row _ _ 0 _ _ _ k1))))
 have HB2:=Lib.hid hb1
 clear h hT hat hb1 k1
 go_enter Tryz.func220,Tryz.ntmps220
 go_wp2_with (go_at_call 177;go_must (refine HF.out.mono ?_;rintro e w1 ⟨rfl,hb⟩;have HB:=Lib.hid hb;clear hb))
 go_ret
 exact⟨rfl,belowCall HB2.out HB.out⟩
def untilF (T:TreeD) (names:List ByteArray):List Int→List Int
 | []=> []
 |x::r=>if namedF T x names then r else untilF T names r
end
end Go.Proofs.YtgepobccoffnaaaGreatDoor
namespace Go.Proofs.YtgepobccoffnaaaGreatDoor
open Go.RowKit Mem
def SI (w0:World) (B tb sb:Nat) (ex:Nat→Prop) (T:TreeD) (l:List Int) (w:World):Prop :=
 ∃g gs far,TI w0 B tb (farW far T) g w∧StkO w sb tb gs l∧(∀k,SB sb gs k→far k∧w0.heap.size≤k∧ ¬ex k)∧(∀k,ex k→far k)∧l.length≤1000000
section
variable {w0 w w':World} {B B' tb sb:Nat} {ex:Nat→Prop} {T T':TreeD} {l:List Int}
theorem SI.wf (h:SI w0 B tb sb ex T l w):WF T:=by
 obtain⟨g,gs,far,h1,_⟩:=h
 exact⟨h1.wf.pos,h1.wf.root,h1.wf.par,h1.wf.kid,h1.wf.mem,h1.wf.nodup,(by
  obtain⟨r,hr⟩:=h1.wf.rank
  exact⟨r,hr⟩),h1.wf.holds⟩
theorem SI.len (h:SI w0 B tb sb ex T l w):T.nodes.length≤1000000:=by
 obtain⟨g,gs,far,h1,_⟩:=h
 exact h1.len
theorem SI.short (h:SI w0 B tb sb ex T l w):l.length≤1000000:=by
 obtain⟨g,gs,far,_,_,_,_,h1⟩:=h
 exact h1
theorem SI.below (h:SI w0 B tb sb ex T l w):Below w0.heap.size w0 w:=by
 obtain⟨g,gs,far,h1,_⟩:=h
 exact h1.below
theorem SI.tree_step {far:Nat→Prop} {g g':Nat} {gs:Option Nat} (h1:TI w0 B tb (farW far T) g w) (h2:StkO w sb tb gs l) (h3: ∀k,SB sb gs k→far k∧w0.heap.size≤k∧ ¬ex k) (h4: ∀k,ex k→far k) (h5:l.length≤1000000)
 (hk:Keeps (Two tb g) w w') (ht:TI w0 B' tb (farW far T') g' w'):SI w0 B' tb sb ex T' l w'∧Keeps (Own w0 ex) w w':=by
 have hf:=h1.tree.far_lt
 refine⟨⟨g',gs,far,ht,h2.kept hk fun k hk'=> ?_,h3,h4,h5⟩,hk.mono fun k _ hk'=> ?_⟩
 ·obtain⟨_,q1,q2⟩:=hf k (h3 k hk').1
  rintro(e|e)
  ·exact q1 e
  ·exact q2 e
 ·rcases hk' with e|e
  ·rw[e]
   exact⟨h1.htb,fun hx=>(hf tb (h4 tb hx)).2.1 rfl⟩
  ·rw[e]
   exact⟨h1.hg,fun hx=>(hf g (h4 g hx)).2.2 rfl⟩
theorem SI.world (h:SI w0 B tb sb ex T l w) (hb:Below w.heap.size w w'):SI w0 B tb sb ex T l w':=by
 obtain⟨g,gs,far,h1,h2,h3⟩:=h
 exact⟨g,gs,far,h1.world hb,h2.below hb,h3⟩
theorem SI.foreign {ex':Nat→Prop} (h:SI w0 B tb sb ex T l w) {F:Nat→Prop} (hk:Keeps F w w') (hF: ∀k,F k→ex k∧w0.heap.size≤k) (he: ∀k,ex' k→(ex k∨w.heap.size≤k)∧k<w'.heap.size):SI w0 B tb sb ex' T l w':=by
 obtain⟨g,gs,far,h1,h2,h3,h4,h5⟩:=h
 have hlt:=h2.lt
 have hT:TreeO w' tb g (farW (fun k=>far k∨ex' k) T):=h1.tree.foreign hk (fun k hk'=>h4 k (hF k hk').1) (fun k hk'=>by
  rcases hk' with hk'|hk'
  ·exact⟨.inl hk',Nat.lt_of_lt_of_le (h1.tree.far_lt k hk').1 hk.size⟩
  ·exact⟨(he k hk').1.imp (h4 k) id,(he k hk').2⟩)
 refine⟨g,gs,fun k=>far k∨ex' k,⟨hT,?_,h1.below.trans (hk.below (fun k hk' hFk=>by have:=(hF k hFk).2;omega) h1.below.size),h1.htb,h1.hg,h1.len,h1.most,h1.att,h1.txt⟩,h2.kept hk fun k hk' hFk=>(h3 k hk').2.2 (hF k hFk).1,?_,fun k hk'=> .inr hk',h5⟩
 ·have hw:=h1.wf
  exact⟨hw.pos,hw.root,hw.par,hw.kid,hw.mem,hw.nodup,(by
   obtain⟨r,hr⟩:=hw.rank
   exact⟨r,hr⟩),hw.holds⟩
 ·intro k hk'
  obtain⟨q1,q2,q3⟩:=h3 k hk'
  refine⟨.inl q1,q2,fun hx=> ?_⟩
  rcases(he k hx).1 with e|e
  ·exact q3 e
  ·have:=hlt k hk';omega
theorem SI.stk_step {far:Nat→Prop} {g:Nat} {gs gs':Option Nat} {l':List Int} (h1:TI w0 B tb (farW far T) g w) (h3: ∀k,SB sb gs k→far k∧w0.heap.size≤k∧ ¬ex k) (h4: ∀k,ex k→far k) (h5:l'.length≤1000000)
 (hk:Keeps (SB sb gs) w w') (hs:StkO w' sb tb gs' l') (hg: ∀k,gs'=some k→gs=some k∨w.heap.size≤k):SI w0 B tb sb ex T l' w'∧Keeps (Own w0 ex) w w':=by
 have hlt:=hs.lt
 have hT:TreeO w' tb g (farW (fun k=>far k∨SB sb gs' k) T):=h1.tree.foreign hk (fun k hk'=>(h3 k hk').1) (fun k hk'=>by
  rcases hk' with hk'|hk'
  ·exact⟨.inl hk',Nat.lt_of_lt_of_le (h1.tree.far_lt k hk').1 hk.size⟩
  ·refine⟨?_,hlt k hk'⟩
   rcases hk' with e|e
   ·exact .inl (h3 k (.inl e)).1
   ·exact(hg k e).imp (fun e=>(h3 k (.inr e)).1) id)
 refine⟨⟨g,gs',fun k=>far k∨SB sb gs' k,⟨hT,?_,h1.below.trans (hk.below (fun k hk' hFk=>by have:=(h3 k hFk).2.1;omega) h1.below.size),h1.htb,h1.hg,h1.len,h1.most,h1.att,h1.txt⟩,hs,?_,fun k hk'=> .inl (h4 k hk'),h5⟩,hk.mono fun k _ hk'=>(h3 k hk').2⟩
 ·have hw:=h1.wf
  exact⟨hw.pos,hw.root,hw.par,hw.kid,hw.mem,hw.nodup,(by
   obtain⟨r,hr⟩:=hw.rank
   exact⟨r,hr⟩),hw.holds⟩
 ·intro k hk'
  refine⟨.inr hk',?_⟩
  rcases hk' with e|e
  ·exact(h3 k (.inl e)).2
  ·rcases hg k e with e'|e'
   ·exact(h3 k (.inr e')).2
   ·have hs:=h1.below.size
    refine⟨by omega,fun hx=> ?_⟩
    have:=(h1.tree.far_lt k (h4 k hx)).1
    omega
theorem Elem_si (h:SI w0 B tb sb ex T l w) (sp:Int) (nm:ByteArray) (at':List Pair) (n:Nat) (a:Option Addr) (c:Nat) (hnl:n=at'.length) (hc:a=none→c=0) (hlen:at'.length≤1048576) (ha:At w a (pairsV at')) :
 Calls Tryz.prog 154 #[.pointer (some ⟨tb,0,none⟩),.int .i64 sp,.string nm,.slice a n c] w fun e w' =>
  e= .returned (.tuple #[.int .i64 (mkF T (elemN sp nm at')).2.1,.int .i64 (mkF T (elemN sp nm at')).2.2])∧SI w0 B tb sb ex (mkF T (elemN sp nm at')).1 l w'∧Keeps (Own w0 ex) w w':=by
 obtain⟨g,gs,far,h1,h2,h3,h4,h5⟩:=h
 refine(Elem_ti h1 sp nm at' n a c hnl hc hlen ha).mono ?_
 rw[mkF_farW]
 rintro e w' ⟨he,hk,g',ht⟩
 obtain⟨q1,q2⟩:=SI.tree_step h1 h2 h3 h4 h5 hk ht
 exact⟨he,q1,q2⟩
theorem Like_si (h:SI w0 B tb sb ex T l w) (n:Int) :
 Calls Tryz.prog 231 #[.pointer (some ⟨tb,0,none⟩),.int .i64 n] w fun e w' =>
  e= .returned (.tuple #[.int .i64 (likeF T n).2.1,.int .i64 (likeF T n).2.2])∧SI w0 B tb sb ex (likeF T n).1 l w'∧Keeps (Own w0 ex) w w':=by
 obtain⟨g,gs,far,h1,h2,h3,h4,h5⟩:=h
 refine(Like_ti h1 n).mono ?_
 rw[likeF_farW]
 rintro e w' ⟨he,hk,g',ht⟩
 obtain⟨q1,q2⟩:=SI.tree_step h1 h2 h3 h4 h5 hk ht
 exact⟨he,q1,q2⟩
theorem Put_si (h:SI w0 B tb sb ex T l w) (a b n:Int) :
 Calls Tryz.prog 155 #[.pointer (some ⟨tb,0,none⟩),.int .i64 a,.int .i64 b,.int .i64 n] w fun e w' =>
  e= .returned (.int .i64 (putE T a b n).2)∧SI w0 B tb sb ex (putE T a b n).1 l w'∧Keeps (Own w0 ex) w w':=by
 obtain⟨g,gs,far,h1,h2,h3,h4,h5⟩:=h
 refine(Put_ti h1 a b n).mono ?_
 rw[putE_farW]
 rintro e w' ⟨he,hk,ht⟩
 obtain⟨q1,q2⟩:=SI.tree_step h1 h2 h3 h4 h5 hk ht
 exact⟨he,q1,q2⟩
theorem Move_si (h:SI w0 B tb sb ex T l w) (a b:Int) :
 Calls Tryz.prog 236 #[.pointer (some ⟨tb,0,none⟩),.int .i64 a,.int .i64 b] w fun e w' =>
  e= .returned (.int .i64 (moveE T a b).2)∧SI w0 B tb sb ex (moveE T a b).1 l w'∧Keeps (Own w0 ex) w w':=by
 obtain⟨g,gs,far,h1,h2,h3,h4,h5⟩:=h
 refine(Move_ti h1 a b).mono ?_
 rw[moveE_farW]
 rintro e w' ⟨he,hk,ht⟩
 obtain⟨q1,q2⟩:=SI.tree_step h1 h2 h3 h4 h5 hk ht
 exact⟨he,q1,q2⟩
theorem Text_si (h:SI w0 B tb sb ex T l w) (a b:Int) (s:ByteArray) {B':Nat} (hB:B+s.size≤B') (hB':B'≤9223372036854775807) :
 Calls Tryz.prog 153 #[.pointer (some ⟨tb,0,none⟩),.int .i64 a,.int .i64 b,.string s] w fun e w' =>
  e= .returned (.int .i64 (textE T a b s).2)∧SI w0 B' tb sb ex (textE T a b s).1 l w'∧Keeps (Own w0 ex) w w':=by
 obtain⟨g,gs,far,h1,h2,h3,h4,h5⟩:=h
 refine(Text_ti h1 a b s hB hB').mono ?_
 rw[textE_farW]
 rintro e w' ⟨he,hk,g',ht⟩
 obtain⟨q1,q2⟩:=SI.tree_step h1 h2 h3 h4 h5 hk ht
 exact⟨he,q1,q2⟩
theorem Push_si (h:SI w0 B tb sb ex T l w) (n:Int) (hl:l.length<1000000) :
 Calls Tryz.prog 113 #[.pointer (some ⟨sb,0,none⟩),.int .i64 n] w fun e w'=>e= .returned (.tuple #[])∧SI w0 B tb sb ex T (l++ [n]) w'∧Keeps (Own w0 ex) w w':=by
 obtain⟨g,gs,far,h1,h2,h3,h4,h5⟩:=h
 refine(stk_push w sb tb gs l h2 n (by omega)).mono ?_
 rintro e w' ⟨he,g2,hs,hg,hk⟩
 obtain⟨q1,q2⟩:=SI.stk_step h1 h3 h4 (by simp;omega) hk hs (fun k hk=>by cases hk;exact hg)
 exact⟨he,q1,q2⟩
theorem Pop_si (h:SI w0 B tb sb ex T l w) :
 Calls Tryz.prog 64 #[.pointer (some ⟨sb,0,none⟩)] w fun e w'=>e= .returned (.int .i64 (l.getLast?.getD 0))∧SI w0 B tb sb ex T l.dropLast w'∧Keeps (Own w0 ex) w w':=by
 obtain⟨g,gs,far,h1,h2,h3,h4,h5⟩:=h
 refine(stk_pop w sb tb gs l h2 (by omega)).mono ?_
 rintro e w' ⟨he,hs,hk⟩
 obtain⟨q1,q2⟩:=SI.stk_step h1 h3 h4 (by simp;omega) hk hs (fun k hk=> .inl hk)
 exact⟨he,q1,q2⟩
theorem Top_si (h:SI w0 B tb sb ex T l w):Calls Tryz.prog 50 #[.pointer (some ⟨sb,0,none⟩)] w fun e w'=>e= .returned (.int .i64 (l.getLast?.getD 0))∧ ∃q,w'=w.drewN q:=by
 obtain⟨g,gs,far,h1,h2,h3,h4,h5⟩:=h
 exact stk_top w sb tb gs l h2 (by omega)
theorem Find_si (h:SI w0 B tb sb ex T l w) (n:Int):Calls Tryz.prog 160 #[.pointer (some ⟨sb,0,none⟩),.int .i64 n] w fun e w'=>e= .returned (.int .i64 (rfind l n))∧w=w':=by
 obtain⟨g,gs,far,h1,h2,h3,h4,h5⟩:=h
 exact stk_find w sb tb gs l h2 n (by omega)
theorem All_si (h:SI w0 B tb sb ex T l w):Calls Tryz.prog 105 #[.pointer (some ⟨sb,0,none⟩)] w fun e w'=> ∃v,e= .returned v∧w'.ownsRow w.heap.size 3 1 v l.length (intsV l)∧Below w.heap.size w w':=by
 obtain⟨g,gs,far,h1,h2,h3,h4,h5⟩:=h
 exact stk_all w sb tb gs l h2 (by omega)
theorem named_si (h:SI w0 B tb sb ex T l w) (n:Int) (names:List ByteArray) (a:Option Addr) (c:Nat) (ha:At w a (strsV names)) (hl:names.length≤1048576) :
 Calls Tryz.prog 176 #[.pointer (some ⟨sb,0,none⟩),.int .i64 n,.slice a names.length c] w fun e w'=>e= .returned (.bool (namedF T n names))∧Below w.heap.size w w':=by
 obtain⟨g,gs,far,h1,h2,h3,h4,h5⟩:=h
 exact snamed_any (farW far T) w sb tb g gs l h2 h1.tree h1.atti n names a c ha hl
theorem Has_si (h:SI w0 B tb sb ex T l w) (scope:Int) (names:List ByteArray) (a:Option Addr) (c:Nat) (ha:At w a (strsV names)) (hn:names.length≤1048576) :
 Calls Tryz.prog 121 #[.pointer (some ⟨sb,0,none⟩),.int .i64 scope,.slice a names.length c] w fun e w'=>e= .returned (.bool (hasF T l scope names))∧Below w.heap.size w w':=by
 obtain⟨g,gs,far,h1,h2,h3,h4,h5⟩:=h
 exact Has_any (farW far T) w sb tb g gs l h2 h1.tree h1.atti (by omega) scope names a c ha hn
theorem HasNode_si (h:SI w0 B tb sb ex T l w) (m:Int) :
 Calls Tryz.prog 220 #[.pointer (some ⟨sb,0,none⟩),.int .i64 m] w fun e w'=>e= .returned (.bool (hasNodeF T l m))∧Below w.heap.size w w':=by
 obtain⟨g,gs,far,h1,h2,h3,h4,h5⟩:=h
 exact HasNode_any (farW far T) w sb tb g gs l h2 h1.tree h1.atti (by omega) m
theorem What_si (h:SI w0 B tb sb ex T l w) (n:Int) :
 Calls Tryz.prog 49 #[.pointer (some ⟨tb,0,none⟩),.int .i64 n] w fun e w'=> ∃v,e= .returned (.tuple #[.int .i64 (spaceQ T n),.string (nameQ T n),v]) ∧
  w'.ownsRow w.heap.size 57 2 v (attrsQ T n).length (pairsV (attrsQ T n))∧Below w.heap.size w w':=by
 obtain⟨g,gs,far,h1,h2,h3,h4,h5⟩:=h
 exact What_any (farW far T) tb g w n h1.atti h1.tree
end
end Go.Proofs.YtgepobccoffnaaaGreatDoor
namespace Go.Proofs.YtgepobccoffnaaaGreatDoor
open Go.RowKit Mem
section
variable {w0 w w':World} {B B' tb sb:Nat} {ex:Nat→Prop} {T T':TreeD} {l:List Int}
theorem SI.cells (h:SI w0 B tb sb ex T l w): ∃a c,w.cell? ⟨sb,0,none⟩=some (.pointer (some ⟨tb,0,none⟩))∧w.cell? ⟨sb,1,none⟩=some (.slice a l.length c)∧At w a (intsV l):=by
 obtain⟨g,gs,far,h1,h2,h3,h4,h5⟩:=h
 obtain⟨a,c,c0,c1,hA,_⟩:=h2.cells
 exact⟨a,c,c0,c1,hA⟩
theorem take_last {l:List Int} {k:Nat} (h:k<l.length):(l.take (k+1)).getLast?.getD 0=l[k]∧(l.take (k+1)).dropLast=l.take k:=by
 rw[List.take_succ_eq_append_getElem h]
 exact⟨by rw[List.getLast?_concat];rfl,List.dropLast_concat⟩
theorem untilF_step (T:TreeD) (names:List ByteArray) (l:List Int) (k:Nat) (h:k<l.length):untilF T names (l.take (k+1)).reverse=if namedF T l[k] names then(l.take k).reverse else untilF T names (l.take k).reverse:=by
 rw[List.take_succ_eq_append_getElem h,List.reverse_append]
 rfl
theorem Until_si (h:SI w0 B tb sb ex T l w) (names:List ByteArray) (a:Option Addr) (c:Nat) (ha:AtF (Own w0 ex) w a (strsV names)) (hn:names.length≤1048576) :
 Calls Tryz.prog 122 #[.pointer (some ⟨sb,0,none⟩),.slice a names.length c] w fun e w'=>e= .returned (.tuple #[])∧SI w0 B tb sb ex T (untilF T names l.reverse).reverse w'∧Keeps (Own w0 ex) w w':=by
 have HS:=Lib.hid h
 have HA:=Lib.hid ha
 have hsh:=h.short
 clear h ha
 go_enter Tryz.func122,Tryz.ntmps122
 go_wp2_with fail
 go_loopg [] l.length (fun k wr=>Hid (k≤l.length∧SI w0 B tb sb ex T (l.take k) wr∧Keeps (Own w0 ex) w wr∧untilF T names l.reverse=untilF T names (l.take k).reverse))
 case atStart=>exact Lib.hid ⟨Nat.le_refl _,by rw[List.take_of_length_le (Nat.le_refl _)];exact HS.out,Keeps.refl _ _,by rw[List.take_of_length_le (Nat.le_refl _)]⟩
 case round =>
  have hk:=hrel.out.1
  obtain⟨sa,sc,c0,c1,_⟩:=hrel.out.2.1.cells
  rw[List.length_take,Nat.min_eq_left hk]at c1
  have HR:=hrel
  clear hrel
  cases gk with
  |zero =>
   go_wp2_with fail
   go_end0
   refine⟨rfl,?_,HR.out.2.2.1⟩
   rw[HR.out.2.2.2]
   exact HR.out.2.1
  |succ k =>
   have hlt:k<l.length:=by omega
   have HT:=Lib.hid (take_last hlt)
   have HU:=Lib.hid (untilF_step T names l k hlt)
   have HP:=Lib.hid (Pop_si HR.out.2.1)
   rw[HT.out.1,HT.out.2]at HP
   obtain⟨x,hx⟩: ∃x,x=l[k]:=⟨_,rfl⟩
   rw[←hx]at HP HU
   clear hx
   cases hnm:namedF T x names
   all_goals
    rw[hnm]at HU
    go_wp2_with (first|(go_at_call 64;go_must (refine HP.out.mono ?_;rintro e w1 ⟨rfl,h1,hk1⟩;have HN:=Lib.hid (named_si h1 x names a c ((HA.out.kept HR.out.2.2.1).kept hk1).at hn);rw[hnm]at HN;have H1:=Lib.hid h1;have HK1:=Lib.hid hk1;clear h1 hk1))|(go_at_call 176;go_must (refine HN.out.mono ?_;rintro e w2 ⟨rfl,hb2⟩;have HB2:=Lib.hid hb2;clear hb2)))
    have HE:=Lib.hid (H1.out.world HB2.out)
    have HKE:=Lib.hid ((HR.out.2.2.1.trans HK1.out).trans (Keeps.ofBelow HB2.out))
    first
     |(go_roundg k
       case measure=>omega
       case rel=>exact Lib.hid ⟨by omega,HE.out,HKE.out,by rw[HR.out.2.2.2,HU.out];rfl⟩)
     |(refine bodyPost_ret (results_none rfl _ _ _) rfl ?_
       refine⟨rfl,?_,HKE.out⟩
       rw[HR.out.2.2.2,HU.out,if_pos trivial,List.reverse_reverse]
       exact HE.out)
theorem SI.lay (h:SI w0 B tb sb ex T l w) (o:Obj):SI w0 B tb sb (fun k=>ex k∨k=w.heap.size) T l (w.alloc o) :=
 h.foreign (F:=fun _=>False) (Keeps.ofBelow ((Below.refl _ _).alloc (Nat.le_refl _) o)) (fun _ h=>h.elim) fun k hk=>by
  rcases hk with hk|hk
  ·refine⟨.inl hk,?_⟩
   obtain⟨g,gs,far,h1,h2,h3,h4,h5⟩:=h
   have:=(h1.tree.far_lt k (h4 k hk)).1
   simp;omega
  ·exact⟨.inr (by omega),by simp;omega⟩
theorem SI.less {ex':Nat→Prop} (h:SI w0 B tb sb ex T l w) (he: ∀k,ex' k→ex k):SI w0 B tb sb ex' T l w:=by
 obtain⟨g,gs,far,h1,h2,h3,h4,h5⟩:=h
 exact⟨g,gs,far,h1,h2,fun k hk=>⟨(h3 k hk).1,(h3 k hk).2.1,fun hx=>(h3 k hk).2.2 (he k hx)⟩,fun k hk=>h4 k (he k hk),h5⟩
end
end Go.Proofs.YtgepobccoffnaaaGreatDoor
end
section
namespace Go.Proofs.YtgepobccoffnaaaGreatDoor
open Go Go.Proofs Go.Shelf Go.RowKit Go.Lib
def shelfRen2:Go.Shelf.Ren:=⟨fun|21=>237|23=>161|27=>240|28=>241|35=>242|39=>243|n=>n,fun|0=>0|3=>3|4=>4|22=>75|n=>n,fun n=>n⟩
theorem lays2_23:Lays2.n23 Tryz.prog shelfRen2:= {
 mixed:=by kernel_rfl
 f23:=Tryz.func161.trans (congrArg some (by kernel_rfl))
 t0:=Tryz.underlying0
 a0:=Tryz.isAgg0
 z0:=Tryz.sizeOf0
 v0:=Tryz.zeroValue0
 t3:=Tryz.underlying3
 a3:=Tryz.isAgg3
 z3:=Tryz.sizeOf3
 v3:=Tryz.zeroValue3
 t4:=Tryz.underlying4
 a4:=Tryz.isAgg4
 z4:=Tryz.sizeOf4
 v4:=Tryz.zeroValue4
 t22:=Tryz.underlying75
 a22:=Tryz.isAgg75
 z22:=Tryz.sizeOf75
 v22:=Tryz.zeroValue75
 i3:=by kernel_rfl}
theorem lays2_23i:Lays2.n21 Tryz.prog shelfRen2:= {
 mixed:=by kernel_rfl
 f21:=Tryz.func237.trans (congrArg some (by kernel_rfl))
 f27:=Tryz.func240.trans (congrArg some (by kernel_rfl))
 f28:=Tryz.func241.trans (congrArg some (by kernel_rfl))
 f35:=Tryz.func242.trans (congrArg some (by kernel_rfl))
 f39:=Tryz.func243.trans (congrArg some (by kernel_rfl))
 t0:=Tryz.underlying0
 a0:=Tryz.isAgg0
 z0:=Tryz.sizeOf0
 v0:=Tryz.zeroValue0
 t3:=Tryz.underlying3
 a3:=Tryz.isAgg3
 z3:=Tryz.sizeOf3
 v3:=Tryz.zeroValue3
 t4:=Tryz.underlying4
 a4:=Tryz.isAgg4
 z4:=Tryz.sizeOf4
 v4:=Tryz.zeroValue4
 t22:=Tryz.underlying75
 a22:=Tryz.isAgg75
 z22:=Tryz.sizeOf75
 v22:=Tryz.zeroValue75
 i3:=by kernel_rfl}
end Go.Proofs.YtgepobccoffnaaaGreatDoor
end
