/- Texts joined for a claim: ResA, KpAB, InvA, BuLm, StkI: plain laws and contracts. No conditions beyond those that each lemma types. -/
import Derived.Test.YtgepobccoffnaaaGreatDoorT14
import Derived.BigQuiet
import Derived.Deep.Cut
import Derived.Deep.CutBlock
import Derived.Deep.CutRange
import Derived.Deep.RegionHeld3
import Derived.Deep.RegionLaw
import Derived.Test.YtgepobccoffnaaaGreatDoorT08
import Derived.Test.YtgepobccoffnaaaGreatDoorT09
set_option linter.unusedVariables false
set_option linter.unusedSimpArgs false
set_option maxRecDepth 100000
set_option maxHeartbeats 8000000
section
namespace Go.Proofs.YtgepobccoffnaaaGreatDoor
open Go.RowKit Mem
def Mor (T U:TreeD):Prop:=T.nodes.length≤U.nodes.length∧U.most=T.most∧ ∀x,elemF T x=true→elemF U x=true
theorem Mor.refl (T:TreeD):Mor T T:=⟨Nat.le_refl _,rfl,fun _ h=>h⟩
theorem Mor.trans {T U V:TreeD} (h:Mor T U) (k:Mor U V):Mor T V:=⟨Nat.le_trans h.1 k.1,k.2.1.trans h.2.1,fun x hx=>k.2.2 x (h.2.2 x hx)⟩
theorem addF_mor (T:TreeD) (d:ND):Mor T (addF T d):=by
 refine⟨by simp[addF],rfl,fun x hx=> ?_⟩
 obtain⟨i,hi,rfl,h1,_⟩:=elemF_nat hx
 rw[addF_elem T d i hi]
 exact hx
theorem mkF_mor (T:TreeD) (d:ND):Mor T (mkF T d).1:=by
 unfold mkF
 split
 ·exact addF_mor T d
 ·exact Mor.refl T
theorem likeF_mor (T:TreeD) (n:Int):Mor T (likeF T n).1:=by
 unfold likeF
 split
 ·exact mkF_mor _ _
 ·exact Mor.refl T
theorem elemF_modZ (T:TreeD) (n:Int) (f:ND→ND) (hf: ∀d,(f d).elem=d.elem) (x:Int):elemF (modN T n f) x=elemF T x:=by
 rw[show modN T n f=modN T ((n.toNat:Nat):Int) f from by unfold modN;rw[Int.toNat_natCast]]
 exact elemF_mod T n.toNat f hf x
theorem insertF_elemZ (T:TreeD) (a:Int) (i:Nat) (n x:Int):elemF (insertF T a i n) x=elemF T x:=by
 unfold insertF
 rw[elemF_modZ _ _ (setParent a) (fun _=>rfl),elemF_modZ _ _ (setKids _) (fun _=>rfl)]
theorem takeF_elemZ (T:TreeD) (n x:Int):elemF (takeF T n) x=elemF T x:=by
 unfold takeF
 rw[elemF_modZ _ _ (setParent (-1)) (fun _=>rfl)]
 unfold kidsOff
 split
 ·rw[elemF_modZ _ _ (setKids _) (fun _=>rfl)]
 ·rfl
theorem putF_elem (T:TreeD) (a b n x:Int):elemF (putF T a b n) x=elemF T x:=by rw[putF,insertF_elemZ,takeF_elemZ]
theorem putE_mor (T:TreeD) (a b n:Int):Mor T (putE T a b n).1:=by
 unfold putE
 split
 ·exact⟨Nat.le_of_eq (putF_len ..).symm,putF_most ..,fun x hx=>by rw[putF_elem];exact hx⟩
 ·exact Mor.refl T
theorem moveE_mor (T:TreeD) (a b:Int):Mor T (moveE T a b).1:=by
 unfold moveE
 split
 ·have: ∀(l:List Int) (U:TreeD),Mor T U→Mor T (moveF U b l):=by
   intro l
   induction l with
   |nil=>exact fun _ h=>h
   |cons x r ih=>exact fun U h=>ih _ (h.trans (putE_mor _ _ _ _))
  exact this _ _ (Mor.refl T)
 ·exact Mor.refl T
theorem textE_mor (T:TreeD) (a b:Int) (s:ByteArray):Mor T (textE T a b s).1:=by
 unfold textE
 split
 ·split
  ·exact Mor.refl T
  ·unfold textAt
   split
   ·exact⟨Nat.le_of_eq (modN_len ..).symm,rfl,fun x hx=>(elemF_modZ _ _ (addText s) (fun _=>rfl) x).trans hx⟩
   ·split
    ·refine(addF_mor T (textN s)).trans ⟨Nat.le_of_eq (insertF_len ..).symm,rfl,fun x hx=>(insertF_elemZ _ _ _ _ x).trans hx⟩
    ·exact Mor.refl T
 ·exact Mor.refl T
theorem insertL_mor (T:TreeD) (l:List Int) (on:Bool) (sp:Int) (nm:ByteArray) (at':List Pair):Mor T (insertL T l on sp nm at').1:=by
 unfold insertL
 simp only
 split
 ·exact(mkF_mor _ _).trans (putE_mor _ _ _ _)
 ·exact mkF_mor _ _
theorem insertL_yes {T:TreeD} (hm:(T.nodes.length:Int)-1<T.most) (l:List Int) (on:Bool) (sp:Int) (nm:ByteArray) (at':List Pair) :
 (insertL T l on sp nm at').2.1=l++ [(T.nodes.length:Int)]∧(insertL T l on sp nm at').2.2=((T.nodes.length:Int),0)∧(insertL T l on sp nm at').1.nodes.length=T.nodes.length+1:=by
 have e:mkF T (elemN sp nm at')=(addF T (elemN sp nm at'),(T.nodes.length:Int),0):=by rw[mkF,if_pos hm]
 unfold insertL
 rw[e]
 refine⟨rfl,rfl,?_⟩
 show(putE _ _ _ _).1.nodes.length=_
 have h: ∀(U:TreeD) (a b n:Int),(putE U a b n).1.nodes.length=U.nodes.length:=fun U a b n=>by
  unfold putE
  split
  ·exact putF_len ..
  ·rfl
 rw[h]
 simp[addF]
theorem insertL_no {T:TreeD} (hm: ¬(T.nodes.length:Int)-1<T.most) (l:List Int) (on:Bool) (sp:Int) (nm:ByteArray) (at':List Pair):insertL T l on sp nm at'=(T,l,0,43):=by
 have e:mkF T (elemN sp nm at')=(T,0,43):=by rw[mkF,if_neg hm]
 unfold insertL
 rw[e]
 rfl
theorem insertL_len (T:TreeD) (l:List Int) (on:Bool) (sp:Int) (nm:ByteArray) (at':List Pair):(insertL T l on sp nm at').2.1.length≤l.length+1:=by
 by_cases hm:(T.nodes.length:Int)-1<T.most
 ·rw[(insertL_yes hm l on sp nm at').1];simp
 ·rw[insertL_no hm];exact Nat.le_succ _
def stillB (l:List Int) (x:Int):Bool:=decide (x= -1)||decide (0≤rfind l x)
def begR (l:List Int):List Int→Nat
 | []=>0
 |x::r=>if stillB l x then r.length+1 else begR l r
def begF (l ent:List Int):Nat:=begR l ent.reverse
theorem begR_step (l ent:List Int) (k:Nat) (h:k<ent.length):begR l (ent.take (k+1)).reverse=if stillB l ent[k]then k+1 else begR l (ent.take k).reverse:=by
 rw[List.take_succ_eq_append_getElem h,List.reverse_append,List.reverse_singleton,List.singleton_append,begR,List.length_reverse,List.length_take,Nat.min_eq_left (by omega)]
theorem begR_le (l:List Int): ∀r:List Int,begR l r≤r.length
 | []=>Nat.le_refl _
 |x::r=>by
  rw[begR]
  split
  ·exact Nat.le_refl _
  ·exact Nat.le_succ_of_le (begR_le l r)
theorem begF_le (l ent:List Int):begF l ent≤ent.length:=by
 have:=begR_le l ent.reverse
 rwa [List.length_reverse]at this
noncomputable def restR (on:Bool):Nat→Nat→AS→AS×Int
 |0,_,S=>(S,0)
 |r+1,i,S =>
  if(insertL S.T S.l on (spaceQ S.T (S.ent.getD i 0)) (nameQ S.T (S.ent.getD i 0)) (attrsQ S.T (S.ent.getD i 0))).2.2.2=0 then
   restR on r (i+1) ⟨(insertL S.T S.l on (spaceQ S.T (S.ent.getD i 0)) (nameQ S.T (S.ent.getD i 0)) (attrsQ S.T (S.ent.getD i 0))).1,(insertL S.T S.l on (spaceQ S.T (S.ent.getD i 0)) (nameQ S.T (S.ent.getD i 0)) (attrsQ S.T (S.ent.getD i 0))).2.1,S.ent.set i (insertL S.T S.l on (spaceQ S.T (S.ent.getD i 0)) (nameQ S.T (S.ent.getD i 0)) (attrsQ S.T (S.ent.getD i 0))).2.2.1⟩
  else(⟨(insertL S.T S.l on (spaceQ S.T (S.ent.getD i 0)) (nameQ S.T (S.ent.getD i 0)) (attrsQ S.T (S.ent.getD i 0))).1,(insertL S.T S.l on (spaceQ S.T (S.ent.getD i 0)) (nameQ S.T (S.ent.getD i 0)) (attrsQ S.T (S.ent.getD i 0))).2.1,S.ent⟩,(insertL S.T S.l on (spaceQ S.T (S.ent.getD i 0)) (nameQ S.T (S.ent.getD i 0)) (attrsQ S.T (S.ent.getD i 0))).2.2.2)
noncomputable def restL (on:Bool) (S:AS):AS×Int:=restR on (S.ent.length-begF S.l S.ent) (begF S.l S.ent) S
section
variable {w0 w w':World} {B B' tb sb lb:Nat} {ex:Nat→Prop} {T T':TreeD} {l l' ent ent':List Int} {on on':Bool}
theorem still_li (h:LI w0 B tb sb lb ex T l ent on w) (k:Nat) (hk:k<ent.length) (i:Int) (hi:i=(k:Int)) :
 Calls Tryz.prog 205 #[.pointer (some ⟨lb,0,none⟩),.int .i64 i] w fun e w'=>e= .returned (.bool (stillB l ent[k]))∧ ∃q,w'=w.drewN q:=by
 subst hi
 obtain⟨sa,sc,c0,c1,c2,c3,hA,hcm,hcl⟩:=h.cells
 obtain⟨b,o,rfl,e1⟩:=hA _ _ (intsV_get ent k hk)
 have HL:=Lib.hid h
 have HF:=Lib.hid (fun u (hu:LI w0 B tb sb lb ex T l ent on u)=>SFind_li hu ent[k])
 have HS:=Lib.hid (show stillB l ent[k]=(decide (ent[k]= -1)||decide (0≤rfind l ent[k]))from rfl)
 obtain⟨x,hx⟩: ∃x,x=ent[k]:=⟨_,rfl⟩
 rw[←hx]at e1 HF HS ⊢
 unfold maxLen at hcm
 clear hx h hA
 by_cases h1:x= -1
 ·have he:(x== -1)=true:=by simpa using h1
  have HS2:Hid (stillB l x=true):=Lib.hid (by rw[HS.out,decide_eq_true h1];rfl)
  clear h1
  go_enter Tryz.func205,Tryz.ntmps205
  go_wp2_with fail
  go_quiet (fail)
  go_wp2_with fail
  go_ret
  exact⟨ret_bool HS2.out.symm,_,rfl⟩
 ·have he:(x== -1)=false:=by simpa using h1
  have HS2:Hid (stillB l x=decide (0≤rfind l x)):=Lib.hid (by rw[HS.out,decide_eq_false h1];rfl)
  clear h1
  generalize rfind l x=p at *
  go_enter Tryz.func205,Tryz.ntmps205
  go_wp2_with fail
  go_quiet ((go_at_call 160;exact(HF.out _ (HL.out.world (stk_drewN _ _))).mono fun e w' ⟨he,hw⟩=>⟨he,_,hw.symm⟩))
  go_wp2_with fail
  go_ret
  exact⟨ret_bool HS2.out.symm,_,rfl⟩
theorem Restore_li (h:LI w0 B tb sb lb ex T l ent on w) (hle:l.length+ent.length<1000000) :
 Calls Tryz.prog 162 #[.pointer (some ⟨lb,0,none⟩)] w fun e w'=>e= .returned (.int .i64 (restL on ⟨T,l,ent⟩).2)∧LI w0 B tb sb lb ex (restL on ⟨T,l,ent⟩).1.T (restL on ⟨T,l,ent⟩).1.l (restL on ⟨T,l,ent⟩).1.ent on w'∧Keeps (Own w0 ex) w w':=by
 obtain⟨sa,sc,c0,c1,c2,c3, -,hcm, -⟩:=h.cells
 unfold maxLen at hcm
 have HL:=Lib.hid h
 have HB0:=Lib.hid (show begF l ent=begR l ent.reverse from rfl)
 have HBl:=begF_le l ent
 have HR0:Hid (restL on ⟨T,l,ent⟩=restR on (ent.length-begF l ent) (begF l ent) ⟨T,l,ent⟩):=Lib.hid rfl
 obtain⟨bg,hbg⟩: ∃bg,bg=begF l ent:=⟨_,rfl⟩
 rw[←hbg]at HB0 HBl HR0
 have HT0:=Lib.hid (show ent.take ent.length=ent from List.take_of_length_le (Nat.le_refl _))
 clear h hbg
 go_enter Tryz.func162,Tryz.ntmps162
 go_upto_block 0 with fail
 go_cut [3]from 6 to 21 (fun s3 wx=>s3= .int .i64 bg∧Hid (Below w.heap.size w wx))
 case first =>
  go_wp2_with fail
  go_loopw [3] (fun i wr=> ∃k:Nat,k≤ent.length∧i= .int .i64 k∧Hid (Below w.heap.size w wr)∧Hid (bg=begR l (ent.take k).reverse)) (fun i _=>(intOf i).toNat)
  case atStart=>exact⟨ent.length,Nat.le_refl _,rfl,Lib.hid (Below.refl _ _),Lib.hid (by rw[HB0.out,HT0.out])⟩
  case round =>
   obtain⟨k,hk,rfl,HBr,HV⟩:=hrel
   cases k with
   |zero =>
    go_wp2_with fail
    go_meet
    exact⟨by rw[HV.out];rfl,HBr⟩
   |succ k =>
    have hlt:k<ent.length:=by omega
    have hw1:IntKind.i64.wrap (((k+1:Nat):Int)-1)=(k:Int):=by rw[IntKind.wrap_i64];omega
    have HSt:=Lib.hid (still_li (HL.out.world HBr.out) k hlt k rfl)
    have HST:=Lib.hid (begR_step l ent k hlt)
    cases hs:stillB l ent[k]
    ·rw[hs]at HSt HST
     go_wp2_with (go_at_call 205;go_must (refine HSt.out.mono ?_;rintro e w2 ⟨rfl,q,rfl⟩))
     go_roundw
     case rel=>exact⟨k,by omega,by go_num,Lib.hid (belowCall HBr.out (stk_drewN _ _)),Lib.hid (by rw[HV.out,HST.out];rfl)⟩
     case measure=>simp[intOf]
    ·rw[hs,if_pos rfl]at HST
     go_wp2_with (go_at_call 205;go_must (refine HSt.out.mono ?_;rintro e w2 ⟨rfl,q,rfl⟩))
     go_meet
     exact⟨(by rw[HV.out,HST.out];go_num),Lib.hid (belowCall HBr.out (stk_drewN _ _))⟩
 case rest =>
 obtain⟨rfl,HBc⟩:=hcut
 have HLc:=Lib.hid (HL.out.world HBc.out)
 have HKc:=Lib.hid (Keeps.ofBelow (F:=Own w0 ex) HBc.out)
 clear c0 c1 c2 c3 HL HT0 HB0 hcm
 go_wp2_with fail
 go_loopw [3] (fun i wr=> ∃(k:Nat) (S:AS),bg≤k∧k≤ent.length∧i= .int .i64 k∧Hid (LI w0 B tb sb lb ex S.T S.l S.ent on wr)∧Hid (Keeps (Own w0 ex) w wr)∧Hid (restL on ⟨T,l,ent⟩=restR on (ent.length-k) k S)∧S.ent.length=ent.length∧S.l.length≤l.length+k) (fun i _=>ent.length-(intOf i).toNat)
 case atStart=>exact⟨bg,⟨T,l,ent⟩,Nat.le_refl _,HBl,rfl,HLc,HKc,HR0,rfl,by simp⟩
 case round =>
  obtain⟨k,S,hk1,hk2,rfl,HLr,HKr,HV,hse,hsl⟩:=hrel
  obtain⟨T1,l1,e1⟩:=S
  simp only at HLr HV hse hsl ⊢
  obtain⟨sa1,sc1,g0,g1,g2,g3,hA,hcm,hcl⟩:=HLr.out.cells
  unfold maxLen at hcm
  by_cases hlt:k<ent.length
  ·obtain⟨r,hr⟩: ∃r,ent.length-k=r+1:=⟨ent.length-k-1,by omega⟩
   have hlt1:k<e1.length:=by omega
   obtain⟨b,o,rfl,f1⟩:=hA _ _ (intsV_get e1 k hlt1)
   have hgd:e1.getD k 0=e1[k]:=by simp[List.getD,List.getElem?_eq_getElem hlt1]
   have HV2:=HV
   rw[hr,restR]at HV2
   simp only[hgd]at HV2
   have hatt:=attrsQ_short HLr.out.att e1[k]
   have HLd:=Lib.hid (HLr.out.world (Below.refl wr.heap.size wr).drew)
   have HW:=Lib.hid (What_li HLd.out e1[k])
   have hl1:l1.length<1000000:=by omega
   have HIn:=Lib.hid (fun u (hu:LI w0 B tb sb lb ex T1 l1 e1 on u) (a:Option Addr) (c:Nat) (hc:a=none→c=0) (ha:At u a (pairsV (attrsQ T1 e1[k])))=>Insert_li hu hl1 (spaceQ T1 e1[k]) (nameQ T1 e1[k]) (attrsQ T1 e1[k]) _ a c rfl hc hatt ha)
   have HIl:=Lib.hid (insertL_len T1 l1 on (spaceQ T1 e1[k]) (nameQ T1 e1[k]) (attrsQ T1 e1[k]))
   have hHR:=Lib.hid hr
   obtain⟨x,hx⟩: ∃x,x=e1[k]:=⟨_,rfl⟩
   rw[←hx]at f1 HW
   simp only[←hx]at HV2 HIn HIl hatt
   generalize attrsQ T1 x=xa at *
   generalize spaceQ T1 x=xs at *
   generalize nameQ T1 x=xn at *
   generalize insertL T1 l1 on xs xn xa=q at *
   obtain⟨T2,l2,n2,er⟩:=q
   simp only at HV2 HIn HIl
   rw[hse]at g2
   clear hA hx hgd hr HV
   go_wp2_with fail
   go_region_law (first
    |(go_simp;go_at_call 49;refine HW.out.mono ?_
      rintro e w2 ⟨v,rfl,ho2,hb2⟩
      obtain⟨a2,c2,rfl,_,_,hn2,hat2⟩:=own_at ho2
      have H2:=Lib.hid (HLd.out.world hb2)
      have K2:=Lib.hid (Keeps.ofBelow (F:=Own w0 ex) hb2)
      have A2:=Lib.hid hat2
      have N2:=Lib.hid hn2
      clear ho2 hat2 hn2)
    |(go_simp;go_at_call 102;refine(HIn.out _ H2.out _ _ N2.out A2.out).mono ?_
      rintro e w3 ⟨rfl,h3,k3⟩
      have H3:=Lib.hid h3
      have K3:=Lib.hid k3
      clear h3 k3))
   all_goals
    have K3':=Lib.hid ((HKr.out.trans (Keeps.ofBelow (F:=Own w0 ex) (Below.refl wr.heap.size wr).drew)).trans (K2.out.trans K3.out))
    by_cases h0:er=0
    ·rw[if_pos h0]at HV2
     subst h0
     obtain⟨gS,cS,s0,s1,s2,s3,s4,s5,s6,s7,s8⟩:=H3.out.set k hlt1
     rw[hse]at s2 s3
     have HS8:=Lib.hid (s8 n2)
     have HSE:Hid ((e1.set k n2).length=ent.length):=Lib.hid (by rw[List.length_set];exact hse)
     unfold maxLen at s4
     clear s8
     go_wp2_with fail
     go_roundw
     case rel=>exact⟨k+1,⟨T2,l2,e1.set k n2⟩,by omega,by omega,by go_num,Lib.hid HS8.out.1,Lib.hid (K3'.out.trans HS8.out.2),Lib.hid (by rw[HV2.out];congr 1;have:=hHR.out;omega),HSE.out,by have:=HIl.out;show l2.length≤_;omega⟩
     case measure=>simp[intOf];omega
    ·rw[if_neg h0]at HV2
     have he':(er !=0)=true:=by simpa using h0
     clear h0
     go_wp2_with fail
     go_ret
     rw[HV2.out]
     exact⟨rfl,H3.out,K3'.out⟩
  ·obtain rfl:k=ent.length:=by omega
   have HE:Hid (restL on ⟨T,l,ent⟩=(⟨T1,l1,e1⟩,0)):=Lib.hid (by rw[HV.out,Nat.sub_self];rfl)
   rw[hse]at g2
   clear hA
   go_wp2_with fail
   go_ret
   rw[HE.out]
   exact⟨rfl,HLr.out,HKr.out⟩
end
end Go.Proofs.YtgepobccoffnaaaGreatDoor
end
section
namespace Go.Proofs.YtgepobccoffnaaaGreatDoor
open Go.RowKit Mem
theorem rfind_append (A B:List Int) (x:Int):rfind (A++B) x=if 0≤rfind B x then A.length+rfind B x else rfind A x:=by
 induction B generalizing A with
 |nil=>rw[List.append_nil,if_neg (by show ¬(0:Int)≤rfind [] x;exact(by decide: ¬(0:Int)≤ -1))]
 |cons y r ih =>
  rw[show A++y::r=(A++ [y])++r by simp,ih (A++ [y]),show y::r= [y]++r from rfl,ih [y],rfind_snoc,show rfind [y] x=if y=x then 0 else -1 from rfind_snoc [] y x,List.length_append,List.length_singleton]
  by_cases h:0≤rfind r x
  ·simp only[if_pos h]
   rw[if_pos (by omega)];push_cast;omega
  ·simp only[if_neg h]
   by_cases hy:y=x
   ·simp[hy]
   ·simp[hy]
theorem rfind_cons (y:Int) (B:List Int) (x:Int):rfind (y::B) x=if 0≤rfind B x then 1+rfind B x else if y=x then 0 else -1:=by
 rw[show y::B= [y]++B from rfl,rfind_append]
 split
 ·rfl
 ·rw[show [y]=([]:List Int)++ [y]from rfl,rfind_snoc]
  split <;>rfl
theorem mem_none {e:List Int} {x:Int}: ¬x∈e↔rfind e x<0:=by
 rw[←mem_rfind];omega
end Go.Proofs.YtgepobccoffnaaaGreatDoor
namespace Go.Proofs.YtgepobccoffnaaaGreatDoor
open Go.RowKit Mem
theorem elem_pos {T:TreeD} {x:Int} (h:elemF T x=true):1≤x∧x<T.nodes.length:=by
 obtain⟨i,hi,rfl,h1,_⟩:=elemF_nat h
 omega
theorem addF_new (T:TreeD) (d:ND) (h:1≤T.nodes.length):elemF (addF T d) T.nodes.length=d.elem:=by
 rw[elemF_of (addF T d) T.nodes.length h (by simp[addF])]
 simp[addF]
theorem mkF_new {T:TreeD} {d:ND} (hd:d.elem=true) (h1:1≤T.nodes.length) (h:(mkF T d).2.2=0):(mkF T d).2.1=T.nodes.length∧elemF (mkF T d).1 T.nodes.length=true:=by
 unfold mkF at h ⊢
 split
 ·exact⟨rfl,(addF_new T d h1).trans hd⟩
 ·rename_i hn
  rw[if_neg hn]at h
  cases h
theorem likeF_new {T:TreeD} {x:Int} (h:(likeF T x).2.2=0):(likeF T x).2.1=T.nodes.length∧elemF (likeF T x).1 T.nodes.length=true:=by
 unfold likeF at h ⊢
 split
 ·rename_i hx
  rw[if_pos hx]at h
  have:=elem_pos hx
  exact mkF_new rfl (by omega) h
 ·rename_i hx
  rw[if_neg hx]at h
  cases h
theorem count_set_le {e:List Int} {j:Nat} {n y:Int} (hn:n≠y):(e.set j n).count y≤e.count y:=by
 by_cases hj:j<e.length
 ·rw[List.set_eq_take_append_cons_drop,if_pos hj]
  conv=>rhs;rw[←List.take_append_drop j e,List.drop_eq_getElem_cons hj]
  rw[List.count_append,List.count_append,List.count_cons_of_ne hn]
  have:=List.count_le_count_cons (a:=y) (b:=e[j]) (l:=e.drop (j+1))
  omega
 ·rw[List.set_eq_of_length_le (by omega)]
  exact Nat.le_refl _
theorem mem_set_or {e:List Int} {j:Nat} {n x:Int} (h:x∈e.set j n):x∈e∨x=n:=by
 rcases List.mem_or_eq_of_mem_set h with h|h
 ·exact .inl h
 ·exact .inr h
end Go.Proofs.YtgepobccoffnaaaGreatDoor
end
section
namespace Go.Proofs.YtgepobccoffnaaaGreatDoor
open Go.RowKit Mem
structure FI (T:TreeD) (l ent:List Int):Prop where
 lel: ∀x∈l,elemF T x=true
 lnd: ∀x,l.count x≤1
 eel: ∀x∈ent,x= -1∨elemF T x=true
 one: ∀x,x≠ -1→ent.count x≤1
theorem insAt_count (e:List Int) (k:Nat) (n x:Int):(insAt e k n).count x=e.count x+if n=x then 1 else 0:=by
 unfold insAt
 conv=>rhs;rw[←List.take_append_drop k e]
 rw[List.count_append,List.count_append,List.count_cons]
 by_cases h:n=x
 ·subst h;simp;omega
 ·have:(n==x)=false:=by simpa using h
  rw[this,if_neg h];simp
theorem count_set_one {e:List Int} {n:Int} (hn: ¬n∈e) (i:Nat):(e.set i n).count n≤1:=by
 by_cases hi:i<e.length
 ·rw[List.set_eq_take_append_cons_drop,if_pos hi,List.count_append,List.count_cons_self,List.count_eq_zero.2 fun h=>hn (List.mem_of_mem_take h),List.count_eq_zero.2 fun h=>hn (List.mem_of_mem_drop h)]
  omega
 ·rw[List.set_eq_of_length_le (by omega),List.count_eq_zero.2 hn]
  omega
theorem mem_insAt {e:List Int} {k:Nat} {n x:Int} (h:x∈insAt e k n):x∈e∨x=n:=by
 unfold insAt at h
 rcases List.mem_append.1 h with h|h
 ·exact .inl (List.mem_of_mem_take h)
 ·rcases List.mem_cons.1 h with h|h
  ·exact .inr h
  ·exact .inl (List.mem_of_mem_drop h)
section
variable {T U:TreeD} {l l' ent ent':List Int} {n:Int}
theorem FI.grow (h:FI T l ent) (hm:Mor T U):FI U l ent:=⟨fun x hx=>hm.2.2 x (h.lel x hx),h.lnd,fun x hx=>(h.eel x hx).imp id (hm.2.2 x),h.one⟩
theorem FI.sub (h:FI T l ent) (hl:l'.Sublist l) (he:ent'.Sublist ent):FI T l' ent' :=
 ⟨fun x hx=>h.lel x (hl.subset hx),fun x=>Nat.le_trans (hl.count_le x) (h.lnd x),fun x hx=>h.eel x (he.subset hx),fun x hx=>Nat.le_trans (he.count_le x) (h.one x hx)⟩
theorem FI.mark (h:FI T l ent):FI T l (ent++ [-1]):=by
 refine⟨h.lel,h.lnd,fun x hx=> ?_,fun x hx=> ?_⟩
 ·rcases List.mem_append.1 hx with hx|hx
  ·exact h.eel x hx
  ·exact .inl (List.mem_singleton.1 hx)
 ·rw[List.count_append,List.count_singleton,if_neg (by simpa using fun e=>hx e.symm)]
  exact h.one x hx
theorem FI.fresh (h:FI T l ent) (hn:n=T.nodes.length): ¬n∈l∧ ¬n∈ent:=by
 refine⟨fun hx=> ?_,fun hx=> ?_⟩
 ·have:=elem_pos (h.lel n hx);omega
 ·rcases h.eel n hx with h1|h1
  ·omega
  ·have:=elem_pos h1;omega
theorem count_fresh {e:List Int} (hn: ¬n∈e):e.count n=0:=List.count_eq_zero.2 hn
theorem FI.ins (h:FI T l ent) (hn:n=T.nodes.length) (hm:Mor T U) (hel:elemF U n=true) (k:Nat):FI U (insAt l k n) ent:=by
 obtain⟨h1,_⟩:=h.fresh hn
 refine⟨fun x hx=> ?_,fun x=> ?_,(h.grow hm).eel,h.one⟩
 ·rcases mem_insAt hx with hx|hx
  ·exact hm.2.2 x (h.lel x hx)
  ·rw[hx];exact hel
 ·rw[insAt_count]
  by_cases e:n=x
  ·subst e;rw[count_fresh h1,if_pos rfl];omega
  ·rw[if_neg e];exact h.lnd x
theorem FI.put (h:FI T l ent) (hn:n=T.nodes.length) (hm:Mor T U) (hel:elemF U n=true) (i:Nat):FI U (l.set i n) ent:=by
 obtain⟨h1,_⟩:=h.fresh hn
 refine⟨fun x hx=> ?_,fun x=> ?_,(h.grow hm).eel,h.one⟩
 ·rcases mem_set_or hx with hx|hx
  ·exact hm.2.2 x (h.lel x hx)
  ·rw[hx];exact hel
 ·by_cases e:n=x
  ·subst e
   exact count_set_one h1 i
  ·exact Nat.le_trans (count_set_le e) (h.lnd x)
theorem FI.eins (h:FI T l ent) (hn:elemF T n=true) (hne: ¬n∈ent) (k:Nat):FI T l (insAt ent k n):=by
 refine⟨h.lel,h.lnd,fun x hx=> ?_,fun x hx=> ?_⟩
 ·rcases mem_insAt hx with hx|hx
  ·exact h.eel x hx
  ·rw[hx];exact .inr hn
 ·rw[insAt_count]
  by_cases e:n=x
  ·subst e;rw[count_fresh hne,if_pos rfl];omega
  ·rw[if_neg e];exact h.one x hx
theorem FI.eset (h:FI T l ent) (hn:elemF T n=true) (hne: ¬n∈ent) (i:Nat):FI T l (ent.set i n):=by
 refine⟨h.lel,h.lnd,fun x hx=> ?_,fun x hx=> ?_⟩
 ·rcases mem_set_or hx with hx|hx
  ·exact h.eel x hx
  ·rw[hx];exact .inr hn
 ·by_cases e:n=x
  ·subst e
   exact count_set_one hne i
  ·exact Nat.le_trans (count_set_le e) (h.one x hx)
theorem append_insAt (e:List Int) (n:Int):e++ [n]=insAt e e.length n:=by
 unfold insAt
 rw[List.take_of_length_le (Nat.le_refl _),List.drop_of_length_le (Nat.le_refl _)]
theorem dropF_sub (e:List Int) (i:Int):(dropF e i).Sublist e:=by
 unfold dropF
 split
 ·exact List.eraseIdx_sublist _ _
 ·exact List.Sublist.refl _
theorem rmF_sub (e:List Int) (n:Int):(rmF e n).Sublist e:=dropF_sub e _
theorem FI.epush (h:FI T l ent) (hn:elemF T n=true) (hne: ¬n∈ent):FI T l (pushF T ent n):=by
 unfold pushF
 rw[append_insAt]
 split
 ·exact(h.sub (List.Sublist.refl _) (dropF_sub _ _)).eins hn (fun hx=>hne ((dropF_sub _ _).subset hx)) _
 ·exact h.eins hn hne _
theorem clearF_sub (e:List Int):(clearF e).Sublist e:=List.take_sublist _ _
theorem insertL_new {on:Bool} {sp:Int} {nm:ByteArray} {at':List Pair} (h1:1≤T.nodes.length) (hm:(T.nodes.length:Int)-1<T.most):elemF (insertL T l on sp nm at').1 T.nodes.length=true:=by
 have e:mkF T (elemN sp nm at')=(addF T (elemN sp nm at'),(T.nodes.length:Int),0):=by rw[mkF,if_pos hm]
 unfold insertL
 rw[e]
 exact(putE_mor _ _ _ _).2.2 _ (addF_new T _ h1)
theorem FI.insert (h:FI T l ent) (h1:1≤T.nodes.length) (on:Bool) (sp:Int) (nm:ByteArray) (at':List Pair):FI (insertL T l on sp nm at').1 (insertL T l on sp nm at').2.1 ent:=by
 by_cases hm:(T.nodes.length:Int)-1<T.most
 ·obtain⟨q1,q2,q3⟩:=insertL_yes hm l on sp nm at'
  rw[q1,append_insAt]
  exact h.ins rfl (insertL_mor T l on sp nm at') (insertL_new h1 hm) _
 ·rw[insertL_no hm]
  exact h
theorem swapF_eq (l:List Int) (o n:Int):swapF l o n=l∨ ∃i,swapF l o n=l.set i n:=by
 unfold swapF
 split
 ·exact .inr ⟨_,rfl⟩
 ·exact .inl rfl
theorem insF_eq (l:List Int) (b n:Int):insF l b n=l∨ ∃i,insF l b n=insAt l i n:=by
 unfold insF
 split
 ·exact .inr ⟨_,rfl⟩
 ·exact .inl rfl
end
theorem turnR_fi (b:Int): ∀(r:List Int) (c:Nat) (S:TS),FI S.T S.l S.ent→FI (turnR b r c S).1.T (turnR b r c S).1.l (turnR b r c S).1.ent∧Mor S.T (turnR b r c S).1.T
 | [],_,S,h=>⟨h,Mor.refl _⟩
 |x::r,c,S,h=>by
  rw[turnR]
  split
  ·split
   ·exact turnR_fi b r (c+1) _ (h.sub (rmF_sub _ _) (dropF_sub _ _))
   ·split
    ·rename_i h0 _ he
     obtain⟨hn,hel⟩:=likeF_new he
     rw[←hn]at hel
     have hm:=likeF_mor S.T x
     have hp:=putE_mor (likeF S.T x).1 (likeF S.T x).2.1 0 S.last
     have hfr:=h.fresh hn
     have h1:FI (putE (likeF S.T x).1 (likeF S.T x).2.1 0 S.last).1 (swapF S.l x (likeF S.T x).2.1) S.ent:=by
      rcases swapF_eq S.l x (likeF S.T x).2.1 with e|⟨i,e⟩
      ·rw[e];exact h.grow (hm.trans hp)
      ·rw[e];exact h.put hn (hm.trans hp) (hp.2.2 _ hel) i
     have h2:=turnR_fi b r (c+1) ⟨(putE (likeF S.T x).1 (likeF S.T x).2.1 0 S.last).1,swapF S.l x (likeF S.T x).2.1,S.ent.set (rfind S.ent x).toNat (likeF S.T x).2.1,if S.last=b then rfind S.ent x+1 else S.keep,(likeF S.T x).2.1⟩ (h1.eset (hp.2.2 _ hel) hfr.2 _)
     exact⟨h2.1,(hm.trans hp).trans h2.2⟩
    ·exact⟨h.grow (likeF_mor _ _),likeF_mor _ _⟩
  ·exact turnR_fi b r (c+1) _ (h.sub (rmF_sub _ _) (List.Sublist.refl _))
theorem closeL_fi {T:TreeD} {l ent:List Int} (h:FI T l ent) (f b keep:Int):FI (closeL T l ent f b keep).1 (closeL T l ent f b keep).2.1 (closeL T l ent f b keep).2.2.1∧Mor T (closeL T l ent f b keep).1:=by
 unfold closeL
 split
 ·rename_i he
  obtain⟨hn,hel⟩:=likeF_new he
  rw[←hn]at hel
  have hm:=likeF_mor T f
  have hp:=(moveE_mor (likeF T f).1 b (likeF T f).2.1).trans (putE_mor (moveE (likeF T f).1 b (likeF T f).2.1).1 b 0 (likeF T f).2.1)
  have hfr:=h.fresh hn
  refine⟨?_,hm.trans hp⟩
  refine FI.eins ?_ (hp.2.2 _ hel) (fun hx=>hfr.2 ((dropF_sub _ _).subset hx)) _
  have h1:FI T (rmF l f) (dropF ent (rfind ent f)):=h.sub (rmF_sub _ _) (dropF_sub _ _)
  show FI _ (insF (rmF l f) b (likeF T f).2.1) _
  rcases insF_eq (rmF l f) b (likeF T f).2.1 with e|⟨i,e⟩
  ·rw[e];exact h1.grow (hm.trans hp)
  ·rw[e];exact h1.ins hn (hm.trans hp) (hp.2.2 _ hel) i
 ·exact⟨h.grow (likeF_mor _ _),likeF_mor _ _⟩
theorem turnL_fi {T:TreeD} {l ent:List Int} (h:FI T l ent) (on:Bool) (f b:Int):FI (turnL T l ent on f b).1 (turnL T l ent on f b).2.1 (turnL T l ent on f b).2.2.1∧Mor T (turnL T l ent on f b).1:=by
 obtain⟨h1,h2⟩:=turnR_fi b (betweenF l f b).reverse 1 ⟨T,l,ent,rfind ent f,b⟩ h
 unfold turnL
 simp only
 split
 ·have hp:=putE_mor (turnR b (betweenF l f b).reverse 1 ⟨T,l,ent,rfind ent f,b⟩).1.T (if underF l f≠0 then placeQ (turnR b (betweenF l f b).reverse 1 ⟨T,l,ent,rfind ent f,b⟩).1.T (turnR b (betweenF l f b).reverse 1 ⟨T,l,ent,rfind ent f,b⟩).1.l on (underF l f)else(0,0)).1 (if underF l f≠0 then placeQ (turnR b (betweenF l f b).reverse 1 ⟨T,l,ent,rfind ent f,b⟩).1.T (turnR b (betweenF l f b).reverse 1 ⟨T,l,ent,rfind ent f,b⟩).1.l on (underF l f)else(0,0)).2 (turnR b (betweenF l f b).reverse 1 ⟨T,l,ent,rfind ent f,b⟩).1.last
  obtain⟨h3,h4⟩:=closeL_fi (h1.grow hp) f b (turnR b (betweenF l f b).reverse 1 ⟨T,l,ent,rfind ent f,b⟩).1.keep
  exact⟨h3,(h2.trans hp).trans h4⟩
 ·exact⟨h1,h2⟩
theorem adoptR_fi (on:Bool) (name:ByteArray): ∀(r t:Nat) (S:AS),FI S.T S.l S.ent→FI (adoptR on name r t S).1.T (adoptR on name r t S).1.l (adoptR on name r t S).1.ent∧Mor S.T (adoptR on name r t S).1.T
 |0,_,S,h=>⟨h,Mor.refl _⟩
 |r+1,t,S,h=>by
  rw[adoptR]
  split
  ·exact⟨h,Mor.refl _⟩
  ·split
   ·exact⟨h.sub (List.Sublist.refl _) (rmF_sub _ _),Mor.refl _⟩
   ·split
    ·exact⟨h,Mor.refl _⟩
    ·split
     ·exact⟨h.sub (List.take_sublist _ _) (rmF_sub _ _),Mor.refl _⟩
     ·obtain⟨h1,h2⟩:=turnL_fi h on (findF S.T S.ent name) (blockF S.T S.l (findF S.T S.ent name))
      split
      ·obtain⟨h3,h4⟩:=adoptR_fi on name r (t+1) ⟨_,_,_⟩ h1
       exact⟨h3,h2.trans h4⟩
      ·exact⟨h1,h2⟩
theorem adoptL_fi {S:AS} (h:FI S.T S.l S.ent) (on:Bool) (name:ByteArray):FI (adoptL on name S).1.T (adoptL on name S).1.l (adoptL on name S).1.ent∧Mor S.T (adoptL on name S).1.T:=by
 unfold adoptL
 split
 ·exact⟨h.sub (List.dropLast_sublist _) (List.Sublist.refl _),Mor.refl _⟩
 ·exact adoptR_fi on name 8 0 S h
theorem restR_fi (on:Bool): ∀(r i:Nat) (S:AS),FI S.T S.l S.ent→1≤S.T.nodes.length→FI (restR on r i S).1.T (restR on r i S).1.l (restR on r i S).1.ent∧Mor S.T (restR on r i S).1.T
 |0,_,S,h,_=>⟨h,Mor.refl _⟩
 |r+1,i,S,h,h1=>by
  rw[restR]
  have hi:=h.insert h1 on (spaceQ S.T (S.ent.getD i 0)) (nameQ S.T (S.ent.getD i 0)) (attrsQ S.T (S.ent.getD i 0))
  have hm:=insertL_mor S.T S.l on (spaceQ S.T (S.ent.getD i 0)) (nameQ S.T (S.ent.getD i 0)) (attrsQ S.T (S.ent.getD i 0))
  split
  ·rename_i he
   by_cases hmm:(S.T.nodes.length:Int)-1<S.T.most
   ·obtain⟨q1,q2,q3⟩:=insertL_yes hmm S.l on (spaceQ S.T (S.ent.getD i 0)) (nameQ S.T (S.ent.getD i 0)) (attrsQ S.T (S.ent.getD i 0))
    have hnew:=insertL_new (l:=S.l) (on:=on) (sp:=spaceQ S.T (S.ent.getD i 0)) (nm:=nameQ S.T (S.ent.getD i 0)) (at':=attrsQ S.T (S.ent.getD i 0)) h1 hmm
    have hn:(insertL S.T S.l on (spaceQ S.T (S.ent.getD i 0)) (nameQ S.T (S.ent.getD i 0)) (attrsQ S.T (S.ent.getD i 0))).2.2.1=S.T.nodes.length:=congrArg Prod.fst q2
    rw[←hn]at hnew
    have h3:=restR_fi on r (i+1) ⟨(insertL S.T S.l on (spaceQ S.T (S.ent.getD i 0)) (nameQ S.T (S.ent.getD i 0)) (attrsQ S.T (S.ent.getD i 0))).1,(insertL S.T S.l on (spaceQ S.T (S.ent.getD i 0)) (nameQ S.T (S.ent.getD i 0)) (attrsQ S.T (S.ent.getD i 0))).2.1,S.ent.set i (insertL S.T S.l on (spaceQ S.T (S.ent.getD i 0)) (nameQ S.T (S.ent.getD i 0)) (attrsQ S.T (S.ent.getD i 0))).2.2.1⟩ (hi.eset hnew (h.fresh hn).2 i) (Nat.le_trans h1 hm.1)
    exact⟨h3.1,hm.trans h3.2⟩
   ·rw[insertL_no hmm]at he
    cases he
  ·exact⟨hi,hm⟩
theorem restL_fi {S:AS} (h:FI S.T S.l S.ent) (h1:1≤S.T.nodes.length) (on:Bool):FI (restL on S).1.T (restL on S).1.l (restL on S).1.ent∧Mor S.T (restL on S).1.T:=restR_fi on _ _ S h h1
end Go.Proofs.YtgepobccoffnaaaGreatDoor
end
section
namespace Go.Proofs.YtgepobccoffnaaaGreatDoor
open Go.RowKit Mem
theorem insertL_lm {m:Int} {T:TreeD} (h:Lm m T) (l:List Int) (on:Bool) (sp:Int) (nm:ByteArray) (at':List Pair):Lm m (insertL T l on sp nm at').1:=by
 unfold insertL
 simp only
 split
 ·exact putE_lm _ _ _ (mkF_lm _ h)
 ·exact mkF_lm _ h
theorem turnR_lm {m:Int} (b:Int): ∀(r:List Int) (c:Nat) (S:TS),Lm m S.T→Lm m (turnR b r c S).1.T
 | [],_,_,h=>h
 |x::r,c,S,h=>by
  rw[turnR]
  split
  ·split
   ·exact turnR_lm b r (c+1) _ h
   ·split
    ·exact turnR_lm b r (c+1) ⟨_,_,_,_,_⟩ (putE_lm _ _ _ (likeF_lm _ h))
    ·exact likeF_lm _ h
  ·exact turnR_lm b r (c+1) _ h
theorem closeL_lm {m:Int} {T:TreeD} (h:Lm m T) (l ent:List Int) (f b keep:Int):Lm m (closeL T l ent f b keep).1:=by
 unfold closeL
 split
 ·exact putE_lm _ _ _ (moveE_lm _ _ (likeF_lm _ h))
 ·exact likeF_lm _ h
theorem turnL_lm {m:Int} {T:TreeD} (h:Lm m T) (l ent:List Int) (on:Bool) (f b:Int):Lm m (turnL T l ent on f b).1:=by
 have h1:=turnR_lm (m:=m) b (betweenF l f b).reverse 1 ⟨T,l,ent,rfind ent f,b⟩ h
 unfold turnL
 simp only
 split
 ·exact closeL_lm (putE_lm _ _ _ h1) _ _ _ _ _
 ·exact h1
theorem adoptR_lm {m:Int} (on:Bool) (name:ByteArray): ∀(r t:Nat) (S:AS),Lm m S.T→Lm m (adoptR on name r t S).1.T
 |0,_,_,h=>h
 |r+1,t,S,h=>by
  rw[adoptR]
  split
  ·exact h
  ·split
   ·exact h
   ·split
    ·exact h
    ·split
     ·exact h
     ·split
      ·exact adoptR_lm on name r (t+1) ⟨_,_,_⟩ (turnL_lm h _ _ _ _ _)
      ·exact turnL_lm h _ _ _ _ _
theorem adoptL_lm {m:Int} {S:AS} (h:Lm m S.T) (on:Bool) (name:ByteArray):Lm m (adoptL on name S).1.T:=by
 unfold adoptL
 split
 ·exact h
 ·exact adoptR_lm on name 8 0 S h
theorem restR_lm {m:Int} (on:Bool): ∀(r i:Nat) (S:AS),Lm m S.T→Lm m (restR on r i S).1.T
 |0,_,_,h=>h
 |r+1,i,S,h=>by
  rw[restR]
  split
  ·exact restR_lm on r (i+1) ⟨_,_,_⟩ (insertL_lm h _ _ _ _ _)
  ·exact insertL_lm h _ _ _ _ _
theorem restL_lm {m:Int} {S:AS} (h:Lm m S.T) (on:Bool):Lm m (restL on S).1.T:=restR_lm on _ _ S h
end Go.Proofs.YtgepobccoffnaaaGreatDoor
end
section
namespace Go.Proofs.YtgepobccoffnaaaGreatDoor
open Go.RowKit Mem
def stClear (T:TreeD) (names:List ByteArray):List Int→List Int
 | []=> []
 |x::r=>if namedF T x names then x::r else stClear T names r
theorem stClear_step (T:TreeD) (names:List ByteArray) (l:List Int) (k:Nat) (h:k<l.length):stClear T names (l.take (k+1)).reverse=if namedF T l[k] names then(l.take (k+1)).reverse else stClear T names (l.take k).reverse:=by
 rw[List.take_succ_eq_append_getElem h,List.reverse_append]
 rfl
section
variable {w0 w w':World} {B tb rb sb:Nat} {ex:Nat→Prop} {T:TreeD} {l:List Int}
theorem Clear_si (h:SI w0 B tb sb ex T l w) (names:List ByteArray) (a:Option Addr) (c:Nat) (ha:AtF (Own w0 ex) w a (strsV names)) (hn:names.length≤1048576) :
 Calls Tryz.prog 119 #[.pointer (some ⟨sb,0,none⟩),.slice a names.length c] w fun e w'=>e= .returned (.tuple #[])∧SI w0 B tb sb ex T (stClear T names l.reverse).reverse w'∧Keeps (Own w0 ex) w w':=by
 have HS:=Lib.hid h
 have HA:=Lib.hid ha
 have hsh:=h.short
 clear h ha
 go_enter Tryz.func119,Tryz.ntmps119
 go_wp2_with fail
 go_loopg [] l.length (fun k wr=>Hid (k≤l.length∧SI w0 B tb sb ex T (l.take k) wr∧Keeps (Own w0 ex) w wr∧stClear T names l.reverse=stClear T names (l.take k).reverse))
 case atStart=>exact Lib.hid ⟨Nat.le_refl _,by rw[List.take_of_length_le (Nat.le_refl _)];exact HS.out,Keeps.refl _ _,by rw[List.take_of_length_le (Nat.le_refl _)]⟩
 case round =>
  have hk:=hrel.out.1
  obtain⟨sa,sc,c0,c1,_⟩:=hrel.out.2.1.cells
  rw[List.length_take,Nat.min_eq_left hk]at c1
  have HR:=hrel
  clear hrel
  cases gk with
  |zero =>
   go_wp2_with fail
   go_end0
   refine⟨rfl,?_,HR.out.2.2.1⟩
   rw[HR.out.2.2.2]
   exact HR.out.2.1
  |succ k =>
   have hlt:k<l.length:=by omega
   have HT:=Lib.hid (take_last hlt)
   have HU:=Lib.hid (stClear_step T names l k hlt)
   have HTp:=Lib.hid (Top_si HR.out.2.1)
   rw[HT.out.1]at HTp
   obtain⟨x,hx⟩: ∃x,x=l[k]:=⟨_,rfl⟩
   have HX:=Lib.hid hx
   rw[←hx]at HTp HU
   clear hx
   cases hnm:namedF T x names
   all_goals
    rw[hnm]at HU
    go_wp2_with (first
     |(go_at_call 50;go_must (refine HTp.out.mono ?_;rintro e w1 ⟨rfl,q,rfl⟩;have H1:=Lib.hid (HR.out.2.1.world (stk_drewN wr q));have K1:=Lib.hid (HR.out.2.2.1.trans (Keeps.ofBelow (stk_drewN wr q)));have HN:=Lib.hid (named_si H1.out x names a c (HA.out.kept K1.out).at hn);rw[hnm]at HN))
     |(go_at_call 176;go_must (refine HN.out.mono ?_;rintro e w2 ⟨rfl,hb2⟩;have H2:=Lib.hid (H1.out.world hb2);have K2:=Lib.hid (K1.out.trans (Keeps.ofBelow hb2));have HP:=Lib.hid (Pop_si H2.out);rw[HT.out.1,HT.out.2]at HP;clear hb2))
     |(go_at_call 64;go_must (refine HP.out.mono ?_;rintro e w3 ⟨rfl,h3,k3⟩;have H3:=Lib.hid h3;have K3:=Lib.hid (K2.out.trans k3);clear h3 k3)))
    first
     |(go_roundg k
       case measure=>omega
       case rel=>exact Lib.hid ⟨by omega,H3.out,K3.out,by rw[HR.out.2.2.2,HU.out];rfl⟩)
     |(go_end0
       refine⟨rfl,?_,K2.out⟩
       rw[HR.out.2.2.2,HU.out,if_pos trivial,List.reverse_reverse]
       exact H2.out)
     |(refine bodyPost_ret (results_none rfl _ _ _) rfl ?_
       refine⟨rfl,?_,K2.out⟩
       rw[HR.out.2.2.2,HU.out,if_pos trivial,List.reverse_reverse]
       exact H2.out)
end
def impN:List ByteArray:= [⟨#[100,100]⟩,⟨#[100,116]⟩,⟨#[108,105]⟩,⟨#[111,112,116,103,114,111,117,112]⟩,⟨#[111,112,116,105,111,110]⟩,⟨#[112]⟩,⟨#[114,98]⟩,⟨#[114,112]⟩,⟨#[114,116]⟩,⟨#[114,116,99]⟩]
def stImply (T:TreeD) (but:ByteArray):List Int→List Int
 | []=> []
 |x::r=>if namedF T x impN&& !namedF T x [but]then stImply T but r else x::r
theorem stImply_step (T:TreeD) (but:ByteArray) (l:List Int) (k:Nat) (h:k<l.length):stImply T but (l.take (k+1)).reverse=if namedF T l[k] impN&& !namedF T l[k] [but]then stImply T but (l.take k).reverse else(l.take (k+1)).reverse:=by
 rw[List.take_succ_eq_append_getElem h,List.reverse_append]
 rfl
section
variable {w0 w w':World} {B tb rb sb:Nat} {ex:Nat→Prop} {T:TreeD} {l:List Int}
theorem Imply_si (h:SI w0 B tb sb ex T l w) (but:ByteArray) :
 Calls Tryz.prog 125 #[.pointer (some ⟨sb,0,none⟩),.string but] w fun e w'=>e= .returned (.tuple #[])∧SI w0 B tb sb ex T (stImply T but l.reverse).reverse w'∧Keeps (Own w0 ex) w w':=by
 have hA:At (w.alloc (.cells #[.string ⟨#[100,100]⟩,.string ⟨#[100,116]⟩,.string ⟨#[108,105]⟩,.string ⟨#[111,112,116,103,114,111,117,112]⟩,.string ⟨#[111,112,116,105,111,110]⟩,.string ⟨#[112]⟩,.string ⟨#[114,98]⟩,.string ⟨#[114,112]⟩,.string ⟨#[114,116]⟩,.string ⟨#[114,116,99]⟩] 9)) (some ⟨w.heap.size,0,none⟩) (strsV impN):=at_alloc rfl rfl
 have HS:=Lib.hid (h.lay (.cells #[.string ⟨#[100,100]⟩,.string ⟨#[100,116]⟩,.string ⟨#[108,105]⟩,.string ⟨#[111,112,116,103,114,111,117,112]⟩,.string ⟨#[111,112,116,105,111,110]⟩,.string ⟨#[112]⟩,.string ⟨#[114,98]⟩,.string ⟨#[114,112]⟩,.string ⟨#[114,116]⟩,.string ⟨#[114,116,99]⟩] 9))
 have HK0:Hid (Keeps (Own w0 ex) w (w.alloc (.cells #[.string ⟨#[100,100]⟩,.string ⟨#[100,116]⟩,.string ⟨#[108,105]⟩,.string ⟨#[111,112,116,103,114,111,117,112]⟩,.string ⟨#[111,112,116,105,111,110]⟩,.string ⟨#[112]⟩,.string ⟨#[114,98]⟩,.string ⟨#[114,112]⟩,.string ⟨#[114,116]⟩,.string ⟨#[114,116,99]⟩] 9))):=Lib.hid ((Keeps.refl _ _).alloc _)
 have HA:Hid (AtF (Own w0 fun k=>ex k∨k=w.heap.size) (w.alloc (.cells #[.string ⟨#[100,100]⟩,.string ⟨#[100,116]⟩,.string ⟨#[108,105]⟩,.string ⟨#[111,112,116,103,114,111,117,112]⟩,.string ⟨#[111,112,116,105,111,110]⟩,.string ⟨#[112]⟩,.string ⟨#[114,98]⟩,.string ⟨#[114,112]⟩,.string ⟨#[114,116]⟩,.string ⟨#[114,116,99]⟩] 9)) (some ⟨w.heap.size,0,none⟩) (strsV impN)):=Lib.hid (AtF.of_new hA (fun b o s he=>by cases he;exact fun hx=>hx.2 (.inr rfl)))
 have hsh:=h.short
 clear h hA
 go_enter Tryz.func125,Tryz.ntmps125
 go_wp2_with fail
 generalize w.alloc (.cells #[.string ⟨#[100,100]⟩,.string ⟨#[100,116]⟩,.string ⟨#[108,105]⟩,.string ⟨#[111,112,116,103,114,111,117,112]⟩,.string ⟨#[111,112,116,105,111,110]⟩,.string ⟨#[112]⟩,.string ⟨#[114,98]⟩,.string ⟨#[114,112]⟩,.string ⟨#[114,116]⟩,.string ⟨#[114,116,99]⟩] 9)=wa at *
 have HKa:=Lib.hid (Keeps.refl (Own w0 fun k=>ex k∨k=w.heap.size) wa)
 go_loopg [] l.length (fun k wr=>Hid (k≤l.length∧SI w0 B tb sb (fun k=>ex k∨k=w.heap.size) T (l.take k) wr∧Keeps (Own w0 fun k=>ex k∨k=w.heap.size) wa wr∧stImply T but l.reverse=stImply T but (l.take k).reverse))
 case atStart=>exact Lib.hid ⟨Nat.le_refl _,by rw[List.take_of_length_le (Nat.le_refl _)];exact HS.out,HKa.out,by rw[List.take_of_length_le (Nat.le_refl _)]⟩
 case round =>
  have hk:=hrel.out.1
  obtain⟨sa,sc,c0,c1,_⟩:=hrel.out.2.1.cells
  rw[List.length_take,Nat.min_eq_left hk]at c1
  have HR:=hrel
  clear hrel
  cases gk with
  |zero =>
   go_wp2_with fail
   go_end0
   refine⟨rfl,?_,HK0.out.trans (HR.out.2.2.1.mono fun _ _ hx=>⟨hx.1,fun hl=>hx.2 (.inl hl)⟩)⟩
   rw[HR.out.2.2.2]
   exact HR.out.2.1.less fun _ hx=> .inl hx
  |succ k =>
   have hlt:k<l.length:=by omega
   have HT:=Lib.hid (take_last hlt)
   have HU:=Lib.hid (stImply_step T but l k hlt)
   have HTp:=Lib.hid (Top_si HR.out.2.1)
   rw[HT.out.1]at HTp
   obtain⟨x,hx⟩: ∃x,x=l[k]:=⟨_,rfl⟩
   rw[←hx]at HTp HU
   have HX:=Lib.hid hx
   clear hx
   cases hnm:namedF T x impN
   ·rw[hnm]at HU
    go_wp2_with (first
     |(go_at_call 50;go_must (refine HTp.out.mono ?_;rintro e w1 ⟨rfl,q,rfl⟩;have H1:=Lib.hid (HR.out.2.1.world (stk_drewN wr q));have K1:=Lib.hid (HR.out.2.2.1.trans (Keeps.ofBelow (stk_drewN wr q)));have HN:=Lib.hid (named_si H1.out x impN (some ⟨w.heap.size,0,none⟩) 10 (HA.out.kept K1.out).at (by decide));rw[hnm]at HN))
     |(go_at_call 176;go_must (refine HN.out.mono ?_;rintro e w2 ⟨rfl,hb2⟩;have H2:=Lib.hid (H1.out.world hb2);have K2:=Lib.hid (K1.out.trans (Keeps.ofBelow hb2));clear hb2)))
    go_end0
    refine⟨rfl,?_,HK0.out.trans (K2.out.mono fun _ _ hx=>⟨hx.1,fun hl=>hx.2 (.inl hl)⟩)⟩
    rw[HR.out.2.2.2,HU.out,Bool.false_and,if_neg (by simp),List.reverse_reverse]
    exact H2.out.less fun _ hx=> .inl hx
   ·rw[hnm]at HU
    cases hnb:namedF T x [but]
    all_goals
     rw[hnb]at HU
     go_wp2_with fail
     refine HTp.out.mono ?_
     rintro e w1 ⟨rfl,q,rfl⟩
     have H1:=Lib.hid (HR.out.2.1.world (stk_drewN wr q))
     have K1:=Lib.hid (HR.out.2.2.1.trans (Keeps.ofBelow (stk_drewN wr q)))
     have HN:=Lib.hid (named_si H1.out x impN (some ⟨w.heap.size,0,none⟩) 10 (HA.out.kept K1.out).at (by decide))
     rw[hnm]at HN
     go_wp2_with fail
     refine HN.out.mono ?_
     rintro e w2 ⟨rfl,hb2⟩
     have H2:=Lib.hid (H1.out.world hb2)
     have K2:=Lib.hid (K1.out.trans (Keeps.ofBelow hb2))
     have HTq:=Lib.hid (Top_si H2.out)
     rw[HT.out.1,←HX.out]at HTq
     clear hb2 HN H1 K1
     go_wp2_with fail
     refine HTq.out.mono ?_
     rintro e w3 ⟨rfl,q2,rfl⟩
     have hb3:=(stk_drewN w2 q2).trans (((Below.refl (w2.drewN q2).heap.size (w2.drewN q2)).alloc (Nat.le_refl _) (.cells #[.string but] 9)).mono (stk_drewN w2 q2).size)
     have H3:=Lib.hid (H2.out.world hb3)
     have K3:=Lib.hid (K2.out.trans (Keeps.ofBelow hb3))
     have HNb:=Lib.hid (named_si H3.out x [but] (some ⟨(w2.drewN q2).heap.size,0,none⟩) 1 (at_alloc rfl rfl) (by simp))
     rw[hnb]at HNb
     clear hb3 HTq H2 K2
     generalize w2.drewN q2=w3 at *
     go_wp2_with fail
     refine HNb.out.mono ?_
     rintro e w4 ⟨rfl,hb4⟩
     have H4:=Lib.hid (H3.out.world hb4)
     have K4:=Lib.hid (K3.out.trans (Keeps.ofBelow hb4))
     have HP:=Lib.hid (Pop_si H4.out)
     rw[HT.out.1,HT.out.2]at HP
     clear hb4 H3 K3 HNb
     go_wp2_with (go_at_call 64;go_must (refine HP.out.mono ?_;rintro e w5 ⟨rfl,h5,k5⟩;have H5:=Lib.hid h5;have K5:=Lib.hid (K4.out.trans k5);clear h5 k5))
    ·go_roundg k
     case measure=>omega
     case rel=>exact Lib.hid ⟨by omega,H5.out,K5.out,by rw[HR.out.2.2.2,HU.out];rfl⟩
    ·go_end0
     refine⟨rfl,?_,HK0.out.trans (K4.out.mono fun _ _ hx=>⟨hx.1,fun hl=>hx.2 (.inl hl)⟩)⟩
     rw[HR.out.2.2.2,HU.out,if_neg (by simp),List.reverse_reverse]
     exact H4.out.less fun _ hx=> .inl hx
end
end Go.Proofs.YtgepobccoffnaaaGreatDoor
end
