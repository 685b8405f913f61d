/- Texts joined for a claim: FmD: plain laws and contracts. No conditions beyond those that each lemma types. -/
import Derived.Test.YtgepobccoffnaaaGreatDoorT12
set_option linter.unusedVariables false
set_option linter.unusedSimpArgs false
set_option maxRecDepth 100000
set_option maxHeartbeats 8000000
section
namespace Go.Proofs.YtgepobccoffnaaaGreatDoor
open Go.RowKit Mem
def clearF (ent:List Int):List Int:=ent.take (handF ent-1)
section
variable {w0 w w':World} {B B' tb sb lb:Nat} {ex:Nat→Prop} {T T':TreeD} {l l' ent ent':List Int} {on on':Bool}
theorem clear_end {ge:Option Nat} {w4:World} {a a5:Option Addr} {c c5 m:Nat} (h2:SI w0 B tb sb (fun k=>ex k∨SB lb ge k) T l w) (h3: ∀k,SB lb ge k→w0.heap.size≤k∧ ¬ex k) (h4:ent.length≤1000000) (hm:m≤ent.length)
 (hrow:w4.heap[lb]?=some (.cells #[.pointer (some ⟨tb,0,none⟩),.pointer (some ⟨sb,0,none⟩),.slice a ent.length c,.bool on] 99 (0,0)))
 (hown:w4.ownsRow w.heap.size 3 1 (.slice a5 m c5) m (intsV (ent.take m))) (hgr:((w.alloc (.cells #[] 3)).drew).grownBy w4 (Value.slice (some ⟨w.heap.size,0,none⟩) 0 0).ownBlock) (hlt:lb<w.heap.size) :
 LI w0 B tb sb lb ex T l (ent.take m) on (w4.setCell ⟨lb,2,none⟩ (.slice a5 m c5))∧Keeps (Own w0 ex) w (w4.setCell ⟨lb,2,none⟩ (.slice a5 m c5)):=by
 have hnew: ∀j,(Value.slice a5 m c5).ownBlock=some j→w.heap.size≤j:=fun j hj=>(hown.lt j hj).1
 have hne:(Value.slice a5 m c5).ownBlock≠some lb:=fun e=>by have:=hnew lb e;omega
 have hlen:(ent.take m).length=m:=by rw[List.length_take];omega
 have hk:Keeps (SB lb ge) w (w4.setCell ⟨lb,2,none⟩ (.slice a5 m c5)):=(stk_grown (((Keeps.refl _ w).alloc _).drew) hgr fun k hk=> .inr (by simp only[Value.ownBlock,Option.some.injEq]at hk;omega)).set (p:=⟨lb,2,none⟩) (.inl (.inl rfl)) _
 have hl:LstO (w4.setCell ⟨lb,2,none⟩ (.slice a5 m c5)) lb tb sb (Value.slice a5 m c5).ownBlock (ent.take m) on:=by
  refine⟨.slice a5 m c5,Lib.heap_setCell_same (i:=2) hrow _,⟨?_,rfl⟩,hne⟩
  rw[hlen]
  exact own_kept (own_base0 hown) fun b hb=>heap_setCell_other _ _ _ _ (fun e=>hne (hb.trans (congrArg some e)))
 exact LI.lst_step h2 h3 (by omega) hl hk (fun k hk=> .inr (hnew k hk))
theorem Clear_li (h:LI w0 B tb sb lb ex T l ent on w) :
 Calls Tryz.prog 126 #[.pointer (some ⟨lb,0,none⟩)] w fun e w'=>e= .returned (.tuple #[])∧LI w0 B tb sb lb ex T l (clearF ent) on w'∧Keeps (Own w0 ex) w w':=by
 have HH:Hid (∀u,LI w0 B tb sb lb ex T l ent on u→Calls Tryz.prog 179 #[.pointer (some ⟨lb,0,none⟩)] u fun e w'=>e= .returned (.int .i64 (rfind ent (-1)+1))∧u=w'):=Lib.hid (fun u hu=>hand_li hu)
 obtain⟨hh1,hh2⟩:=handF_le ent
 rw[←hh1]at HH
 have HP:Hid (clearF ent=ent.take (handF ent-1)):=Lib.hid rfl
 generalize handF ent=hd at *
 have HL:=Lib.hid h
 obtain⟨ge,h1,h2,h3,h4⟩:=h
 have hlt:=h1.lt lb (.inl rfl)
 obtain⟨a,c,_,_,c2,_,hA,ho,f2,_,hrow,hnil,hne⟩:=h1.cells
 obtain⟨m,hm⟩: ∃m,m=hd-1:=⟨_,rfl⟩
 rw[←hm]at HP
 have hml:m≤ent.length:=by omega
 have hmax:max (0:Int) ((hd:Int)-1)=(m:Int):=by omega
 have hA':At w a (intsV (ent.take m)):=by
  rw[←List.take_append_drop m ent,intsV_append]at hA
  exact hA.left
 have HA:=Lib.hid (hA'.below (((Below.refl w.heap.size w).alloc (Nat.le_refl _) (.cells #[] 3)).drew))
 have HE:Hid (((w.alloc (.cells #[] 3)).drew).ownsRow w.heap.size 3 1 (.slice (some ⟨w.heap.size,0,none⟩) 0 0) 0 []):=Lib.hid (own_drewN (World.ownsRow_lit w #[] 0 (Nat.le_refl _) (Nat.zero_le _) rfl) 1)
 have HC:=Lib.hid (fun h:a=none=>hnil h)
 obtain⟨i0,hi0,hz0,hz1,hz2⟩:=info_parts stk_int
 have b0:0+m≤maxLen:=by unfold maxLen;omega
 have b1:(0+m)*8≤140737488355328:=by omega
 have HNL:=Lib.hid (show(intsV (ent.take m)).length=m*1 by rw[intsV_length,Nat.mul_one,List.length_take];omega)
 have hs2:w.heap.size≤((w.alloc (.cells #[] 3)).drew).heap.size:=by simp
 have hl2:lb<((w.alloc (.cells #[] 3)).drew).heap.size:=by simp;omega
 have HNE:Hid (some lb≠(Value.slice (some ⟨w.heap.size,0,none⟩) 0 0).ownBlock):=Lib.hid (fun e=>by simp only[Value.ownBlock,Option.some.injEq]at e;omega)
 have hrow1:((w.alloc (.cells #[] 3)).drew).heap[lb]?=some (.cells #[.pointer (some ⟨tb,0,none⟩),.pointer (some ⟨sb,0,none⟩),.slice a ent.length c,.bool on] 99 (0,0)):=(heap_alloc_old w _ hlt).trans hrow
 have q1:=cell_of_row _ lb 2 _ _ _ hrow1
 have HR:=Lib.hid hrow1
 have hcl:ent.length≤c∧c≤9223372036854775807:=by
  obtain⟨_,_,he,k1,k2,_⟩:=own_at ho.1
  injection he with _ _ e3
  subst e3
  exact⟨k1,k2⟩
 have HLa:=Lib.hid (HL.out.world (((Below.refl w.heap.size w).alloc (Nat.le_refl _) (.cells #[] 3)).drew))
 have HLd:=Lib.hid (HL.out.world ((Below.refl w.heap.size w).drew))
 have H2:=Lib.hid h2
 have H3:=Lib.hid h3
 have HOI:=Lib.hid ho
 clear h1 h2 h3 hA hA' ho hrow hrow1 hne hnil hm hh1
 have hform:(a=none∧c=0∧ent.length=0)∨ ∃g0,a=some ⟨g0,0,none⟩:=by
  rcases HOI.out.1.2 with⟨he,h0⟩|⟨g0,cap,cur,he,_⟩
  ·injection he with e1 e2 e3
   exact .inl ⟨e1,e3,h0⟩
  ·injection he with e1 e2 e3
   exact .inr ⟨g0,e1⟩
 rcases hform with⟨rfl,rfl,hen⟩|⟨g0,rfl⟩
 ·obtain rfl:hd=0:=by omega
  obtain rfl:m=0:=by omega
  have hen':ent= []:=List.eq_nil_of_length_eq_zero hen
  have hw0:IntKind.i64.wrap (-1)= -1:=by rw[IntKind.wrap_i64];omega
  have hmax0:max (0:Int) (-1)=0:=by omega
  clear hmax hen
  subst hen'
  go_enter Tryz.func126,Tryz.ntmps126
  go_wp2_with fail
  go_region_law (first|(go_simp;go_at_call 179;(first|(refine(HH.out _ HLa.out).mono ?_;rintro e wx ⟨rfl,rfl⟩)|(refine(HH.out _ HLd.out).mono ?_;rintro e wx ⟨rfl,rfl⟩)))|(refine step_append_slice (by rfl) _ _ 75 (by rfl) w.heap.size 3 i0 _ 1 8 Tryz.underlying75 hi0 hz0 hz1 hz2 rfl (by decide) _ 0 [] (by rfl) HE.out none 0 0 (intsV ([]:List Int)) (by rfl) HNL.out (by first|exact HC.out|exact fun _=>rfl) HA.out (intsV_one _) b0 b1 hs2 ?_;intro v2 w4 hown2 hgr2;simp only[Nat.zero_add,List.nil_append]at hown2;obtain⟨a5,c5,rfl,_⟩:=own_slice hown2;have hrow5:=(hgr2.block lb hl2 HNE.out).trans HR.out;have q5:=cell_of_row _ lb 2 _ _ _ hrow5;have f5:=frozen_of_row _ _ 2 _ _ hrow5))
  all_goals
   go_wp2_with fail
   go_end0
   refine⟨rfl,?_⟩
   rw[HP.out]
   exact clear_end H2.out H3.out h4 hml hrow5 hown2 hgr2 hlt
 ·have hmc:m≤c:=by omega
  have hw0:IntKind.i64.wrap ((hd:Int)-1)=(hd:Int)-1:=by rw[IntKind.wrap_i64];omega
  go_enter Tryz.func126,Tryz.ntmps126
  go_wp2_with fail
  go_region_law (first|(go_simp;go_at_call 179;(first|(refine(HH.out _ HLa.out).mono ?_;rintro e wx ⟨rfl,rfl⟩)|(refine(HH.out _ HLd.out).mono ?_;rintro e wx ⟨rfl,rfl⟩)))|(refine step_append_slice (by rfl) _ _ 75 (by rfl) w.heap.size 3 i0 _ 1 8 Tryz.underlying75 hi0 hz0 hz1 hz2 rfl (by decide) _ 0 [] (by rfl) HE.out (some ⟨g0,0,none⟩) m c (intsV (ent.take m)) (by rfl) HNL.out (by first|exact HC.out|exact fun _=>rfl) HA.out (intsV_one _) b0 b1 hs2 ?_;intro v2 w4 hown2 hgr2;simp only[Nat.zero_add,List.nil_append]at hown2;obtain⟨a5,c5,rfl,_⟩:=own_slice hown2;have hrow5:=(hgr2.block lb hl2 HNE.out).trans HR.out;have q5:=cell_of_row _ lb 2 _ _ _ hrow5;have f5:=frozen_of_row _ _ 2 _ _ hrow5))
  all_goals
   go_wp2_with fail
   go_end0
   refine⟨rfl,?_⟩
   rw[HP.out]
   exact clear_end H2.out H3.out h4 hml hrow5 hown2 hgr2 hlt
end
end Go.Proofs.YtgepobccoffnaaaGreatDoor
namespace Go.Proofs.YtgepobccoffnaaaGreatDoor
open Go.RowKit Mem
def blockR (T:TreeD):List Int→Int
 | []=>0
 |x::r=>if(!((nameQ T x).toList== []))&&specialF (spaceQ T x) (nameQ T x)then x else blockR T r
def blockF (T:TreeD) (l:List Int) (f:Int):Int:=blockR T (l.drop (rfind l f+1).toNat)
theorem blockR_step (T:TreeD) (l:List Int) (k:Nat) (h:k<l.length):blockR T (l.drop k)=if(!((nameQ T l[k]).toList== []))&&specialF (spaceQ T l[k]) (nameQ T l[k])then l[k]else blockR T (l.drop (k+1)):=by
 rw[List.drop_eq_getElem_cons h]
 rfl
theorem find_lt {l:List Int} {f:Int}:(rfind l f+1).toNat≤l.length∧((rfind l f+1).toNat:Int)=rfind l f+1:=by
 have:=rfind_spec l f
 omega
section
variable {w0 w w':World} {B B' tb sb lb:Nat} {ex:Nat→Prop} {T T':TreeD} {l l' ent ent':List Int} {on on':Bool}
theorem block_li (h:LI w0 B tb sb lb ex T l ent on w) (f:Int) (h0:0≤rfind l f) :
 Calls Tryz.prog 221 #[.pointer (some ⟨lb,0,none⟩),.int .i64 f] w fun e w'=>e= .returned (.int .i64 (blockF T l f))∧Below w.heap.size w w':=by
 obtain⟨sa,sc,c0,c1,_⟩:=h.cells
 have hsh:=h.short.1
 have HL:=Lib.hid h
 have HAll:=Lib.hid (SAll_li h)
 obtain⟨j1,j2⟩:=find_lt (l:=l) (f:=f)
 have HP:Hid (blockF T l f=blockR T (l.drop (rfind l f+1).toNat)):=Lib.hid rfl
 obtain⟨j,hj⟩: ∃j,j=(rfind l f+1).toNat:=⟨_,rfl⟩
 rw[←hj]at HP j1 j2
 have hF: ∀u,LI w0 B tb sb lb ex T l ent on u→Calls Tryz.prog 160 #[.pointer (some ⟨sb,0,none⟩),.int .i64 f] u fun e w'=>e= .returned (.int .i64 ((j:Int)-1))∧u=w':=fun u hu=>by
  have:=SFind_li hu f
  rw[show rfind l f=(j:Int)-1 by omega]at this
  exact this
 have HF:=Lib.hid hF
 have hj1:1≤j:=by omega
 clear h hj hF h0 j2
 go_enter Tryz.func221,Tryz.ntmps221
 go_upto_region 2 with(go_at_call 105;go_must (refine HAll.out.mono ?_;rintro e w1 ⟨v,rfl,ho,hb⟩;obtain⟨g1,m1,rfl,_,hm1,hm2⟩:=own_some ho (by omega);have HA:=Lib.hid (own_row ho).at;have HB:=Lib.hid hb;have H1:=Lib.hid (HL.out.world hb);have d0:=cell_later hb c0;have d1:=cell_later hb c1;clear hb ho))
 unfold maxLen at hm2
 by_cases hlt:j<l.length
 ·have hcj: ¬(m1=j):=by omega
  have hjm:(j:Int)≤(l.length:Int):=by omega
  have hjm2:j≤l.length:=by omega
  go_wp2_with (go_at_call 160;go_must (refine(HF.out _ H1.out).mono ?_;rintro e w2 ⟨rfl,rfl⟩))
  go_loopw [26] (fun i wr=> ∃k:Nat,k≤l.length-j∧i= .int .i64 k∧Below w1.heap.size w1 wr∧blockR T (l.drop j)=blockR T (l.drop (j+k))) (fun i _=>(l.length-j)-(intOf i).toNat)
  case atStart=>exact⟨0,Nat.zero_le _,rfl,Below.refl _ _,rfl⟩
  case round =>
   obtain⟨k,hk,rfl,hb,hv⟩:=hrel
   have HBr:=Lib.hid hb
   have HV:=Lib.hid hv
   have HLr:=Lib.hid (H1.out.world hb)
   have e0:=cell_later hb d0
   clear hv
   by_cases hlk:k<l.length-j
   ·have hjk:j+k<l.length:=by omega
    have e1:=cell_later hb (HA.out.get (intsV_get l (j+k) hjk))
    rw[Nat.zero_add]at e1
    have HW:=Lib.hid (What_li HLr.out l[j+k])
    have HST:=Lib.hid (blockR_step T l (j+k) hjk)
    obtain⟨x,hx⟩: ∃x,x=l[j+k]:=⟨_,rfl⟩
    rw[←hx]at e1 HW HST
    have HSp:Hid (∀u,Calls Tryz.prog 211 #[.int .i64 (spaceQ T x),.string (nameQ T x)] u fun e w'=>e= .returned (.bool (specialF (spaceQ T x) (nameQ T x)))∧u=w'):=Lib.hid (fun u=>Special_any _ _ u)
    generalize spaceQ T x=xs at *
    generalize nameQ T x=xn at *
    clear hb hx
    cases hne:(xn.toList== []) <;>cases hsp:specialF xs xn
    all_goals
     rw[hne,hsp]at HST
     rw[hsp]at HSp
     go_wp2_with (first|(go_at_call 49;go_must (refine HW.out.mono ?_;rintro e w2 ⟨v,rfl,_,hb2⟩;have HB2:=Lib.hid (belowCall HBr.out hb2);clear hb2))|(go_at_call 211;go_must (refine(HSp.out _).mono ?_;rintro e w3 ⟨rfl,rfl⟩)))
     first
      |(go_roundw
        case rel=>exact⟨k+1,by omega,by go_num,HB2.out,by rw[HV.out,HST.out];rfl⟩
        case measure=>simp[intOf];omega)
      |(go_ret
        exact⟨ret_int (by rw[HP.out,HV.out,HST.out];rfl),belowCall HB.out HB2.out⟩)
   ·obtain rfl:k=l.length-j:=by omega
    have HE:Hid (blockR T (l.drop (j+(l.length-j)))=0):=Lib.hid (by rw[List.drop_of_length_le (by omega)];rfl)
    clear hb
    go_wp2_with fail
    go_ret
    exact⟨ret_int (by rw[HP.out,HV.out,HE.out]),belowCall HB.out HBr.out⟩
 ·obtain rfl:j=l.length:=by omega
  have HE:Hid (blockR T (l.drop l.length)=0):=Lib.hid (by rw[List.drop_of_length_le (Nat.le_refl _)];rfl)
  have hz:((l.length-l.length:Nat):Int)=0:=by omega
  go_wp2_with (go_at_call 160;go_must (refine(HF.out _ H1.out).mono ?_;rintro e w2 ⟨rfl,rfl⟩))
  all_goals
   go_loopw [26] (fun i wr=>i= .int .i64 0∧wr=w1) (fun i _=>0)
   case atStart=>exact⟨rfl,rfl⟩
   case round =>
    obtain⟨rfl,rfl⟩:=hrel
    go_wp2_with fail
    go_ret
    exact⟨ret_int (by rw[HP.out,HE.out]),HB.out⟩
end
end Go.Proofs.YtgepobccoffnaaaGreatDoor
namespace Go.Proofs.YtgepobccoffnaaaGreatDoor
open Go.RowKit Mem
def keepF (ent:List Int) (f keep:Int):Int:=if rfind ent f<keep then keep-1 else keep
noncomputable def closeL (T:TreeD) (l ent:List Int) (f b keep:Int):TreeD×List Int×List Int×Int :=
 if(likeF T f).2.2=0 then((putE (moveE (likeF T f).1 b (likeF T f).2.1).1 b 0 (likeF T f).2.1).1,insF (rmF l f) b (likeF T f).2.1,insAt (dropF ent (rfind ent f)) (keepF ent f keep).toNat (likeF T f).2.1,0)
 else((likeF T f).1,l,ent,(likeF T f).2.2)
section
variable {w0 w w':World} {B B' tb sb lb:Nat} {ex:Nat→Prop} {T T':TreeD} {l l' ent ent':List Int} {on on':Bool}
theorem lst_end {w2:World} {sa va:Option Addr} {sc vc n:Nat} {ge:Option Nat} (hls:LstO w lb tb sb ge ent on) (hsi:SI w0 B tb sb (fun k=>ex k∨SB lb ge k) T l w) (h3: ∀k,SB lb ge k→w0.heap.size≤k∧ ¬ex k) (hn:n≤1000000) (hln:ent'.length=n)
 (hrow:w2.heap[lb]?=some (.cells #[.pointer (some ⟨tb,0,none⟩),.pointer (some ⟨sb,0,none⟩),.slice sa ent.length sc,.bool on] 99 (0,0)))
 (hown:w2.ownsRow w.heap.size 3 1 (.slice va n vc) n (intsV ent')) (hk:Keeps (fun k=>w.heap.size≤k) w w2) :
 LI w0 B tb sb lb ex T l ent' on (w2.setCell ⟨lb,2,none⟩ (.slice va n vc))∧Keeps (Own w0 ex) w (w2.setCell ⟨lb,2,none⟩ (.slice va n vc)):=by
 have hlt:=hls.lt lb (.inl rfl)
 have hnew: ∀j,(Value.slice va n vc).ownBlock=some j→w.heap.size≤j:=fun j hj=>(hown.lt j hj).1
 have hne:(Value.slice va n vc).ownBlock≠some lb:=fun e=>by have:=hnew lb e;omega
 have hk':Keeps (SB lb ge) w (w2.setCell ⟨lb,2,none⟩ (.slice va n vc)):=(hk.mono (fun k hk h=>absurd h (by omega))).set (p:=⟨lb,2,none⟩) (.inl (.inl rfl)) _
 have hl:LstO (w2.setCell ⟨lb,2,none⟩ (.slice va n vc)) lb tb sb (Value.slice va n vc).ownBlock ent' on:=by
  refine⟨.slice va n vc,Lib.heap_setCell_same (i:=2) hrow _,⟨?_,rfl⟩,hne⟩
  rw[hln]
  exact own_kept (own_base0 hown) fun b hb=>heap_setCell_other _ _ _ _ (fun e=>hne (hb.trans (congrArg some e)))
 exact LI.lst_step hsi h3 (by omega) hl hk' (fun k hk=> .inr (hnew k hk))
theorem close_li (h:LI w0 B tb sb lb ex T l ent on w) (f b keep:Int) (hl:l.length<1000000) (he:ent.length<1000000) (hk1:0≤keepF ent f keep) (hk2:keepF ent f keep≤(dropF ent (rfind ent f)).length) :
 Calls Tryz.prog 233 #[.pointer (some ⟨lb,0,none⟩),.int .i64 f,.int .i64 b,.int .i64 keep] w fun e w' =>
  e= .returned (.int .i64 (closeL T l ent f b keep).2.2.2)∧LI w0 B tb sb lb ex (closeL T l ent f b keep).1 (closeL T l ent f b keep).2.1 (closeL T l ent f b keep).2.2.1 on w'∧Keeps (Own w0 ex) w w':=by
 obtain⟨sa,sc,c0,c1,_⟩:=h.cells
 have HLk:=Lib.hid (Like_li h f)
 have HC:Hid (closeL T l ent f b keep=if(likeF T f).2.2=0 then((putE (moveE (likeF T f).1 b (likeF T f).2.1).1 b 0 (likeF T f).2.1).1,insF (rmF l f) b (likeF T f).2.1,insAt (dropF ent (rfind ent f)) (keepF ent f keep).toNat (likeF T f).2.1,0)
  else((likeF T f).1,l,ent,(likeF T f).2.2)):=Lib.hid rfl
 have hat:=rfind_spec ent f
 obtain⟨q1,q2,_,_⟩:=hat
 have HK:Hid (keepF ent f keep=if rfind ent f<keep then keep-1 else keep):=Lib.hid rfl
 have HDl:=Lib.hid (dropF_len ent (rfind ent f))
 have HRl:=Lib.hid (show(rmF l f).length≤l.length from dropF_len l (rfind l f))
 generalize likeF T f=m at *
 obtain⟨U,x,er⟩:=m
 simp only at HLk HC
 clear h
 by_cases h0:er=0
 ·rw[if_pos h0]at HC
  subst h0
  have HFi:Hid (∀ {U:TreeD} u,LI w0 B tb sb lb ex U l ent on u→Calls Tryz.prog 209 #[.pointer (some ⟨lb,0,none⟩),.int .i64 f] u fun e w'=>e= .returned (.int .i64 (rfind ent f))∧u=w'):=Lib.hid (fun u hu=>find_li hu f)
  have HDr:Hid (∀ {U:TreeD} u,LI w0 B tb sb lb ex U l ent on u→Calls Tryz.prog 208 #[.pointer (some ⟨lb,0,none⟩),.int .i64 (rfind ent f)] u fun e w'=>e= .returned (.tuple #[])∧LI w0 B tb sb lb ex U l (dropF ent (rfind ent f)) on w'∧Keeps (Own w0 ex) u w'):=Lib.hid (fun u hu=>drop_li hu _ q2)
  generalize dropF ent (rfind ent f)=ent1 at *
  generalize rfind ent f=at0 at *
  obtain⟨k,hk⟩:=Int.eq_ofNat_of_zero_le hk1
  rw[hk]at hk2 HC HK
  clear hk hk1
  go_enter Tryz.func233,Tryz.ntmps233
  go_wp2_with (go_at_call 231;go_must (refine HLk.out.mono ?_;rintro e w1 ⟨rfl,h1,k1⟩;obtain⟨_,_,d0,d1,_⟩:=h1.cells;have HMv:=Lib.hid (Move_li h1 b x);have K1:=Lib.hid k1;clear h1 k1))
  refine HMv.out.mono ?_
  rintro e w2 ⟨rfl,h2,k2⟩
  obtain⟨_,_,d0,d1,_⟩:=h2.cells
  have HPt:=Lib.hid (Put_li h2 b 0 x)
  have K2:=Lib.hid (K1.out.trans k2)
  generalize (moveE U b x).1=U2 at *
  clear h2 k2 K1 HMv
  go_wp2_with fail
  refine HPt.out.mono ?_
  rintro e w3 ⟨rfl,h3,k3⟩
  obtain⟨_,_,d0,d1,_⟩:=h3.cells
  have H3:=Lib.hid h3
  have K3:=Lib.hid (K2.out.trans k3)
  generalize (putE U2 b 0 x).1=U3 at *
  clear h3 k3 K2 HPt
  go_wp2_with fail
  refine(HFi.out _ H3.out).mono ?_
  rintro e w3' ⟨rfl,rfl⟩
  go_wp2_with fail
  refine(HDr.out _ H3.out).mono ?_
  rintro e w4 ⟨rfl,h4,k4⟩
  have H4:=Lib.hid h4
  have K4:=Lib.hid (K3.out.trans k4)
  clear h4 k4 K3 H3 HFi HDr
  go_upto_if 46 with fail
  go_cut [3]from 44 to 48 (fun s3 wx=>s3= .int .i64 k∧wx=w4)
  case first =>
   by_cases hlt:at0<keep
   ·have hk3:keep-1=k:=by have:=HK.out;rw[if_pos hlt]at this;omega
    have hw:IntKind.i64.wrap (keep-1)=keep-1:=by
     have:=HDl.out
     rw[IntKind.wrap_i64];omega
    have HK3:=Lib.hid hk3
    clear hk3
    go_wp2_with fail
    go_meet
    exact⟨by rw[HK3.out],rfl⟩
   ·have hk3:keep=k:=by have:=HK.out;rw[if_neg hlt]at this;omega
    have HK3:=Lib.hid hk3
    clear hk3
    go_wp2_with fail
    go_meet
    exact⟨by rw[HK3.out],rfl⟩
  case rest =>
  obtain⟨rfl,hwc⟩:=hcut
  subst hwc
  have HAll:=Lib.hid (LAll_li H4.out)
  obtain⟨ge,hls,hsi,hsb,hel⟩:=H4.out
  have HLS:=Lib.hid hls
  have HSI:=Lib.hid hsi
  have HSBB:=Lib.hid hsb
  have hlt5:=hls.lt lb (.inl rfl)
  have hk5:k≤ent1.length:=by omega
  obtain⟨_,_,d0,d1,_⟩:=H4.out.cells
  clear hls hsi hsb
  go_wp2_with (go_at_call 223;go_must (refine HAll.out.mono ?_;rintro e w6 ⟨v,rfl,ho,hb⟩;obtain⟨va,vc,rfl,_,_⟩:=own_slice ho;have HO:=Lib.hid ho;have HB:=Lib.hid hb;clear ho hb))
  have ho1:=own_below HO.out ((Below.refl w6.heap.size w6).alloc (Nat.le_refl _) (.cells #[.int .i64 x] 3))
  have hb1:=HB.out.alloc HB.out.size (.cells #[.int .i64 x] 3)
  have hvb:=heap_alloc_new w6 (.cells #[.int .i64 x] 3)
  have hsz:(w6.alloc (.cells #[.int .i64 x] 3)).heap.size=w6.heap.size+1:=by simp
  have hs1:=HB.out.size
  have HI:=Lib.hid (ins_any (w6.alloc (.cells #[.int .i64 x] 3)) wc.heap.size va vc k ent1 x w6.heap.size ho1 hk5 (by omega) (by omega) hvb (fun j hj=>(by have:=(HO.out.lt j hj).2;omega)))
  have HOB:=Lib.hid (fun j hj=>(HO.out.lt j hj).1)
  have HB1:=Lib.hid hb1
  clear ho1 hb1 hvb
  go_wp2_with (go_at_call 237;go_must (refine HI.out.mono ?_;rintro e w7 ⟨v',rfl,ho2,hk2,hv2⟩;obtain⟨va2,vc2,hv',_,_⟩:=own_slice ho2;subst hv';have hS1:=HLS.out.below HB1.out;have hS2:=hS1.kept hk2 (fun j hj e=>(by have:=HLS.out.lt j hj;have:=HOB.out j e;omega));obtain⟨sa7,sc7,e0,e1,_,_,_,_,f2,_,hrow2,_,hne⟩:=hS2.cells;have c2:=cell_of_row w7 lb 2 _ _ _ hrow2;have HKK:=Lib.hid (keeps_then (Keeps.ofBelow (F:=fun i=>wc.heap.size≤i) HB1.out) hk2 (fun i hi=> .inl (HOB.out i hi)));have HO2:=Lib.hid ho2;have HR2:=Lib.hid hrow2;clear ho2 hk2 hrow2 hS1 hS2 hv2))
  have hel1:ent1.length<1000000:=by have:=HDl.out;omega
  obtain⟨h8,k8⟩:=lst_end (ent':=insAt ent1 k x) HLS.out HSI.out HSBB.out (by omega) (insAt_len ent1 k x hk5) HR2.out HO2.out HKK.out
  have K8:=Lib.hid (K4.out.trans k8)
  refine(SRemove_li h8 f).mono ?_
  rintro e w9 ⟨rfl,h9,k9⟩
  obtain⟨_,_,d0,d1,_⟩:=h9.cells
  have hrl:(rmF l f).length<1000000:=by have:=HRl.out;omega
  have HIn:=Lib.hid (SInsert_li h9 b x hrl)
  have K9:=Lib.hid (K8.out.trans k9)
  clear h8 k8 h9 k9
  go_wp2_with fail
  refine HIn.out.mono ?_
  rintro e w10 ⟨rfl,h10,k10⟩
  have H10:=Lib.hid h10
  have K10:=Lib.hid (K9.out.trans k10)
  clear h10 k10
  go_wp2_with fail
  go_ret
  rw[HC.out]
  exact⟨rfl,H10.out,K10.out⟩
 ·rw[if_neg h0]at HC
  have he':(er==0)=false:=by simpa using h0
  go_enter Tryz.func233,Tryz.ntmps233
  go_wp2_with (go_at_call 231;go_must (refine HLk.out.mono ?_;rintro e w1 ⟨rfl,h1,k1⟩;have H1:=Lib.hid h1;have K1:=Lib.hid k1;clear h1 k1))
  go_ret
  rw[HC.out]
  exact⟨rfl,H1.out,K1.out⟩
end
end Go.Proofs.YtgepobccoffnaaaGreatDoor
end
