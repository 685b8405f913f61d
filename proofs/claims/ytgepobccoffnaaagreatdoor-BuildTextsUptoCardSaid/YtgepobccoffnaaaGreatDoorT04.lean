/- Texts joined for a claim: OpenDG: plain laws and contracts. No conditions beyond those that each lemma types. -/
import Derived.Test.YtgepobccoffnaaaGreatDoorT01
import Derived.Test.YtgepobccoffnaaaGreatDoorT02
import Derived.Test.YtgepobccoffnaaaGreatDoorT03
import Derived.Deep.AppendLies
import Derived.Deep.DeepMust
import Derived.Deep.RegionHeld3
import Derived.Deep.RegionLaw
import Derived.Lib.BufferMore
set_option linter.unusedVariables false
set_option linter.unusedSimpArgs false
set_option maxRecDepth 100000
set_option maxHeartbeats 8000000
section
namespace Go.Proofs.YtgepobccoffnaaaGreatDoor
open Go.RowKit Mem
theorem info_node:(Tryz.prog.info? 92).map (fun i=>(i.zero,i.size,i.bytes))=some (some (.agg #[.bool false,.int .i64 0,.string ⟨#[]⟩,.slice none 0 0,.string ⟨#[]⟩,.int .i64 0,.slice none 0 0]),7,104):=by kernel_rfl
theorem info_atr:(Tryz.prog.info? 57).map (fun i=>(i.zero,i.size,i.bytes))=some (some (.agg #[.string ⟨#[]⟩,.string ⟨#[]⟩]),2,32):=by kernel_rfl
theorem cells_of {w:World} {B:Nat} {v0 v1 v2 v3 v4 v5 v6:Value} {t:TypeId} (h:w.heap[B]?=some (.cells #[v0,v1,v2,v3,v4,v5,v6] t (0,0))) :
 w.cell? ⟨B,0,none⟩=some v0∧w.cell? ⟨B,1,none⟩=some v1∧w.cell? ⟨B,2,none⟩=some v2∧w.cell? ⟨B,3,none⟩=some v3∧w.cell? ⟨B,4,none⟩=some v4∧w.cell? ⟨B,5,none⟩=some v5∧w.cell? ⟨B,6,none⟩=some v6:=by
 simp only[cell_of_row w B _ _ _ _ h]
 exact⟨rfl,rfl,rfl,rfl,rfl,rfl,rfl⟩
theorem make_end {T:TreeD} {tb g gg cap5 capg:Nat} {w w5 w6:World} {o:Obj} {Cs:List (List Value)} {el:Bool} {sp:Int} {nm tx:ByteArray} {l:List Pair} {a2:Option Addr} {c2:Nat}
 (ht1:tb<w.heap.size) (ht2:g<w.heap.size) (hne:tb≠g) (HTB:w5.heap[tb]?=some (.cells #[.slice (some ⟨g,0,none⟩) T.nodes.length cap5,.int .i64 T.most] 95 (0,0)))
 (hl:Cs.length=T.nodes.length) (HN: ∀i (h:i<Cs.length) (h':i<T.nodes.length),NodeAt (Dat T.far tb g) w5 Cs[i] T.nodes[i]) (HFar: ∀k,T.far k→k<w5.heap.size∧k≠tb∧k≠g) (HFw: ∀k,T.far k→k<w.heap.size) (HB5:Below w.heap.size w w5)
 (HAT:AtF (fun k=>k<w.heap.size+1) w5 a2 (pairsV l)) (k1:l.length≤c2) (k2:c2≤maxLen) (k3:a2=none→c2=0)
 (hgr:(w5.drew.alloc o).grownBy w6 (Value.slice (some ⟨g,0,none⟩) T.nodes.length cap5).ownBlock) (hat:(Value.slice (some ⟨g,0,none⟩) T.nodes.length cap5).ownBlock=some gg∨gg=w5.heap.size+1)
 (ho:w6.ownsRow 0 92 7 (.slice (some ⟨gg,0,none⟩) (T.nodes.length+1) capg) (T.nodes.length+1) (Cs.flatten++ [.bool el,.int .i64 sp,.string nm,.slice a2 l.length c2,.string tx,.int .i64 (-1),.slice none 0 0])) :
 TreeO (w6.setCell ⟨tb,0,none⟩ (.slice (some ⟨gg,0,none⟩) (T.nodes.length+1) capg)) tb gg (addF T ⟨el,sp,nm,l,tx, -1,[]⟩) ∧
  Keeps (Two tb g) w (w6.setCell ⟨tb,0,none⟩ (.slice (some ⟨gg,0,none⟩) (T.nodes.length+1) capg))∧(gg=g∨w.heap.size≤gg):=by
 have hs5:=HB5.size
 have hk6:Keeps (· =g) w5 w6:=by
  refine⟨hgr.os,hgr.tape,hgr.output,?_,fun k hk hF=> ?_⟩
  ·have:=hgr.size
   simp at this
   omega
  ·refine(hgr.block k (by simp;omega) (fun e=> ?_)).trans (Below.heap_alloc w5.drew o k hk)
   simp only[Value.ownBlock,Option.some.injEq]at e
   exact hF e
 have hg:gg=g∨gg=w5.heap.size+1:=by
  rcases hat with h|h
  ·simp only[Value.ownBlock,Option.some.injEq]at h
   exact .inl h.symm
  ·exact .inr h
 refine⟨tree_push hne HTB hl HN HFar hk6 ho (by omega) ⟨a2,c2,none,0,rfl,k1,k2,k3,Nat.le_refl _,by decide,.inl ⟨rfl,rfl⟩,?_,fun j u hj=>by simp[intsV]at hj⟩,?_,by omega⟩
 ·intro j u hj
  obtain⟨b,o',rfl,hF,hc⟩:=HAT j u hj
  have hb:=lt_of_cell hc
  simp only at hF hb
  refine⟨b,o',rfl,?_,?_⟩
  ·rintro((h|h)|h)
   ·omega
   ·omega
   ·have:=HFw b h
    omega
  ·rw[World.cell?_of_block (w:=w5) (hk6.block b hb (by omega))]
   exact hc
 ·refine((Keeps.ofBelow HB5).trans (hk6.mono fun k _ h=> ?_)).set (.inl (.inl rfl)) _
  exact .inr h
theorem make_yes (T:TreeD) (tb g:Nat) (w:World) (el:Bool) (sp p0:Int) (nm tx:ByteArray) (l:List Pair) (a:Option Addr) (c:Nat) (hc:a=none→c=0) (hlen:l.length≤1048576) (hn:T.nodes.length≤1048576)
 (h:TreeO w tb g T) (ha:At w a (pairsV l)) (hm:(T.nodes.length:Int)-1<T.most) :
 Calls Tryz.prog 201 #[.pointer (some ⟨tb,0,none⟩),.agg #[.bool el,.int .i64 sp,.string nm,.slice a l.length c,.string tx,.int .i64 p0,.slice none 0 0]] w fun e w' =>
  ∃g',Keeps (Two tb g) w w'∧(g'=g∨w.heap.size≤g')∧e= .returned (.tuple #[.int .i64 T.nodes.length,.int .i64 0])∧TreeO w' tb g' (addF T ⟨el,sp,nm,l,tx, -1,[]⟩):=by
 obtain⟨cap,h1,h2,c0,c1,_,_⟩:=h.head
 unfold maxLen at h2
 obtain⟨ht1,ht2⟩:=h.lt
 have HT:=Lib.hid h
 have HFW:=Lib.hid (fun k hk=>(h.far_lt k hk).1)
 have HA:=Lib.hid ha
 have HC:=Lib.hid hc
 clear h ha hc
 go_enter Tryz.func201,Tryz.ntmps201
 go_wp2_with fail
 have hB:=heap_alloc_new w (.cells #[.bool el,.int .i64 sp,.string nm,.slice a l.length c,.string tx,.int .i64 p0,.slice none 0 0] 92)
 have hb1:=(Below.refl w.heap.size w).alloc (Nat.le_refl _) (.cells #[.bool el,.int .i64 sp,.string nm,.slice a l.length c,.string tx,.int .i64 p0,.slice none 0 0] 92)
 have hl1:w.heap.size<(w.alloc (.cells #[.bool el,.int .i64 sp,.string nm,.slice a l.length c,.string tx,.int .i64 p0,.slice none 0 0] 92)).heap.size:=by simp
 generalize w.alloc (.cells #[.bool el,.int .i64 sp,.string nm,.slice a l.length c,.string tx,.int .i64 p0,.slice none 0 0] 92)=w1 at *
 have d1:=cell_later hb1 c1
 have HT1:=Lib.hid (HT.out.below hb1)
 have HB1:=Lib.hid hb1
 have HW:=Lib.hid hB
 clear hb1 hB
 refine wp_region_calm (by kernel_rfl) (by kernel_rfl) ?_
 repeat
  with_reducible refine wpQuiet_step (fun K hK=> ?_)
  first
   |(with_reducible apply calm_skip
     ·rfl
     simp only[Act.put,List.setIfInBounds_toArray,List.set_cons_zero,List.set_cons_succ]
     refine hK _ ?_
     clear hK K)
   |(with_reducible apply calm_run
     ·rfl
     ·intro wq hC
      have zd1:=cell_later hC.out d1
      unfold Oper.quietAt
      go_simp
      first|done|(go_at_call 219;go_must (refine(len_any T tb g _ (HT1.out.below hC.out)).mono ?_;rintro e wx ⟨rfl,rfl⟩;exact⟨rfl,hC⟩))|with_reducible rfl|rfl
     simp only[Act.put,List.setIfInBounds_toArray,List.set_cons_zero,List.set_cons_succ]
     refine hK _ ?_
     clear hK K)
 with_reducible refine wpQuiet_nil ?_
 intro wq HQ
 have zd1:=cell_later HQ.out d1
 have hB:=(HQ.out.block w.heap.size hl1).trans HW.out
 have HT2:=Lib.hid (HT1.out.below HQ.out)
 have HB:=Lib.hid (belowCall HB1.out HQ.out)
 have hlq:w.heap.size<wq.heap.size:=Nat.lt_of_lt_of_le hl1 HQ.out.size
 have f5:=frozen_of_row _ _ 5 _ _ hB
 obtain⟨_,_,_,_,_,q5,_⟩:=cells_of hB
 have hB3:=(Below.heap_alloc _ (.cells #[] 57) w.heap.size (by simpa using hlq)).trans (Lib.heap_setCell_same (i:=5) hB (.int .i64 (-1)))
 have hb3:=(HB.out.setCell (p:=⟨w.heap.size,5,none⟩) (Nat.le_refl _) (.int .i64 (-1))).alloc (by simpa using Nat.le_of_lt hlq) (.cells #[] 57)
 have hs3:((wq.setCell ⟨w.heap.size,5,none⟩ (.int .i64 (-1))).alloc (.cells #[] 57)).heap.size=wq.heap.size+1:=by simp
 have HE:Hid (((wq.setCell ⟨w.heap.size,5,none⟩ (.int .i64 (-1))).alloc (.cells #[] 57)).ownsRow (w.heap.size+1) 57 2 (.slice (some ⟨wq.heap.size,0,none⟩) 0 0) 0 []):=Lib.hid (by
  have:=World.ownsRow_lit (base:=w.heap.size+1) (e:=57) (size:=2) (wq.setCell ⟨w.heap.size,5,none⟩ (.int .i64 (-1))) #[] 0 (by simp;omega) (Nat.zero_le _) rfl
  simpa using this)
 obtain⟨_,_,_,q3,_,_,_⟩:=cells_of hB3
 have f3:=frozen_of_row _ _ 3 _ _ hB3
 have HB3:=Lib.hid hb3
 have HW3:=Lib.hid hB3
 have HA3:=Lib.hid (HA.out.below hb3)
 have HT3:=Lib.hid (HT.out.below hb3)
 have HS3:=Lib.hid hs3
 obtain⟨i0,hi,hz0,hz1,hz2⟩:=info_parts info_atr
 have b0:0+l.length≤maxLen:=by unfold maxLen;omega
 have b1:(0+l.length)*32≤140737488355328:=by omega
 have HNL:=Lib.hid (pairsV_length l)
 have HNE:Hid (some w.heap.size≠(Value.slice (some ⟨wq.heap.size,0,none⟩) 0 0).ownBlock):=Lib.hid (fun e=>by simp only[Value.ownBlock,Option.some.injEq]at e;omega)
 have HNB:Hid (∀k,(Value.slice (some ⟨wq.heap.size,0,none⟩) 0 0).ownBlock=some k→w.heap.size≤k):=Lib.hid (fun k e=>by simp only[Value.ownBlock,Option.some.injEq]at e;omega)
 have HT0:=HT
 clear hB HW HT1 HT2 HB1 hl1 hb3 hB3 HB HA hs3
 go_wp2_with (at_builtin;go_must (refine wpList_append_slice _ rfl _ _ 23 rfl (w.heap.size+1) 57 i0 _ 2 32 Tryz.underlying23 hi hz0 hz1 hz2 rfl (by decide) _ 0 [] rfl HE.out a l.length c (pairsV l) rfl HNL.out HC.out HA3.out (pairsV_one l) b0 b1 (by rw[HS3.out];omega) ?_;intro v2 w4 hown2 hgr2;simp only[Nat.zero_add,List.nil_append]at hown2;obtain⟨a2,c2,rfl,k1,k2,k3,k4⟩:=own_atF (F:=(· <w.heap.size+1)) hown2 (fun _ h=>h);have hW4:=(hgr2.block w.heap.size (by rw[HS3.out];omega) HNE.out).trans HW3.out;obtain⟨_,_,_,q3',_⟩:=cells_of hW4;have f3':=frozen_of_row _ _ 3 _ _ hW4;have HB4:=Lib.hid (HB3.out.grown hgr2 (by rw[HS3.out];omega) HNB.out);have HW4:=Lib.hid hW4;have HK4:=Lib.hid k4;have HG3:=Lib.hid k3.nil;clear hown2 hgr2 k4 k3 hW4 HB3 HW3 HA3 HT3 HS3 HE q3 f3 q5 f5))
 have hB5:=Lib.heap_setCell_same (i:=3) HW4.out (.slice a2 l.length c2)
 have hb5:=HB4.out.setCell (p:=⟨w.heap.size,3,none⟩) (Nat.le_refl _) (.slice a2 l.length c2)
 have hat5:AtF (fun k=>k<w.heap.size+1) (w4.setCell ⟨w.heap.size,3,none⟩ (.slice a2 l.length c2)) a2 (pairsV l) :=
  HK4.out.kept ((Keeps.refl _ _).set (.inl (Nat.lt_succ_self _)) _)
 clear HB4 HW4 HK4
 generalize w4.setCell ⟨w.heap.size,3,none⟩ (.slice a2 l.length c2)=w5 at *
 have ht5:=(HT0.out.below hb5)
 have hlt5:=row_lt hB5
 obtain⟨cap5,Cs,hne,htb,hown,hl,hnd,hfar⟩:=ht5.open_
 have s5:=cell_of_row w5 tb 0 _ _ _ htb
 obtain⟨r0,r1,r2,r3,r4,r5,r6⟩:=cells_of hB5
 clear c0 c1 d1 zd1 HQ
 obtain⟨i1,hi1,hy0,hy1,hy2⟩:=info_parts info_node
 have g0:T.nodes.length+1≤maxLen:=by unfold maxLen;omega
 have g1:(T.nodes.length+1)*104≤140737488355328:=by omega
 have hlg:=ht5.lt
 have HO:=Lib.hid hown
 have HTG:Hid (some tb≠(Value.slice (some ⟨g,0,none⟩) T.nodes.length cap5).ownBlock):=Lib.hid (fun e=>by simp only[Value.ownBlock,Option.some.injEq]at e;exact hne e)
 have HN:=Lib.hid hnd
 have HFA:=Lib.hid hfar
 have HTB:=Lib.hid htb
 have HAT:=Lib.hid hat5
 have HB5:=Lib.hid hb5
 clear hown hnd hfar htb hat5 hb5 ht5 hB5
 clear hi hz0 hz1 hz2 b0 b1 HNL HNE HNB HT0 HT HC
 go_region_law (go_must (refine step_append_lies _ (by rfl) _ _ _ (by rfl) 0 92 i1 _ 7 104 Tryz.underlying93 hi1 hy0 hy1 hy2 rfl (by omega) _ T.nodes.length _ (by rfl) ((HO.out.drew).alloc _) ⟨w5.heap.size,0,none⟩ 1 1 [.bool el,.int .i64 sp,.string nm,.slice a2 l.length c2,.string tx,.int .i64 (-1),.slice none 0 0] (by rfl) (by rfl) (World.news_of_block (cs:= #[.bool el,.int .i64 sp,.string nm,.slice a2 l.length c2,.string tx,.int .i64 (-1),.slice none 0 0]) (t:=92) (fr:=(0,0)) (heap_alloc_new w5.drew _)) (by simp[Value.oneCell']) (by omega) g0 g1 (Nat.zero_le _) (w5.heap.size+1) (by simp) ?_;intro gg capg w6 hown6 hgrow6 hat6 hlt6;have htb6:=(hgrow6.block tb (by simp;omega) HTG.out).trans ((Below.heap_alloc w5.drew _ tb hlg.1).trans HTB.out);have s6:=cell_of_row w6 tb 0 _ _ _ htb6;have f6:=frozen_of_row w6 tb 0 _ _ htb6;clear htb6))
 all_goals
  obtain⟨hT7,hK7,hg7⟩:=make_end ht1 ht2 hne HTB.out hl HN.out HFA.out HFW.out HB5.out HAT.out k1 k2 HG3.out hgrow6 hat6 hown6
  have HT7:=Lib.hid hT7
  have HK7:=Lib.hid hK7
  clear hT7 hK7 hown6 hgrow6 hat6 HN HO HTB HAT
  go_wp2_with (go_at_call 219;go_must (refine(len_any _ tb gg _ HT7.out).mono ?_;rintro e wx ⟨rfl,rfl⟩))
  go_ret2
  exact⟨gg,HK7.out,hg7,by simp[addF],HT7.out⟩
end Go.Proofs.YtgepobccoffnaaaGreatDoor
namespace Go.Proofs.YtgepobccoffnaaaGreatDoor
open Go.RowKit Mem
def mkF (T:TreeD) (d:ND):TreeD×Int×Int:=if(T.nodes.length:Int)-1<T.most then(addF T d,(T.nodes.length:Int),0)else(T,0,43)
theorem make_no (T:TreeD) (tb g:Nat) (w:World) (el:Bool) (sp p0:Int) (nm tx:ByteArray) (n:Nat) (a:Option Addr) (c:Nat)
 (h:TreeO w tb g T) (hm:T.most≤(T.nodes.length:Int)-1) :
 Calls Tryz.prog 201 #[.pointer (some ⟨tb,0,none⟩),.agg #[.bool el,.int .i64 sp,.string nm,.slice a n c,.string tx,.int .i64 p0,.slice none 0 0]] w fun e w' =>
  Keeps (Two tb g) w w'∧e= .returned (.tuple #[.int .i64 0,.int .i64 43])∧TreeO w' tb g T:=by
 obtain⟨cap,h1,h2,c0,c1,_,_⟩:=h.head
 unfold maxLen at h2
 have HT:=Lib.hid h
 have hm': ¬((T.nodes.length:Int)-1<T.most):=by omega
 clear h
 go_enter Tryz.func201,Tryz.ntmps201
 go_wp2_with fail
 have hb1:=(Below.refl w.heap.size w).alloc (Nat.le_refl _) (.cells #[.bool el,.int .i64 sp,.string nm,.slice a n c,.string tx,.int .i64 p0,.slice none 0 0] 92)
 generalize w.alloc (.cells #[.bool el,.int .i64 sp,.string nm,.slice a n c,.string tx,.int .i64 p0,.slice none 0 0] 92)=w1 at *
 have d1:=cell_later hb1 c1
 have HT1:=Lib.hid (HT.out.below hb1)
 have HB1:=Lib.hid hb1
 clear hb1
 refine wp_region_calm (by kernel_rfl) (by kernel_rfl) ?_
 repeat
  with_reducible refine wpQuiet_step (fun K hK=> ?_)
  first
   |(with_reducible apply calm_skip
     ·rfl
     simp only[Act.put,List.setIfInBounds_toArray,List.set_cons_zero,List.set_cons_succ]
     refine hK _ ?_
     clear hK K)
   |(with_reducible apply calm_run
     ·rfl
     ·intro wq hC
      have zd1:=cell_later hC.out d1
      unfold Oper.quietAt
      go_simp
      first|done|(go_at_call 219;go_must (refine(len_any T tb g _ (HT1.out.below hC.out)).mono ?_;rintro e wx ⟨rfl,rfl⟩;exact⟨rfl,hC⟩))|with_reducible rfl|rfl
     simp only[Act.put,List.setIfInBounds_toArray,List.set_cons_zero,List.set_cons_succ]
     refine hK _ ?_
     clear hK K)
 with_reducible refine wpQuiet_nil ?_
 intro wq HQ
 have zd1:=cell_later HQ.out d1
 have HT2:=Lib.hid (HT1.out.below HQ.out)
 have HB:=Lib.hid (belowCall HB1.out HQ.out)
 go_wp2_with fail
 go_ret2
 exact⟨Keeps.ofBelow HB.out,rfl,HT2.out⟩
theorem make_any (T:TreeD) (tb g:Nat) (w:World) (el:Bool) (sp p0:Int) (nm tx:ByteArray) (l:List Pair) (n:Nat) (a:Option Addr) (c:Nat) (hnl:n=l.length) (hc:a=none→c=0) (hlen:l.length≤1048576) (hn:T.nodes.length≤1048576)
 (h:TreeO w tb g T) (ha:At w a (pairsV l)) :
 Calls Tryz.prog 201 #[.pointer (some ⟨tb,0,none⟩),.agg #[.bool el,.int .i64 sp,.string nm,.slice a n c,.string tx,.int .i64 p0,.slice none 0 0]] w fun e w' =>
  ∃g',Keeps (Two tb g) w w'∧(g'=g∨w.heap.size≤g')∧e= .returned (.tuple #[.int .i64 (mkF T ⟨el,sp,nm,l,tx, -1,[]⟩).2.1,.int .i64 (mkF T ⟨el,sp,nm,l,tx, -1,[]⟩).2.2])∧TreeO w' tb g' (mkF T ⟨el,sp,nm,l,tx, -1,[]⟩).1:=by
 subst hnl
 by_cases hm:(T.nodes.length:Int)-1<T.most
 ·have he:mkF T ⟨el,sp,nm,l,tx, -1,[]⟩=(addF T ⟨el,sp,nm,l,tx, -1,[]⟩,(T.nodes.length:Int),0):=by rw[mkF,if_pos hm]
  rw[he]
  exact make_yes T tb g w el sp p0 nm tx l a c hc hlen hn h ha hm
 ·have he:mkF T ⟨el,sp,nm,l,tx, -1,[]⟩=(T,0,43):=by rw[mkF,if_neg hm]
  rw[he]
  exact(make_no T tb g w el sp p0 nm tx l.length a c h (by omega)).mono fun e w' ⟨h1,h2,h3⟩=>⟨g,h1,.inl rfl,h2,h3⟩
theorem Elem_any (T:TreeD) (tb g:Nat) (w:World) (sp:Int) (nm:ByteArray) (l:List Pair) (n:Nat) (a:Option Addr) (c:Nat) (hnl:n=l.length) (hc:a=none→c=0) (hlen:l.length≤1048576) (hn:T.nodes.length≤1048576)
 (h:TreeO w tb g T) (ha:At w a (pairsV l)) :
 Calls Tryz.prog 154 #[.pointer (some ⟨tb,0,none⟩),.int .i64 sp,.string nm,.slice a n c] w fun e w' =>
  ∃g',Keeps (Two tb g) w w'∧(g'=g∨w.heap.size≤g')∧e= .returned (.tuple #[.int .i64 (mkF T (elemN sp nm l)).2.1,.int .i64 (mkF T (elemN sp nm l)).2.2])∧TreeO w' tb g' (mkF T (elemN sp nm l)).1:=by
 subst hnl
 have HC:=Lib.hid (make_any T tb g w true sp 0 nm ⟨#[]⟩ l _ a c rfl hc hlen hn h ha)
 clear h ha hc
 unfold elemN
 go_enter Tryz.func154,Tryz.ntmps154
 go_wp2_with (go_at_call 201;go_must (refine HC.out.mono ?_;rintro e w1 ⟨g',hK,hg,rfl,hT⟩))
 go_ret2
 exact⟨g',hK,hg,rfl,hT⟩
end Go.Proofs.YtgepobccoffnaaaGreatDoor
namespace Go.Proofs.YtgepobccoffnaaaGreatDoor
open Go.RowKit Mem
def spaceQ (T:TreeD) (n:Int):Int:=if elemF T n then((T.nodes[n.toNat]?).map (·.space)).getD 0 else 0
def nameQ (T:TreeD) (n:Int):ByteArray:=if elemF T n then((T.nodes[n.toNat]?).map (·.name)).getD ⟨#[]⟩else⟨#[]⟩
def attrsQ (T:TreeD) (n:Int):List Pair:=if elemF T n then((T.nodes[n.toNat]?).map (·.attrs)).getD []else []
theorem what_of {T:TreeD} {i:Nat} (h:i<T.nodes.length) (he:elemF T i=true):spaceQ T i=T.nodes[i].space∧nameQ T i=T.nodes[i].name∧attrsQ T i=T.nodes[i].attrs:=by
 simp[spaceQ,nameQ,attrsQ,he,h]
theorem what_no {T:TreeD} {n:Int} (he:elemF T n=false):spaceQ T n=0∧nameQ T n=⟨#[]⟩∧attrsQ T n= []:=by
 simp[spaceQ,nameQ,attrsQ,he]
theorem keepW3 {u u':World} {B:Nat} {v1 v2 v3:Value} (hb:u'.heap[B]?=u.heap[B]?) (h:u.cell? ⟨B,1,none⟩=some v1∧u.cell? ⟨B,2,none⟩=some v2∧u.cell? ⟨B,3,none⟩=some v3) :
 u'.cell? ⟨B,1,none⟩=some v1∧u'.cell? ⟨B,2,none⟩=some v2∧u'.cell? ⟨B,3,none⟩=some v3:=by
 rw[World.cell?_of_block (a:=⟨B,1,none⟩) hb,World.cell?_of_block (a:=⟨B,2,none⟩) hb,World.cell?_of_block (a:=⟨B,3,none⟩) hb]
 exact h
theorem What_any (T:TreeD) (tb g:Nat) (w:World) (n:Int) (hat: ∀i (h:i<T.nodes.length),T.nodes[i].attrs.length≤1048576) (h:TreeO w tb g T) :
 Calls Tryz.prog 49 #[.pointer (some ⟨tb,0,none⟩),.int .i64 n] w fun e w'=> ∃v,e= .returned (.tuple #[.int .i64 (spaceQ T n),.string (nameQ T n),v]) ∧
  w'.ownsRow w.heap.size 57 2 v (attrsQ T n).length (pairsV (attrsQ T n))∧Below w.heap.size w w':=by
 have HC:=Lib.hid (elem_any T tb g w n h)
 cases he:elemF T n
 ·obtain⟨p1,p2,p3⟩:=what_no he
  have HP:=Lib.hid (And.intro p1 (And.intro p2 p3))
  rw[he]at HC
  clear h p1 p2 p3
  go_enter Tryz.func49,Tryz.ntmps49
  go_wp2_with (go_at_call 80;go_must (refine HC.out.mono ?_;rintro e w1 ⟨rfl,rfl⟩))
  go_ret3
  refine⟨_,by rw[HP.out.1,HP.out.2.1];rfl,?_,Below.refl _ _⟩
  rw[HP.out.2.2]
  exact World.ownsRow_nil _ _ _ _
 ·have hi:=isF_lt (T:=T) (a:=n) (by unfold elemF at he;exact(Bool.and_eq_true_iff.1 he).1)
  obtain⟨i,rfl⟩:=Int.eq_ofNat_of_zero_le (by omega:0≤n)
  have hlt:i<T.nodes.length:=by omega
  obtain⟨p1,p2,p3⟩:=what_of hlt he
  have HP:=Lib.hid (And.intro p1 (And.intro p2 p3))
  obtain⟨cap,h1,h2,c0,_,_,_⟩:=h.head
  obtain⟨aa,ac,ka,kc,_,_,hA3,_,_,_,hA,_,hc,_⟩:=h.node hlt
  have d0:=hc 0 _ rfl
  rw[Nat.add_zero]at d0
  have d1:=hc 1 _ rfl
  have d2:=hc 2 _ rfl
  have d3:=hc 3 _ rfl
  have d4:=hc 4 _ rfl
  have d5:=hc 5 _ rfl
  have d6:=hc 6 _ rfl
  have hlen:=hat i hlt
  obtain⟨l,hl⟩: ∃l,l=T.nodes[i].attrs:=⟨_,rfl⟩
  rw[←hl]at d3 hA hlen p3
  have HPL:=Lib.hid p3
  have HA:=Lib.hid hA.at
  have H3:=Lib.hid hA3
  unfold maxLen at h2
  rw[he]at HC
  clear h hc hA hA3 hl hat p1 p2 p3 he
  go_enter Tryz.func49,Tryz.ntmps49
  go_wp2_with (go_at_call 80;go_must (refine HC.out.mono ?_;rintro e w1 ⟨rfl,rfl⟩))
  have hB:=heap_alloc_new w (.cells #[.bool T.nodes[i].elem,.int .i64 T.nodes[i].space,.string T.nodes[i].name,.slice aa l.length ac,.string T.nodes[i].text,.int .i64 T.nodes[i].parent,.slice ka T.nodes[i].kids.length kc] 92)
  have hb1:=(Below.refl w.heap.size w).alloc (Nat.le_refl _) (.cells #[.bool T.nodes[i].elem,.int .i64 T.nodes[i].space,.string T.nodes[i].name,.slice aa l.length ac,.string T.nodes[i].text,.int .i64 T.nodes[i].parent,.slice ka T.nodes[i].kids.length kc] 92)
  have hl1:w.heap.size<(w.alloc (.cells #[.bool T.nodes[i].elem,.int .i64 T.nodes[i].space,.string T.nodes[i].name,.slice aa l.length ac,.string T.nodes[i].text,.int .i64 T.nodes[i].parent,.slice ka T.nodes[i].kids.length kc] 92)).heap.size:=by simp
  generalize w.alloc (.cells #[.bool T.nodes[i].elem,.int .i64 T.nodes[i].space,.string T.nodes[i].name,.slice aa l.length ac,.string T.nodes[i].text,.int .i64 T.nodes[i].parent,.slice ka T.nodes[i].kids.length kc] 92)=w1 at *
  obtain⟨_,q1,q2,q3,_,_,_⟩:=cells_of hB
  have HA1:=Lib.hid (HA.out.below hb1)
  have HB1:=Lib.hid hb1
  have HE:Hid ((w1.drew.alloc (.cells #[] 57)).ownsRow w.heap.size 57 2 (.slice (some ⟨w1.heap.size,0,none⟩) 0 0) 0 []):=Lib.hid (World.ownsRow_lit w1.drew #[] 0 hb1.size (Nat.zero_le _) rfl)
  have HA2:=Lib.hid (HA1.out.below ((Below.refl _ w1).drew.alloc (Nat.le_refl _) (.cells #[] 57)))
  obtain⟨i0,hi0,hz0,hz1,hz2⟩:=info_parts info_atr
  have b0:0+l.length≤maxLen:=by unfold maxLen;omega
  have b1:(0+l.length)*32≤140737488355328:=by omega
  have HNL:=Lib.hid (pairsV_length l)
  have hs2:w.heap.size≤(w1.drew.alloc (.cells #[] 57)).heap.size:=by simp;omega
  have hl2:w.heap.size<(w1.drew.alloc (.cells #[] 57)).heap.size:=by simp;omega
  have HNE:Hid (some w.heap.size≠(Value.slice (some ⟨w1.heap.size,0,none⟩) 0 0).ownBlock):=Lib.hid (fun e=>by simp only[Value.ownBlock,Option.some.injEq]at e;omega)
  have HNB:Hid (∀k,(Value.slice (some ⟨w1.heap.size,0,none⟩) 0 0).ownBlock=some k→w.heap.size≤k):=Lib.hid (fun k e=>by simp only[Value.ownBlock,Option.some.injEq]at e;omega)
  clear hB hb1 c0 d0 d1 d2 d3 d4 d5 d6 HC HA
  go_region_held3 (fun u=>u.cell? ⟨w.heap.size,1,none⟩=some (.int .i64 T.nodes[i].space)∧u.cell? ⟨w.heap.size,2,none⟩=some (.string T.nodes[i].name)∧u.cell? ⟨w.heap.size,3,none⟩=some (.slice aa l.length ac))
   (first|exact keepW3 (u:=w1) rfl ⟨q1,q2,q3⟩|exact keepW3 (u:=w1) (Below.heap_alloc w1.drew _ _ hl1) ⟨q1,q2,q3⟩|exact keepW3 (hgr2.block _ hl2 HNE.out) (by assumption))
   (first|(go_must (refine step_append_slice (by rfl) _ _ 23 (by rfl) w.heap.size 57 i0 _ 2 32 Tryz.underlying23 hi0 hz0 hz1 hz2 rfl (by decide) _ 0 [] (by rfl) HE.out aa l.length ac (pairsV l) (by rfl) HNL.out H3.out HA2.out (pairsV_one l) b0 b1 hs2 ?_;intro v2 w4 hown2 hgr2;simp only[Nat.zero_add,List.nil_append]at hown2)))
  have HO2:=Lib.hid hown2
  have HG2:=Lib.hid hgr2
  clear hown2 hgr2
  go_wp2_with fail
  go_ret3
  refine⟨v2,by rw[HP.out.1,HP.out.2.1];rfl,?_,?_⟩
  ·rw[HPL.out];exact HO2.out
  ·exact((HB1.out.drew).alloc HB1.out.size _).grown HG2.out hs2 HNB.out
end Go.Proofs.YtgepobccoffnaaaGreatDoor
namespace Go.Proofs.YtgepobccoffnaaaGreatDoor
open Go.RowKit Mem
def likeF (T:TreeD) (n:Int):TreeD×Int×Int:=if elemF T n then mkF T (elemN (spaceQ T n) (nameQ T n) (attrsQ T n))else(T,0,47)
theorem attrsQ_short {T:TreeD} (hat: ∀i (h:i<T.nodes.length),T.nodes[i].attrs.length≤1048576) (n:Int):(attrsQ T n).length≤1048576:=by
 unfold attrsQ
 split
 ·by_cases h:n.toNat<T.nodes.length
  ·simpa[h] using hat _ h
  ·simp[h]
 ·exact Nat.zero_le _
theorem Like_any (T:TreeD) (tb g:Nat) (w:World) (n:Int) (hn:T.nodes.length≤1048576) (hat: ∀i (h:i<T.nodes.length),T.nodes[i].attrs.length≤1048576) (h:TreeO w tb g T) :
 Calls Tryz.prog 231 #[.pointer (some ⟨tb,0,none⟩),.int .i64 n] w fun e w' =>
  ∃g',Keeps (Two tb g) w w'∧(g'=g∨w.heap.size≤g')∧e= .returned (.tuple #[.int .i64 (likeF T n).2.1,.int .i64 (likeF T n).2.2])∧TreeO w' tb g' (likeF T n).1:=by
 have HC:=Lib.hid (elem_any T tb g w n h)
 have HT:=Lib.hid h
 cases he:elemF T n
 ·have HP:Hid (likeF T n=(T,0,47)):=by show _=_;rw[likeF,he];rfl
  rw[he]at HC
  clear h
  go_enter Tryz.func231,Tryz.ntmps231
  go_wp2_with (go_at_call 80;go_must (refine HC.out.mono ?_;rintro e w1 ⟨rfl,rfl⟩))
  go_ret2
  rw[HP.out]
  exact⟨g,Keeps.refl _ _,.inl rfl,rfl,HT.out⟩
 ·obtain⟨sp,hsp⟩: ∃x,x=spaceQ T n:=⟨_,rfl⟩
  obtain⟨nm,hnm⟩: ∃x,x=nameQ T n:=⟨_,rfl⟩
  obtain⟨l,hl⟩: ∃x,x=attrsQ T n:=⟨_,rfl⟩
  have HP:Hid (likeF T n=mkF T (elemN sp nm l)):=by show _=_;rw[likeF,he,hsp,hnm,hl];rfl
  have HW:=Lib.hid (What_any T tb g w n hat h)
  rw[←hsp,←hnm,←hl]at HW
  have hlen:=attrsQ_short hat n
  rw[←hl]at hlen
  rw[he]at HC
  clear h hat hsp hnm hl
  go_enter Tryz.func231,Tryz.ntmps231
  go_wp2_with (go_at_call 80;go_must (refine HC.out.mono ?_;rintro e w1 ⟨rfl,rfl⟩))
  refine HW.out.mono ?_
  rintro e w1 ⟨v,rfl,ho,hb⟩
  obtain⟨a,c,rfl,_,_,ha,hat1⟩:=own_at ho
  have HB:=Lib.hid hb
  have HE:=Lib.hid (Elem_any T tb g w1 sp nm l _ a c rfl ha hlen hn (HT.out.below hb) hat1)
  clear ho hb ha hat1
  go_wp2_with fail
  refine HE.out.mono ?_
  rintro e w2 ⟨g',hK,hg,rfl,hT⟩
  have HK:=Lib.hid ((Keeps.ofBelow HB.out).trans hK)
  have HT2:=Lib.hid hT
  have hs:=HB.out.size
  have hg2:g'=g∨w.heap.size≤g':=hg.imp id (Nat.le_trans hs)
  clear hK hT hs hg
  go_wp2_with fail
  go_ret2
  rw[HP.out]
  exact⟨g',HK.out,hg2,rfl,HT2.out⟩
end Go.Proofs.YtgepobccoffnaaaGreatDoor
end
