/- Texts joined for a claim: CuN, CuM, CuP: plain laws and contracts. No conditions beyond those that each lemma types. -/
import Derived.Test.YtgepobccoffnaaaGreatDoorT21
set_option linter.unusedVariables false
set_option linter.unusedSimpArgs false
set_option maxRecDepth 100000
set_option maxHeartbeats 8000000
namespace Go.Proofs.YtgepobccoffnaaaGreatDoor
open Go.RowKit Mem
section
def BE.wide (E:BE) (lo hi:Nat):BE:= {E with ex:=fun k=>E.ex k∨(lo≤k∧k<hi)}
section
variable {E:BE} {ws w w':World} {c:Nat} {s:Int} {b b':BuD} {m m':BMark}
theorem OM.wide {lo hi:Nat}: ∀k,OM (E.wide lo hi) k→OM E k:=fun _ hx=>hx.imp (fun h=>⟨h.1,fun he=>h.2 (.inl he)⟩) id
theorem SM.wide (h:SM E ws c s b m w) (hb:Below w.heap.size w w'):SM (E.wide w.heap.size w'.heap.size) w' c s b m w':=by
 have h':=h.world hb
 obtain⟨⟨⟨h1,h2,h3,h4⟩,⟨k1,k2,k3,k4,k5,k6,k7,k8,k9,kA⟩,h5⟩,ho⟩:=h'
 refine⟨⟨⟨h.sx.bm.li.foreign (F:=fun _=>False) (Keeps.ofBelow hb) (fun _ hx=>hx.elim) fun k hx=> ?_,h2,.inl h3,h4⟩,⟨k1,.inl k2,k3,k4,k5.other fun k _ hx=>OM.wide k hx,k6,k7,k8,k9,kA⟩,Keeps.refl _ _⟩,ho⟩
 rcases hx with hx|hx
 ·exact⟨.inl hx,Nat.lt_of_lt_of_le (h.sx.bm.li.exlt k hx) hb.size⟩
 ·exact⟨.inr hx.1,hx.2⟩
theorem SM.unwide {c':Nat} {s':Int} {w1:World} (h0:SM E ws c s b' m' w) (hb:Below w.heap.size w w1) {lo hi:Nat} (h:SM (E.wide lo hi) w1 c' s' b m w') (hm:m.attrs=m'.attrs):SM E ws c' s' b m w':=by
 obtain⟨⟨⟨h1,h2,h3,h4⟩,⟨k1,k2,k3,k4,k5,k6,k7,k8,k9,kA⟩,h5⟩,ho⟩:=h
 have hk:Keeps (OM E) w w':=(Keeps.ofBelow hb).trans (h5.mono fun k _ hx=>OM.wide k hx)
 refine⟨⟨⟨h1.less fun k hx=> .inl hx,h2,h0.sx.bm.exb,h4⟩,⟨k1,h0.sx.mo.exm,k3,k4,?_,k6,k7,k8,k9,kA⟩,h0.sx.keep.trans hk⟩,ho⟩
 rw[hm]
 exact h0.sx.mo.att.kept hk
theorem row_wide (h:SM E ws c s b m w) (hb:Below w.heap.size w w') {e:TypeId} {sz n:Nat} {xs:List Value} {va:Option Addr} {vc:Nat} (ho:w'.ownsRow w.heap.size e sz (.slice va n vc) n xs) (hat:At w' va xs):AtF (OM (E.wide w.heap.size w'.heap.size)) w' va xs:=fun j u hj=>by
 obtain⟨g,o,rfl,hc⟩:=hat j u hj
 refine⟨g,o,rfl,fun hx=> ?_,hc⟩
 have h1:=(ho.lt g rfl).1
 have h2:g<w'.heap.size:=lt_of_cell hc
 have h3:=h.sx.bm.row.lt
 have h4:=h.sx.mo.row.lt
 rcases hx with hx|hx|hx
 ·exact hx.2 (.inr ⟨h1,h2⟩)
 ·have:g=E.bb:=hx
  omega
 ·have:g=E.mb:=hx
  omega
theorem stImply_keep (T:TreeD) (but:ByteArray) {x:Int} (hx:namedF T x [but]=true): ∀l:List Int,x∈l→x∈stImply T but l
 | [],h=>h
 |y::r,h=>by
  rw[stImply]
  split
  ·rename_i hc
   rcases List.mem_cons.1 h with e|h
   ·subst e
    rw[hx]at hc
    simp at hc
   ·exact stImply_keep T but hx r h
  ·exact h
theorem otherR_step (want:ByteArray) (b:BuD) (l:List Int) (k:Nat) (h:k<l.length):BuD.otherR want b (l.take (k+1)).reverse =
 if(spaceQ b.S.T l[k]==0)&&oneF [want] (nameQ b.S.T l[k])then(b.imply want).popTo l[k]
 else if specialF (spaceQ b.S.T l[k]) (nameQ b.S.T l[k])then b
 else BuD.otherR want b (l.take k).reverse:=by
 rw[List.take_succ_eq_append_getElem h,List.reverse_append,List.reverse_singleton,List.singleton_append,BuD.otherR]
theorem popTo_last (b:BuD) (L:List Int) (x:Int):BuD.popTo (b.stk (L++ [x])) x=b.stk L:=by
 unfold BuD.popTo
 show b.stk ((((L++ [x]).reverse.dropWhile fun y=>y !=x).drop 1).reverse)=b.stk L
 rw[List.reverse_append,List.reverse_singleton,List.singleton_append,List.dropWhile_cons_of_neg (by simp)]
 simp
theorem popTo_more (b:BuD) (L:List Int) {x y:Int} (h:y≠x):BuD.popTo (b.stk (L++ [y])) x=BuD.popTo (b.stk L) x:=by
 unfold BuD.popTo
 show b.stk ((((L++ [y]).reverse.dropWhile fun z=>z !=x).drop 1).reverse)=b.stk (((L.reverse.dropWhile fun z=>z !=x).drop 1).reverse)
 rw[List.reverse_append,List.reverse_singleton,List.singleton_append,List.dropWhile_cons_of_pos (by simpa using h)]
theorem mem_last {L:List Int} {x:Int} (h:x∈L): ∃L0 y,L=L0++ [y]:=by
 rcases List.eq_nil_or_concat L with e|⟨L0,y,e⟩
 ·rw[e]at h;cases h
 ·exact⟨L0,y,by rw[e,List.concat_eq_append]⟩
theorem other_sm (h:SM E ws c s b m w) (want:ByteArray):Calls Tryz.prog 175 #[.pointer (some ⟨E.bb,0,none⟩),.string want] w fun r w'=>r= .returned (.tuple #[])∧SM E ws c s (b.other want) m w':=by
 have H:=Lib.hid h
 have hlen:=H.out.ok.len.1
 obtain⟨-,d1, -⟩:=H.out.sx.bc
 have HAll:=Lib.hid (all_sm H.out)
 obtain⟨l,hL⟩: ∃l,l=b.S.l:=⟨_,rfl⟩
 have HV:Hid (b.other want=BuD.otherR want b (l.take l.length).reverse):=Lib.hid (by rw[List.take_of_length_le (Nat.le_refl _),hL];rfl)
 have HLB:=Lib.hid hL
 rw[←hL]at hlen HAll
 clear h hL
 go_enter Tryz.func175,Tryz.ntmps175
 go_wp2_with (go_at_call 105;go_must (refine HAll.out.mono ?_;rintro e w1 ⟨v,rfl,ho,hb,h1⟩;obtain⟨va,vc,rfl,hv1,hv2,hv3,hat⟩:=own_at ho;have H1:=Lib.hid (H.out.wide hb);have HA:=Lib.hid (row_wide H.out hb ho hat);have HB:=Lib.hid hb;clear ho hb h1 hat hv3))
 have HU:Hid (∀b1 u,SM (E.wide w.heap.size w1.heap.size) w1 c s b1 m u→SM E ws c s b1 m u):=Lib.hid fun b1 u hu=>H.out.unwide HB.out hu rfl
 have HC:Hid (∀b1 u,SM (E.wide w.heap.size w1.heap.size) w1 c s b1 m u→u.cell? ⟨E.bb,0,none⟩=some (.pointer (some ⟨E.tb,0,none⟩))∧u.cell? ⟨E.bb,1,none⟩=some (.pointer (some ⟨E.sb,0,none⟩))):=Lib.hid fun b1 u hu=>⟨hu.sx.bc.1,hu.sx.bc.2.1⟩
 have HWh:Hid (∀b1 u x,SM (E.wide w.heap.size w1.heap.size) w1 c s b1 m u→Calls Tryz.prog 49 #[.pointer (some ⟨E.tb,0,none⟩),.int .i64 x] u fun r w'=> ∃v,r= .returned (.tuple #[.int .i64 (spaceQ b1.S.T x),.string (nameQ b1.S.T x),v])∧SM (E.wide w.heap.size w1.heap.size) w1 c s b1 m w'):=Lib.hid fun b1 u x hu=>(what_sm hu x).mono fun _ _ ⟨v,hr,_,_,hs⟩=>⟨v,hr,hs⟩
 have HIm:Hid (∀b1 u,SM (E.wide w.heap.size w1.heap.size) w1 c s b1 m u→Calls Tryz.prog 125 #[.pointer (some ⟨E.sb,0,none⟩),.string want] u fun r w'=>r= .returned (.tuple #[])∧SM (E.wide w.heap.size w1.heap.size) w1 c s (b1.imply want) m w'):=Lib.hid fun b1 u hu=>imply_sm hu want
 have HPo:Hid (∀b1 u,SM (E.wide w.heap.size w1.heap.size) w1 c s b1 m u→Calls Tryz.prog 64 #[.pointer (some ⟨E.sb,0,none⟩)] u fun r w'=>r= .returned (.int .i64 b1.top)∧SM (E.wide w.heap.size w1.heap.size) w1 c s b1.pop m w'):=Lib.hid fun b1 u hu=>pop_sm hu
 have HAk:Hid (∀b1 u,SM (E.wide w.heap.size w1.heap.size) w1 c s b1 m u→AtF (OM (E.wide w.heap.size w1.heap.size)) u va (intsV l)):=Lib.hid fun b1 u hu=>HA.out.kept hu.sx.keep
 have HDr:Hid (∀b1 u,SM (E.wide w.heap.size w1.heap.size) w1 c s b1 m u→SM (E.wide w.heap.size w1.heap.size) w1 c s b1 m u.drew):=Lib.hid fun b1 u hu=>hu.drew
 have HAl:Hid (∀b1 u o,SM (E.wide w.heap.size w1.heap.size) w1 c s b1 m u→SM (E.wide w.heap.size w1.heap.size) w1 c s b1 m (u.alloc o)):=Lib.hid fun b1 u o hu=>hu.alloc o
 generalize SM (E.wide w.heap.size w1.heap.size) w1 c s=SS at *
 go_loopw [5] (fun i wr=> ∃k:Nat,k≤l.length∧i= .int .i64 ((k:Int)-1)∧Hid (SS b m wr)∧Hid (b.other want=BuD.otherR want b (l.take k).reverse)) (fun i _=>(intOf i+1).toNat)
 case atStart=>exact⟨l.length,Nat.le_refl _,rfl,H1,HV⟩
 case round =>
  obtain⟨k,hk,rfl,HR,HVr⟩:=hrel
  cases k with
  |zero =>
   go_wp2_with fail
   go_end0
   rw[HVr.out]
   exact⟨rfl,HU.out _ _ HR.out⟩
  |succ k =>
   have hlt:k<l.length:=by omega
   obtain⟨bb,o,rfl⟩:=HA.out.at.some_of (by intro h;have:=congrArg List.length h;rw[intsV_length,List.length_nil]at this;omega)
   have hx:=(HAk.out _ _ HR.out).at.get (intsV_get l k hlt)
   have e1:((k+1:Nat):Int)-1=(k:Int):=by omega
   rw[e1]
   obtain⟨d0, -⟩:=HC.out _ _ HR.out
   have HST:=Lib.hid (otherR_step want b l k hlt)
   have HXl:=Lib.hid (show l[k]∈l from List.getElem_mem hlt)
   obtain⟨x,hxx⟩: ∃x,x=l[k]:=⟨_,rfl⟩
   rw[←hxx]at hx HST HXl
   have HG:Hid (∀b1 u,SS b1 m u→u.cell? ⟨bb,o+k,none⟩=some (.int .i64 x)):=Lib.hid fun b1 u hu=>by
    rw[hxx];exact(HAk.out _ _ hu).at.get (intsV_get l k hlt)
   have HTS:Hid (spaceQ b.S.T x=0→oneF [want] (nameQ b.S.T x)=true→x∈(b.imply want).S.l):=Lib.hid fun h1 h2=>by
    have hel:=H.out.ok.fi.lel x (HLB.out▸HXl.out)
    have hn:namedF b.S.T x [want]=true:=by
     unfold namedF oneF at *
     rw[hel,h1]
     rw[Bool.and_eq_true]at h2
     rw[h2.1]
     rfl
    show x∈(stImply b.S.T want b.S.l.reverse).reverse
    rw[List.mem_reverse]
    exact stImply_keep _ _ hn _ (List.mem_reverse.2 (HLB.out▸HXl.out))
   have HW:=Lib.hid (HWh.out b wr.drew x (HDr.out _ _ HR.out))
   clear hxx
   go_wp2_with fail
   go_region_law (first
    |(go_simp;go_at_call 49;refine HW.out.mono ?_
      rintro e w2 ⟨v,rfl,h2⟩
      have H2:=Lib.hid h2
      clear h2))
   all_goals
    try simp only[Act.put,List.getElem_toArray,List.getElem_cons_succ,List.getElem_cons_zero,List.setIfInBounds_toArray,List.set_cons_zero,List.set_cons_succ]
    clear HW
    generalize spaceQ b.S.T x=xs at *
    generalize nameQ b.S.T x=xn at *
    have HSp:Hid (∀u,Calls Tryz.prog 211 #[.int .i64 xs,.string xn] u fun e w'=>e= .returned (.bool (specialF xs xn))∧u=w'):=Lib.hid fun u=>Special_any xs xn u
    generalize specialF xs xn=t3 at *
    have HO:Hid (∀u:World,Calls Tryz.prog 158 #[.string xn,.slice (some ⟨u.heap.size,0,none⟩) 1 1] (u.alloc (.cells #[.string want] 9)) fun e w'=>e= .returned (.bool (oneF [want] xn))∧u.alloc (.cells #[.string want] 9)=w'):=Lib.hid fun u=>one_any xn [want] _ _ _ (by unfold maxLen;simp) (at_alloc rfl rfl)
    generalize oneF [want] xn=t at *
    obtain⟨-,d1'⟩:=HC.out _ _ H2.out
    by_cases hx0:xs=0
    ·subst hx0
     have hst:=HST.out
     simp only[beq_self_eq_true,Bool.true_and]at hst
     clear HST
     cases t
     ·cases t3
      ·go_wp2_with (first
        |(go_at_call 158;go_must (refine(HO.out w2).mono ?_;rintro e w3 ⟨rfl,rfl⟩))
        |(go_at_call 211;go_must (with_reducible refine(HSp.out _).mono ?_;rintro e w4 ⟨rfl,rfl⟩)))
       go_roundw
       case rel=>exact⟨k,by omega,by go_num,Lib.hid (HAl.out _ _ _ H2.out),Lib.hid (by rw[HVr.out,hst];simp)⟩
       case measure=>simp[intOf]
      ·go_wp2_with (first
        |(go_at_call 158;go_must (refine(HO.out w2).mono ?_;rintro e w3 ⟨rfl,rfl⟩))
        |(go_at_call 211;go_must (with_reducible refine(HSp.out _).mono ?_;rintro e w4 ⟨rfl,rfl⟩)))
       first|go_end0|refine bodyPost_ret (results_none rfl _ _ _) rfl ?_
       rw[HVr.out,hst]
       exact⟨by first|rfl|trivial,HU.out _ _ (HAl.out _ _ _ H2.out)⟩
     ·have HX:=Lib.hid (HTS.out rfl rfl)
      have HVX:Hid (b.other want=(b.imply want).popTo x):=Lib.hid (by rw[HVr.out,hst];simp)
      clear hst
      have g1:=(HC.out _ _ (HAl.out _ _ (.cells #[.string want] 9) H2.out)).2
      go_wp2_with (first
       |(go_at_call 158;go_must (refine(HO.out w2).mono ?_;rintro e w3 ⟨rfl,rfl⟩))
       |(go_at_call 125;go_must (refine(HIm.out _ _ (HAl.out _ _ _ H2.out)).mono ?_;rintro e w5 ⟨rfl,h5⟩;have H5:=Lib.hid h5;clear h5)))
      go_loopg [] (b.imply want).S.l.length (fun n w6=>Hid (∃L:List Int,L.length=n∧SS ((b.imply want).stk L) m w6∧x∈L∧(b.imply want).popTo x=((b.imply want).stk L).popTo x))
      case atStart=>exact Lib.hid ⟨(b.imply want).S.l,rfl,H5.out,HX.out,rfl⟩
      case round =>
       obtain⟨L,hL1,hL2,hL3,hL4⟩:=hrel.out
       obtain⟨L0,y,rfl⟩:=mem_last hL3
       have HLa:=Lib.hid hL1
       have HLb:=Lib.hid hL2
       have HLc:=Lib.hid hL3
       have HLd:=Lib.hid hL4
       clear hL1 hL2 hL3 hL4
       rename World=>wz
       have htop:BuD.top ((b.imply want).stk (L0++ [y]))=y:=by show((L0++ [y]).getLast?.getD 0)=y;simp
       have hpop:BuD.pop ((b.imply want).stk (L0++ [y]))=(b.imply want).stk L0:=by unfold BuD.pop;show(b.imply want).stk ((L0++ [y]).dropLast)=_;simp
       have HP:=Lib.hid (HPo.out _ _ (HDr.out _ _ HLb.out))
       rw[htop,hpop]at HP
       clear htop hpop
       have q1:=(HC.out _ _ (HDr.out _ _ HLb.out)).2
       have q0:=HG.out _ _ (HDr.out _ _ HLb.out)
       by_cases hyx:y=x
       ·subst hyx
        go_wp2_with fail
        go_region_held3 (fun u=>u.cell? ⟨E.bb,1,none⟩=some (.pointer (some ⟨E.sb,0,none⟩))∧u.cell? ⟨bb,o+k,none⟩=some (.int .i64 y))
         (first|exact⟨q1,q0⟩|exact⟨p1,p0⟩)
         (first|(go_at_call 64;refine HP.out.mono ?_;rintro e w7 ⟨rfl,h7⟩;have p1:=(HC.out _ _ h7).2;have p0:=HG.out _ _ h7;have H7:=Lib.hid h7;clear h7))
        all_goals
         try simp only[Act.put,List.getElem_toArray,List.getElem_cons_succ,List.getElem_cons_zero,List.setIfInBounds_toArray,List.set_cons_zero,List.set_cons_succ]
         go_wp2_with fail
         first|go_end0|refine bodyPost_ret (results_none rfl _ _ _) rfl ?_
         rw[HVX.out,HLd.out,popTo_last]
         exact⟨by first|rfl|trivial,HU.out _ _ H7.out⟩
       ·have hyb:(y !=x)=true:=by simpa using hyx
        have HM:=Lib.hid (popTo_more (b.imply want) L0 hyx)
        have HIn:Hid (x∈L0):=Lib.hid (by
         rcases List.mem_append.1 HLc.out with h|h
         ·exact h
         ·exact absurd (List.mem_singleton.1 h).symm hyx)
        clear hyx
        go_wp2_with fail
        go_region_held3 (fun u=>u.cell? ⟨E.bb,1,none⟩=some (.pointer (some ⟨E.sb,0,none⟩))∧u.cell? ⟨bb,o+k,none⟩=some (.int .i64 x))
         (first|exact⟨q1,q0⟩|exact⟨p1,p0⟩)
         (first|(go_at_call 64;refine HP.out.mono ?_;rintro e w7 ⟨rfl,h7⟩;have p1:=(HC.out _ _ h7).2;have p0:=HG.out _ _ h7;have H7:=Lib.hid h7;clear h7))
        all_goals
         try simp only[Act.put,List.getElem_toArray,List.getElem_cons_succ,List.getElem_cons_zero,List.setIfInBounds_toArray,List.set_cons_zero,List.set_cons_succ]
         go_wp2_with fail
         go_roundg L0.length
         case measure=>have:=HLa.out;rw[List.length_append,List.length_singleton]at this;omega
         case rel=>exact Lib.hid ⟨L0,rfl,H7.out,HIn.out,by rw[HLd.out,HM.out]⟩
    ·have hx1:(xs==0)=false:=beq_eq_false_iff_ne.2 hx0
     clear hx0
     have hst:=HST.out
     simp only[hx1,Bool.false_and,Bool.false_eq_true,if_false]at hst
     clear HST
     cases t3
     ·go_wp2_with (first
       |(go_at_call 211;go_must (with_reducible refine(HSp.out _).mono ?_;rintro e w4 ⟨rfl,rfl⟩)))
      go_roundw
      case rel=>exact⟨k,by omega,by go_num,H2,Lib.hid (by rw[HVr.out,hst];simp)⟩
      case measure=>simp[intOf]
     ·go_wp2_with (first
       |(go_at_call 211;go_must (with_reducible refine(HSp.out _).mono ?_;rintro e w4 ⟨rfl,rfl⟩)))
      first|go_end0|refine bodyPost_ret (results_none rfl _ _ _) rfl ?_
      rw[HVr.out,hst]
      exact⟨by first|rfl|trivial,HU.out _ _ H2.out⟩
end
end
section
section
variable {E:BE} {ws w w':World} {c:Nat} {s:Int} {b b':BuD} {m m':BMark}
theorem forms_sm (h:SM E ws c s b m w) (hc:c≤100000):Calls Tryz.prog 169 #[.pointer (some ⟨E.bb,0,none⟩),.pointer (some ⟨E.mb,0,none⟩)] w fun r w'=>r= .returned (.tuple #[])∧SM E ws c s (b.forms m) m w':=by
 have H:=Lib.hid h
 have hv:=BuD.forms.eq_1 b m
 have HV:=Lib.hid hv
 clear h hv
 go_enter Tryz.func169,Tryz.ntmps169
 go_wp2_with (go_at_call 115;go_must (refine(restore_sm H.out hc).mono ?_;rintro e w1 ⟨rfl,h1⟩;replace H:=Lib.hid h1;clear h1))
 generalize b.restore=br at *
 obtain⟨-,c1,c2, -⟩:=H.out.sx.mc
 have HI:=Lib.hid (insertm_sm H.out.drew m.name H.out.sx.mo.nlen rfl)
 have HN:=Lib.hid (H.out.ok.insN m.name m.attrs)
 generalize br.insN m.name m.attrs=x at *
 generalize br.ins m.name m.attrs=bi at *
 go_region_law (first
  |(go_simp;go_at_call 110;refine HI.out.mono ?_
    rintro e w2 ⟨rfl,h2⟩
    obtain⟨-, -,d2, -⟩:=h2.sx.bc
    have H2:=Lib.hid h2
    clear h2))
 all_goals
  try simp only[Act.put,List.getElem_toArray,List.getElem_cons_succ,List.getElem_cons_zero,List.setIfInBounds_toArray,List.set_cons_zero,List.set_cons_succ]
  by_cases hx:x=0
  ·subst hx
   go_wp2_with fail
   go_end0
   rw[HV.out,if_pos trivial]
   exact⟨rfl,H2.out.more (Nat.le_refl _) (by omega)⟩
  ·have hx':(x !=0)=true:=by simpa using hx
   have hn:=HN.out.resolve_left hx
   rw[if_neg hx]at HV
   clear hx
   go_wp2_with (go_at_call 210;go_must (refine(lpush_sm H2.out hc hn.1 hn.2.1).mono ?_;rintro e w3 ⟨rfl,h3⟩;have H3:=Lib.hid h3;clear h3))
   go_end0
   rw[HV.out]
   exact⟨rfl,H3.out.more (Nat.le_refl _) (by omega)⟩
theorem verbatim_sm (h:SM E ws c s b m w) (hc:c≤100000):Calls Tryz.prog 171 #[.pointer (some ⟨E.bb,0,none⟩),.pointer (some ⟨E.mb,0,none⟩)] w fun r w'=>r= .returned (.tuple #[])∧SM E ws c s (b.verbatim m) m w':=by
 have H:=Lib.hid h
 obtain⟨-,c1, -, -, -⟩:=H.out.sx.mc
 obtain⟨-, -, -, -, -, -, -,d7, -, -, -⟩:=H.out.sx.bc
 have f7:=H.out.sx.bf 7 (by omega)
 have hne: ¬E.mb=E.bb:=fun e=>H.out.sx.mo.ne e.symm
 have hne2: ¬E.bb=E.mb:=H.out.sx.mo.ne
 clear h
 have hsp:((m.name.toList==([116,101,120,116,97,114,101,97]:List UInt8))=true∧(m.name.toList==([120,109,112]:List UInt8))=false)∨((m.name.toList==([116,101,120,116,97,114,101,97]:List UInt8))=false∧(m.name.toList==([120,109,112]:List UInt8))=true)∨((m.name.toList==([116,101,120,116,97,114,101,97]:List UInt8))=false∧(m.name.toList==([120,109,112]:List UInt8))=false):=by
  by_cases q0:m.name.toList=([116,101,120,116,97,114,101,97]:List UInt8)
  ·refine .inl ?_;rw[q0];decide
  by_cases q1:m.name.toList=([120,109,112]:List UInt8)
  ·refine .inr ?_;refine .inl ?_;rw[q1];decide
  refine .inr ?_;refine .inr ?_;exact⟨beq_eq_false_iff_ne.2 q0,beq_eq_false_iff_ne.2 q1⟩
 rcases hsp with⟨p0,p1⟩|⟨p0,p1⟩|⟨p0,p1⟩
 all_goals
  go_enter Tryz.func171,Tryz.ntmps171
  go_wp2_with ((first
   |(go_at_call 159;go_must (refine' (raws_sm ?h _).mono ?_))
   |(go_at_call 173;go_must (refine' (paragraph_sm ?h).mono ?_))
   |(go_at_call 115;go_must (refine' (restore_sm ?h ?_).mono ?_)));go_must ((case h=>with_reducible first|exact H.out|exact H.out.text _ (by assumption)|exact(H.out.text _ (by assumption)).mode _|exact H.out.mode _|exact H.out.head _|exact H.out.skip _|exact H.out.wait _|exact(H.out.mode _).back _|exact H.out.mname _ (by decide));any_goals first|(rintro e w1 ⟨rfl,h1⟩;(try simp only[namesOf_mk,strOf,List.map_cons,List.map_nil,BuD.ends]at h1);clear c1 d7 f7;replace H:=Lib.hid h1;clear h1;obtain⟨-,c1, -, -, -⟩:=H.out.sx.mc;obtain⟨-, -, -, -, -, -, -,d7, -, -, -⟩:=H.out.sx.bc;have f7:=H.out.sx.bf 7 (by omega))|exact⟨by first|with_reducible rfl|simp[World.setCell],by rfl,by rfl,by first|decide|simp[namesOf]⟩|omega|fail))
  all_goals try (
   (first|go_end0|refine bodyPost_ret (results_none rfl _ _ _) rfl ?_)
   have hv:=BuD.verbatim.eq_1 b m
   simp only[*,bools,if_true,if_false,reduceIte,beq_self_eq_true,Int.reduceBEq]at hv
   rw[hv]
   refine⟨by first|rfl|(rw[ht];rfl),?_⟩
   exact SM.more (by first|(with_reducible first|exact H.out|exact H.out.mode _|exact H.out.skip _|exact H.out.head _|exact(H.out.mode _).back _|exact(H.out.wait _)|exact H.out.drew.wait _|exact(H.out.wait _).drew|exact H.out.text _ (by assumption)|exact(H.out.text _ (by assumption)).mode _|exact(H.out.mode _).head _|exact(H.out.head _))|exact H.out|exact H.out.mode _|exact H.out.skip _) (by omega) (by omega))
theorem phrases_sm (h:SM E ws c s b m w) (hc:c≤100000):Calls Tryz.prog 172 #[.pointer (some ⟨E.bb,0,none⟩),.pointer (some ⟨E.mb,0,none⟩)] w fun r w'=>r= .returned (.tuple #[])∧SM E ws (c+1) s (b.phrases m) m w':=by
 have H:=Lib.hid h
 obtain⟨-,c1,c2, -, -⟩:=H.out.sx.mc
 obtain⟨-,d1,d2, -, -, -, -, -, -, -, -⟩:=H.out.sx.bc
 have hne: ¬E.mb=E.bb:=fun e=>H.out.sx.mo.ne e.symm
 have hne2: ¬E.bb=E.mb:=H.out.sx.mo.ne
 clear h
 have hsp:((m.name.toList==([98,117,116,116,111,110]:List UInt8))=true∧(m.name.toList==([111,112,116,105,111,110]:List UInt8))=false∧(m.name.toList==([111,112,116,103,114,111,117,112]:List UInt8))=false)∨((m.name.toList==([98,117,116,116,111,110]:List UInt8))=false∧(m.name.toList==([111,112,116,105,111,110]:List UInt8))=true∧(m.name.toList==([111,112,116,103,114,111,117,112]:List UInt8))=false)∨((m.name.toList==([98,117,116,116,111,110]:List UInt8))=false∧(m.name.toList==([111,112,116,105,111,110]:List UInt8))=false∧(m.name.toList==([111,112,116,103,114,111,117,112]:List UInt8))=true)∨((m.name.toList==([98,117,116,116,111,110]:List UInt8))=false∧(m.name.toList==([111,112,116,105,111,110]:List UInt8))=false∧(m.name.toList==([111,112,116,103,114,111,117,112]:List UInt8))=false):=by
  by_cases q0:m.name.toList=([98,117,116,116,111,110]:List UInt8)
  ·refine .inl ?_;rw[q0];decide
  by_cases q1:m.name.toList=([111,112,116,105,111,110]:List UInt8)
  ·refine .inr ?_;refine .inl ?_;rw[q1];decide
  by_cases q2:m.name.toList=([111,112,116,103,114,111,117,112]:List UInt8)
  ·refine .inr ?_;refine .inr ?_;refine .inl ?_;rw[q2];decide
  refine .inr ?_;refine .inr ?_;refine .inr ?_;exact⟨beq_eq_false_iff_ne.2 q0,beq_eq_false_iff_ne.2 q1,beq_eq_false_iff_ne.2 q2⟩
 rcases hsp with⟨p0,p1,p2⟩|⟨p0,p1,p2⟩|⟨p0,p1,p2⟩|⟨p0,p1,p2⟩
 all_goals
  go_enter Tryz.func172,Tryz.ntmps172
  go_wp2_with ((first
   |(go_at_call 121;go_must (refine' tB (has_sm ?h ?_) ?_))
   |(go_at_call 125;go_must (refine' (imply_sm ?h _).mono ?_))
   |(go_at_call 122;go_must (refine' (until_sm ?h ?_).mono ?_))
   |(go_at_call 118;go_must (refine' tB (at_sm ?h ?_) ?_))
   |(go_at_call 64;go_must (refine' (pop_sm ?h).mono ?_))
   |(go_at_call 115;go_must (refine' (restore_sm ?h ?_).mono ?_)));go_must ((case h=>with_reducible first|exact H.out|exact H.out.text _ (by assumption)|exact(H.out.text _ (by assumption)).mode _|exact H.out.mode _|exact H.out.head _|exact H.out.skip _|exact H.out.wait _|exact(H.out.mode _).back _|exact H.out.mname _ (by decide));any_goals first|(rintro e w1 ⟨rfl,h1⟩;(try simp only[namesOf_mk,strOf,List.map_cons,List.map_nil,BuD.ends]at h1);clear c1 c2 d1 d2;replace H:=Lib.hid h1;clear h1;obtain⟨-,c1,c2, -, -⟩:=H.out.sx.mc;obtain⟨-,d1,d2, -, -, -, -, -, -, -, -⟩:=H.out.sx.bc)|(intro t ht w1 h1;(try simp only[namesOf_mk,strOf,List.map_cons,List.map_nil,BuD.ends]at ht h1);cases t <;>((try simp only[ht,reduceIte,Bool.false_eq_true]at h1);clear c1 c2 d1 d2;replace H:=Lib.hid h1;clear h1;obtain⟨-,c1,c2, -, -⟩:=H.out.sx.mc;obtain⟨-,d1,d2, -, -, -, -, -, -, -, -⟩:=H.out.sx.bc))|exact⟨by first|with_reducible rfl|simp[World.setCell],by rfl,by rfl,by first|decide|simp[namesOf]⟩|omega|fail))
  all_goals try (
   (first|go_end0|refine bodyPost_ret (results_none rfl _ _ _) rfl ?_)
   have hv:=BuD.phrases.eq_1 b m
   simp only[*,bools,if_true,if_false,reduceIte,beq_self_eq_true,Int.reduceBEq]at hv
   rw[hv]
   refine⟨by first|rfl|(rw[ht];rfl),?_⟩
   exact SM.more (by first|(with_reducible first|exact H.out|exact H.out.mode _|exact H.out.skip _|exact H.out.head _|exact(H.out.mode _).back _|exact(H.out.wait _)|exact H.out.drew.wait _|exact(H.out.wait _).drew|exact H.out.text _ (by assumption)|exact(H.out.text _ (by assumption)).mode _|exact(H.out.mode _).head _|exact(H.out.head _))|exact H.out|exact H.out.mode _|exact H.out.skip _) (by omega) (by omega))
  all_goals
   have HI:=Lib.hid (insertm_sm H.out.drew m.name H.out.sx.mo.nlen rfl)
   go_region_law (first
    |(go_simp;go_at_call 110;refine HI.out.mono ?_
      rintro e w2 ⟨rfl,h1⟩
      (clear c1 c2 d1 d2;replace H:=Lib.hid h1;clear h1;obtain⟨-,c1,c2, -, -⟩:=H.out.sx.mc;obtain⟨-,d1,d2, -, -, -, -, -, -, -, -⟩:=H.out.sx.bc)))
   all_goals
    clear HI
    try simp only[Act.put,List.getElem_toArray,List.getElem_cons_succ,List.getElem_cons_zero,List.setIfInBounds_toArray,List.set_cons_zero,List.set_cons_succ]
    go_wp2_with ((first
   |(go_at_call 158;go_must (refine' tB (one_sm ?h ?_) ?_))
   |(go_at_call 120;go_must (refine' (lmark_sm ?h ?_).mono ?_)));go_must ((case h=>with_reducible first|exact H.out|exact H.out.text _ (by assumption)|exact(H.out.text _ (by assumption)).mode _|exact H.out.mode _|exact H.out.head _|exact H.out.skip _|exact H.out.wait _|exact(H.out.mode _).back _|exact H.out.mname _ (by decide));any_goals first|(rintro e w1 ⟨rfl,h1⟩;(try simp only[namesOf_mk,strOf,List.map_cons,List.map_nil,BuD.ends]at h1);clear c1 c2 d1 d2;replace H:=Lib.hid h1;clear h1;obtain⟨-,c1,c2, -, -⟩:=H.out.sx.mc;obtain⟨-,d1,d2, -, -, -, -, -, -, -, -⟩:=H.out.sx.bc)|(intro t ht w1 h1;(try simp only[namesOf_mk,strOf,List.map_cons,List.map_nil,BuD.ends]at ht h1);cases t <;>((try simp only[ht,reduceIte,Bool.false_eq_true]at h1);clear c1 c2 d1 d2;replace H:=Lib.hid h1;clear h1;obtain⟨-,c1,c2, -, -⟩:=H.out.sx.mc;obtain⟨-,d1,d2, -, -, -, -, -, -, -, -⟩:=H.out.sx.bc))|exact⟨by first|with_reducible rfl|simp[World.setCell],by rfl,by rfl,by first|decide|simp[namesOf]⟩|omega|fail))
   all_goals
    (first|go_end0|refine bodyPost_ret (results_none rfl _ _ _) rfl ?_)
    have hv:=BuD.phrases.eq_1 b m
    simp only[*,bools,if_true,if_false,reduceIte,beq_self_eq_true,Int.reduceBEq]at hv
    rw[hv]
    refine⟨by first|rfl|(rw[ht];rfl),?_⟩
    exact SM.more (by first|(with_reducible first|exact H.out|exact H.out.mode _|exact H.out.skip _|exact H.out.head _|exact(H.out.mode _).back _|exact(H.out.wait _)|exact H.out.drew.wait _|exact(H.out.wait _).drew|exact H.out.text _ (by assumption)|exact(H.out.text _ (by assumption)).mode _|exact(H.out.mode _).head _|exact(H.out.head _))|exact H.out|exact H.out.mode _|exact H.out.skip _) (by omega) (by omega)
end
end
section
section
variable {E:BE} {ws w w':World} {c:Nat} {s:Int} {b b':BuD} {m m':BMark}
theorem blocks_sm (h:SM E ws c s b m w) (hc:c≤100000):Calls Tryz.prog 165 #[.pointer (some ⟨E.bb,0,none⟩),.pointer (some ⟨E.mb,0,none⟩)] w fun r w'=>r= .returned (.tuple #[])∧SM E ws c s (b.blocks m) m w':=by
 have H:=Lib.hid h
 obtain⟨-,c1,c2, -, -⟩:=H.out.sx.mc
 obtain⟨-,d1, -,d3, -, -, -,d7, -, -, -⟩:=H.out.sx.bc
 have f3:=H.out.sx.bf 3 (by omega)
 have f7:=H.out.sx.bf 7 (by omega)
 have hne: ¬E.mb=E.bb:=fun e=>H.out.sx.mo.ne e.symm
 have hne2: ¬E.bb=E.mb:=H.out.sx.mo.ne
 clear h
 have hsp:((m.name.toList==([108,105]:List UInt8))=true∧(m.name.toList==([100,100]:List UInt8))=false∧(m.name.toList==([100,116]:List UInt8))=false∧(m.name.toList==([104,114]:List UInt8))=false∧(m.name.toList==([112,114,101]:List UInt8))=false∧(m.name.toList==([108,105,115,116,105,110,103]:List UInt8))=false∧(m.name.toList==([116,97,98,108,101]:List UInt8))=false)∨((m.name.toList==([108,105]:List UInt8))=false∧(m.name.toList==([100,100]:List UInt8))=true∧(m.name.toList==([100,116]:List UInt8))=false∧(m.name.toList==([104,114]:List UInt8))=false∧(m.name.toList==([112,114,101]:List UInt8))=false∧(m.name.toList==([108,105,115,116,105,110,103]:List UInt8))=false∧(m.name.toList==([116,97,98,108,101]:List UInt8))=false)∨((m.name.toList==([108,105]:List UInt8))=false∧(m.name.toList==([100,100]:List UInt8))=false∧(m.name.toList==([100,116]:List UInt8))=true∧(m.name.toList==([104,114]:List UInt8))=false∧(m.name.toList==([112,114,101]:List UInt8))=false∧(m.name.toList==([108,105,115,116,105,110,103]:List UInt8))=false∧(m.name.toList==([116,97,98,108,101]:List UInt8))=false)∨((m.name.toList==([108,105]:List UInt8))=false∧(m.name.toList==([100,100]:List UInt8))=false∧(m.name.toList==([100,116]:List UInt8))=false∧(m.name.toList==([104,114]:List UInt8))=true∧(m.name.toList==([112,114,101]:List UInt8))=false∧(m.name.toList==([108,105,115,116,105,110,103]:List UInt8))=false∧(m.name.toList==([116,97,98,108,101]:List UInt8))=false)∨((m.name.toList==([108,105]:List UInt8))=false∧(m.name.toList==([100,100]:List UInt8))=false∧(m.name.toList==([100,116]:List UInt8))=false∧(m.name.toList==([104,114]:List UInt8))=false∧(m.name.toList==([112,114,101]:List UInt8))=true∧(m.name.toList==([108,105,115,116,105,110,103]:List UInt8))=false∧(m.name.toList==([116,97,98,108,101]:List UInt8))=false)∨((m.name.toList==([108,105]:List UInt8))=false∧(m.name.toList==([100,100]:List UInt8))=false∧(m.name.toList==([100,116]:List UInt8))=false∧(m.name.toList==([104,114]:List UInt8))=false∧(m.name.toList==([112,114,101]:List UInt8))=false∧(m.name.toList==([108,105,115,116,105,110,103]:List UInt8))=true∧(m.name.toList==([116,97,98,108,101]:List UInt8))=false)∨((m.name.toList==([108,105]:List UInt8))=false∧(m.name.toList==([100,100]:List UInt8))=false∧(m.name.toList==([100,116]:List UInt8))=false∧(m.name.toList==([104,114]:List UInt8))=false∧(m.name.toList==([112,114,101]:List UInt8))=false∧(m.name.toList==([108,105,115,116,105,110,103]:List UInt8))=false∧(m.name.toList==([116,97,98,108,101]:List UInt8))=true)∨((m.name.toList==([108,105]:List UInt8))=false∧(m.name.toList==([100,100]:List UInt8))=false∧(m.name.toList==([100,116]:List UInt8))=false∧(m.name.toList==([104,114]:List UInt8))=false∧(m.name.toList==([112,114,101]:List UInt8))=false∧(m.name.toList==([108,105,115,116,105,110,103]:List UInt8))=false∧(m.name.toList==([116,97,98,108,101]:List UInt8))=false):=by
  by_cases q0:m.name.toList=([108,105]:List UInt8)
  ·refine .inl ?_;rw[q0];decide
  by_cases q1:m.name.toList=([100,100]:List UInt8)
  ·refine .inr ?_;refine .inl ?_;rw[q1];decide
  by_cases q2:m.name.toList=([100,116]:List UInt8)
  ·refine .inr ?_;refine .inr ?_;refine .inl ?_;rw[q2];decide
  by_cases q3:m.name.toList=([104,114]:List UInt8)
  ·refine .inr ?_;refine .inr ?_;refine .inr ?_;refine .inl ?_;rw[q3];decide
  by_cases q4:m.name.toList=([112,114,101]:List UInt8)
  ·refine .inr ?_;refine .inr ?_;refine .inr ?_;refine .inr ?_;refine .inl ?_;rw[q4];decide
  by_cases q5:m.name.toList=([108,105,115,116,105,110,103]:List UInt8)
  ·refine .inr ?_;refine .inr ?_;refine .inr ?_;refine .inr ?_;refine .inr ?_;refine .inl ?_;rw[q5];decide
  by_cases q6:m.name.toList=([116,97,98,108,101]:List UInt8)
  ·refine .inr ?_;refine .inr ?_;refine .inr ?_;refine .inr ?_;refine .inr ?_;refine .inr ?_;refine .inl ?_;rw[q6];decide
  refine .inr ?_;refine .inr ?_;refine .inr ?_;refine .inr ?_;refine .inr ?_;refine .inr ?_;refine .inr ?_;exact⟨beq_eq_false_iff_ne.2 q0,beq_eq_false_iff_ne.2 q1,beq_eq_false_iff_ne.2 q2,beq_eq_false_iff_ne.2 q3,beq_eq_false_iff_ne.2 q4,beq_eq_false_iff_ne.2 q5,beq_eq_false_iff_ne.2 q6⟩
 rcases hsp with⟨p0,p1,p2,p3,p4,p5,p6⟩|⟨p0,p1,p2,p3,p4,p5,p6⟩|⟨p0,p1,p2,p3,p4,p5,p6⟩|⟨p0,p1,p2,p3,p4,p5,p6⟩|⟨p0,p1,p2,p3,p4,p5,p6⟩|⟨p0,p1,p2,p3,p4,p5,p6⟩|⟨p0,p1,p2,p3,p4,p5,p6⟩|⟨p0,p1,p2,p3,p4,p5,p6⟩
 all_goals
  go_enter Tryz.func165,Tryz.ntmps165
  go_wp2_with ((first
   |(go_at_call 206;go_must (refine' (item_sm ?h ?_).mono ?_))
   |(go_at_call 173;go_must (refine' (paragraph_sm ?h).mono ?_))
   |(go_at_call 164;go_must (refine' tB (heading_sm ?h _) ?_))
   |(go_at_call 118;go_must (refine' tB (at_sm ?h ?_) ?_))
   |(go_at_call 64;go_must (refine' (pop_sm ?h).mono ?_))
   |(go_at_call 127;go_must (first|with_reducible refine' (single0_sm ?h _ ?n).mono ?_|with_reducible refine' (singlem_sm ?h _ ?n ?r).mono ?_)));go_must ((case h=>with_reducible first|exact H.out|exact H.out.text _ (by assumption)|exact(H.out.text _ (by assumption)).mode _|exact H.out.mode _|exact H.out.head _|exact H.out.skip _|exact H.out.wait _|exact(H.out.mode _).back _|exact H.out.mname _ (by decide));(try case n=>first|decide|exact H.out.sx.mo.nlen);(try case r=>rfl);any_goals first|(rintro e w1 ⟨rfl,h1⟩;(try simp only[namesOf_mk,strOf,List.map_cons,List.map_nil,BuD.ends]at h1);clear c1 c2 d1 d3 f3 d7 f7;replace H:=Lib.hid h1;clear h1;obtain⟨-,c1,c2, -, -⟩:=H.out.sx.mc;obtain⟨-,d1, -,d3, -, -, -,d7, -, -, -⟩:=H.out.sx.bc;have f3:=H.out.sx.bf 3 (by omega);have f7:=H.out.sx.bf 7 (by omega))|(intro t ht w1 h1;(try simp only[namesOf_mk,strOf,List.map_cons,List.map_nil,BuD.ends]at ht h1);cases t <;>((try simp only[ht,reduceIte,Bool.false_eq_true]at h1);clear c1 c2 d1 d3 f3 d7 f7;replace H:=Lib.hid h1;clear h1;obtain⟨-,c1,c2, -, -⟩:=H.out.sx.mc;obtain⟨-,d1, -,d3, -, -, -,d7, -, -, -⟩:=H.out.sx.bc;have f3:=H.out.sx.bf 3 (by omega);have f7:=H.out.sx.bf 7 (by omega)))|exact⟨by first|with_reducible rfl|simp[World.setCell],by rfl,by rfl,by first|decide|simp[namesOf]⟩|omega|fail))
  all_goals try (
   (first|go_end0|refine bodyPost_ret (results_none rfl _ _ _) rfl ?_)
   have hv:=BuD.blocks.eq_1 b m
   simp only[*,headN,bools,if_true,if_false,reduceIte,beq_self_eq_true,Int.reduceBEq]at hv
   rw[hv]
   refine⟨by first|rfl|(rw[ht];rfl),?_⟩
   exact SM.more (by first|(with_reducible first|exact H.out|exact H.out.mode _|exact H.out.skip _|exact H.out.head _|exact(H.out.mode _).back _|exact(H.out.wait _)|exact H.out.drew.wait _|exact(H.out.wait _).drew|exact H.out.text _ (by assumption)|exact(H.out.text _ (by assumption)).mode _|exact(H.out.mode _).head _|exact(H.out.head _))|exact H.out|exact H.out.mode _|exact H.out.skip _) (by omega) (by omega))
  all_goals
   have HI:=Lib.hid (insertm_sm H.out.drew m.name H.out.sx.mo.nlen rfl)
   go_region_law (first
    |(go_simp;go_at_call 110;refine HI.out.mono ?_
      rintro e w2 ⟨rfl,h1⟩
      (clear c1 c2 d1 d3 f3 d7 f7;replace H:=Lib.hid h1;clear h1;obtain⟨-,c1,c2, -, -⟩:=H.out.sx.mc;obtain⟨-,d1, -,d3, -, -, -,d7, -, -, -⟩:=H.out.sx.bc;have f3:=H.out.sx.bf 3 (by omega);have f7:=H.out.sx.bf 7 (by omega))))
   all_goals
    clear HI
    try simp only[Act.put,List.getElem_toArray,List.getElem_cons_succ,List.getElem_cons_zero,List.setIfInBounds_toArray,List.set_cons_zero,List.set_cons_succ]
    go_wp2_with fail
   all_goals
    (first|go_end0|refine bodyPost_ret (results_none rfl _ _ _) rfl ?_)
    have hv:=BuD.blocks.eq_1 b m
    simp only[*,headN,bools,if_true,if_false,reduceIte,beq_self_eq_true,Int.reduceBEq]at hv
    rw[hv]
    refine⟨by first|rfl|(rw[ht];rfl),?_⟩
    exact SM.more (by first|(with_reducible first|exact H.out|exact H.out.mode _|exact H.out.skip _|exact H.out.head _|exact(H.out.mode _).back _|exact(H.out.wait _)|exact H.out.drew.wait _|exact(H.out.wait _).drew|exact H.out.text _ (by assumption)|exact(H.out.text _ (by assumption)).mode _|exact(H.out.mode _).head _|exact(H.out.head _))|exact H.out|exact H.out.mode _|exact H.out.skip _) (by omega) (by omega)
end
end
end Go.Proofs.YtgepobccoffnaaaGreatDoor
