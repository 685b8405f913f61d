/- Texts joined for a claim: CuTf, CuU, CuV, ForE: plain laws and contracts. No conditions beyond those that each lemma types. -/
import Derived.Test.YtgepobccoffnaaaGreatDoorT23
import Derived.Test.YtgepobccoffnaaaGreatDoorT24
import Derived.Test.YtgepobccoffnaaaGreatDoorT22
import Derived.Test.YtgepobccoffnaaaGreatDoorT17
set_option linter.unusedVariables false
set_option linter.unusedSimpArgs false
set_option maxRecDepth 100000
set_option maxHeartbeats 8000000
namespace Go.Proofs.YtgepobccoffnaaaGreatDoor
open Go.RowKit Mem
section
section
variable {E:BE} {ws w w':World} {c:Nat} {s:Int} {b b':BuD} {m m':BMark}
theorem startF_text (h:m.kind=1) (L:List ByteArray):startF m L=false:=by unfold startF;rw[h];rfl
theorem endF_text (h:m.kind=1) (L:List ByteArray):endF m L=false:=by unfold endF;rw[h];rfl
theorem inAfter_sm (h:SM E ws c s b m w) (hc:c≤100000) (hu:b.used+m.text.size≤9223372036854775807):Calls Tryz.prog 79 #[.pointer (some ⟨E.bb,0,none⟩),.pointer (some ⟨E.mb,0,none⟩)] w fun r w'=>r= .returned (.bool (b.inAfter m).2.2)∧SM E ws (c+1) s (b.inAfter m).1 (b.inAfter m).2.1 w':=by
 have H:=Lib.hid h
 obtain⟨c0, -, -, -,c4⟩:=H.out.sx.mc
 obtain⟨-, -, -,d3, -, -, -, -, -, -, -⟩:=H.out.sx.bc
 have f3:=H.out.sx.bf 3 (by omega)
 have q4:=H.out.sx.mf.2
 have hne: ¬E.mb=E.bb:=fun e=>H.out.sx.mo.ne e.symm
 have hne2: ¬E.bb=E.mb:=H.out.sx.mo.ne
 clear h
 go_enter Tryz.func79,Tryz.ntmps79
 go_wp2_with (first
  |((first
   |(go_at_call 109;go_must (refine' tB (start_sm ?h ?_) ?_))
   |(go_at_call 108;go_must (refine' tB (end_sm ?h ?_) ?_)));go_must ((case h=>with_reducible first|exact H.out|exact H.out.text _ (by assumption)|exact(H.out.text _ (by assumption)).mode _|exact H.out.mode _|exact H.out.head _|exact H.out.skip _|exact H.out.wait _|exact(H.out.mode _).back _|exact H.out.mname _ (by decide));any_goals first|(intro t ht w1 h1;(try simp only[namesOf_mk,strOf,List.map_cons,List.map_nil,BuD.ends]at ht h1);cases t <;>((try simp only[ht,reduceIte,Bool.false_eq_true]at h1);clear c0 c4 d3 f3 q4;replace H:=Lib.hid h1;clear h1;obtain⟨c0, -, -, -,c4⟩:=H.out.sx.mc;obtain⟨-, -, -,d3, -, -, -, -, -, -, -⟩:=H.out.sx.bc;have f3:=H.out.sx.bf 3 (by omega);have q4:=H.out.sx.mf.2))|exact⟨by first|with_reducible rfl|simp[World.setCell],by rfl,by rfl,by first|decide|simp[namesOf]⟩|omega|fail))
  |(go_at_call 107;go_must (refine(spaces_any _ _ H.out.sx.mo.tlen).mono ?_;rintro e w1 ⟨rfl,hb⟩;have h1:=H.out.world hb;clear hb;have hz:=spaces_size m.text;generalize hr:restF m.text=rr at hz ⊢;generalize ha:aheadF m.text=aa at hz ⊢;have hz2:rr.size≤m.text.size:=hz▸Nat.le_add_left _ _;have hz3:aa.size≤m.text.size:=hz▸Nat.le_add_right _ _;have htl:=H.out.sx.mo.tlen;clear c0 c4 d3 f3 q4;replace H:=Lib.hid h1;clear h1;obtain⟨c0, -, -, -,c4⟩:=H.out.sx.mc;obtain⟨-, -, -,d3, -, -, -, -, -, -, -⟩:=H.out.sx.bc;have f3:=H.out.sx.bf 3 (by omega);have q4:=H.out.sx.mf.2))
  |(go_at_call 71;go_must (refine(inBody_sm (H.out.other 1 aa (Nat.le_trans hz3 htl)) hc (Nat.le_trans (Nat.add_le_add_left hz3 _) hu)).mono ?_;rintro e w1 ⟨rfl,h2⟩;have h1:=H.out.back2 h2;clear h2;clear c0 c4 d3 f3 q4;replace H:=Lib.hid h1;clear h1;obtain⟨c0, -, -, -,c4⟩:=H.out.sx.mc;obtain⟨-, -, -,d3, -, -, -, -, -, -, -⟩:=H.out.sx.bc;have f3:=H.out.sx.bf 3 (by omega);have q4:=H.out.sx.mf.2)))
 all_goals try (exfalso;have q:=eq_of_beq (by assumption:(m.kind==1)=true);omega)
 all_goals try (exfalso;have q:=eq_of_beq (by assumption:(m.kind==2)=true);omega)
 all_goals try (exfalso;have q:=eq_of_beq (by assumption:(m.kind==3)=true);omega)
 all_goals try (exfalso;have q:=eq_of_beq (by assumption:(m.kind==6)=true);omega)
 all_goals
  try have e01:(m.kind==1)=true:=beq_iff_eq.2 (by assumption)
  try have e01:(m.kind==1)=false:=beq_eq_false_iff_ne.2 (by assumption)
  try have e02:(m.kind==2)=true:=beq_iff_eq.2 (by assumption)
  try have e02:(m.kind==2)=false:=beq_eq_false_iff_ne.2 (by assumption)
  try have e03:(m.kind==3)=true:=beq_iff_eq.2 (by assumption)
  try have e03:(m.kind==3)=false:=beq_eq_false_iff_ne.2 (by assumption)
  try have e06:(m.kind==6)=true:=beq_iff_eq.2 (by assumption)
  try have e06:(m.kind==6)=false:=beq_eq_false_iff_ne.2 (by assumption)
  (first|go_ret|refine bodyPost_ret (results_none rfl _ _ _) rfl ?_)
  have hv:=BuD.inAfter.eq_1 b m
  simp only[*,BuD.blankM,BuD.blankT,bools,if_true,if_false,reduceIte,beq_self_eq_true,Int.reduceBEq]at hv
  try (
   have q1:m.kind=1:=eq_of_beq (by assumption)
   rw[startF_text (m:=⟨m.kind,m.name,m.attrs,m.self,rr⟩) q1,endF_text (m:=⟨m.kind,m.name,m.attrs,m.self,rr⟩) q1,show(m.kind==6)=false from by rw[q1];rfl]at hv
   simp only[Bool.or_self,Bool.false_eq_true,if_false]at hv)
  rw[hv]
  refine⟨by first|rfl|(rw[ht];rfl),?_⟩
  exact SM.more (by first|(with_reducible first|exact H.out|exact H.out.mode _|exact H.out.skip _|exact H.out.head _|exact(H.out.mode _).back _|exact(H.out.wait _)|exact H.out.drew.wait _|exact(H.out.wait _).drew|exact H.out.text _ (by assumption)|exact(H.out.text _ (by assumption)).mode _|exact(H.out.mode _).head _|exact(H.out.head _))|exact H.out|exact H.out.mode _|exact H.out.skip _) (by omega) (by omega)
end
end
section
section
variable {E:BE} {ws w w':World} {c:Nat} {s:Int} {b b':BuD} {m m':BMark}
theorem rules_sm (h:SM E ws c s b m w) (hc:c≤100000) (hu:b.used+m.text.size≤9223372036854775807) (hw:b.wait.size+m.text.size≤9223372036854775807):Calls Tryz.prog 47 #[.pointer (some ⟨E.bb,0,none⟩),.pointer (some ⟨E.mb,0,none⟩)] w fun r w'=>r= .returned (.bool (b.rules m).2.2)∧SM E ws (c+1) s (b.rules m).1 (b.rules m).2.1 w':=by
 have H:=Lib.hid h
 obtain⟨-, -, -,d3, -⟩:=H.out.sx.bc
 have hv:=BuD.rules.eq_1 b m
 clear h
 obtain⟨k,hk⟩: ∃k,k=b.mode:=⟨_,rfl⟩
 rw[←hk]at d3 hv
 clear hk
 by_cases k0:k=0
 ·subst k0
  simp only[Int.reduceEq,if_true,if_false]at hv
  have HV:=Lib.hid hv
  clear hv
  go_enter Tryz.func47,Tryz.ntmps47
  go_wp2_with (go_at_call 67;go_must (refine(inStart_sm H.out).mono ?_;rintro e w1 ⟨rfl,h1⟩;have H1:=Lib.hid h1;clear h1))
  first|go_ret|refine bodyPost_ret (results_none rfl _ _ _) rfl ?_
  rw[HV.out]
  exact⟨rfl,H1.out⟩
 ·skip
  by_cases k1:k=1
  ·subst k1
   simp only[Int.reduceEq,if_true,if_false]at hv
   have HV:=Lib.hid hv
   clear hv
   go_enter Tryz.func47,Tryz.ntmps47
   go_wp2_with (go_at_call 68;go_must (refine(inAhead_sm H.out).mono ?_;rintro e w1 ⟨rfl,h1⟩;have H1:=Lib.hid h1;clear h1))
   first|go_ret|refine bodyPost_ret (results_none rfl _ _ _) rfl ?_
   rw[HV.out]
   exact⟨rfl,H1.out⟩
  ·skip
   by_cases k2:k=2
   ·subst k2
    simp only[Int.reduceEq,if_true,if_false]at hv
    have HV:=Lib.hid hv
    clear hv
    go_enter Tryz.func47,Tryz.ntmps47
    go_wp2_with (go_at_call 69;go_must (refine(inHead_sm H.out hu).mono ?_;rintro e w1 ⟨rfl,h1⟩;have H1:=Lib.hid h1;clear h1))
    first|go_ret|refine bodyPost_ret (results_none rfl _ _ _) rfl ?_
    rw[HV.out]
    exact⟨rfl,H1.out⟩
   ·skip
    by_cases k3:k=3
    ·subst k3
     simp only[Int.reduceEq,if_true,if_false]at hv
     have HV:=Lib.hid hv
     clear hv
     go_enter Tryz.func47,Tryz.ntmps47
     go_wp2_with (go_at_call 70;go_must (refine(inBehind_sm H.out hu).mono ?_;rintro e w1 ⟨rfl,h1⟩;have H1:=Lib.hid h1;clear h1))
     first|go_ret|refine bodyPost_ret (results_none rfl _ _ _) rfl ?_
     rw[HV.out]
     exact⟨rfl,H1.out⟩
    ·skip
     by_cases k4:k=4
     ·subst k4
      simp only[Int.reduceEq,if_true,if_false]at hv
      have HV:=Lib.hid hv
      clear hv
      go_enter Tryz.func47,Tryz.ntmps47
      go_wp2_with (go_at_call 71;go_must (refine(inBody_sm H.out hc hu).mono ?_;rintro e w1 ⟨rfl,h1⟩;have H1:=Lib.hid h1;clear h1))
      first|go_ret|refine bodyPost_ret (results_none rfl _ _ _) rfl ?_
      rw[HV.out]
      exact⟨rfl,H1.out⟩
     ·skip
      by_cases k5:k=5
      ·subst k5
       simp only[Int.reduceEq,if_true,if_false]at hv
       have HV:=Lib.hid hv
       clear hv
       go_enter Tryz.func47,Tryz.ntmps47
       go_wp2_with (go_at_call 72;go_must (refine(inText_sm H.out hu).mono ?_;rintro e w1 ⟨rfl,h1⟩;have H1:=Lib.hid h1;clear h1))
       first|go_ret|refine bodyPost_ret (results_none rfl _ _ _) rfl ?_
       rw[HV.out]
       exact⟨rfl,H1.out⟩
      ·skip
       by_cases k6:k=6
       ·subst k6
        simp only[Int.reduceEq,if_true,if_false]at hv
        have HV:=Lib.hid hv
        clear hv
        go_enter Tryz.func47,Tryz.ntmps47
        go_wp2_with (go_at_call 73;go_must (refine(inTable_sm H.out hc hu hw).mono ?_;rintro e w1 ⟨rfl,h1⟩;have H1:=Lib.hid h1;clear h1))
        first|go_ret|refine bodyPost_ret (results_none rfl _ _ _) rfl ?_
        rw[HV.out]
        exact⟨rfl,H1.out⟩
       ·skip
        by_cases k7:k=7
        ·subst k7
         simp only[Int.reduceEq,if_true,if_false]at hv
         have HV:=Lib.hid hv
         clear hv
         go_enter Tryz.func47,Tryz.ntmps47
         go_wp2_with (go_at_call 74;go_must (refine(inCaption_sm H.out hc hu).mono ?_;rintro e w1 ⟨rfl,h1⟩;have H1:=Lib.hid h1;clear h1))
         first|go_ret|refine bodyPost_ret (results_none rfl _ _ _) rfl ?_
         rw[HV.out]
         exact⟨rfl,H1.out⟩
        ·skip
         by_cases k8:k=8
         ·subst k8
          simp only[Int.reduceEq,if_true,if_false]at hv
          have HV:=Lib.hid hv
          clear hv
          go_enter Tryz.func47,Tryz.ntmps47
          go_wp2_with (go_at_call 75;go_must (refine(inColumns_sm H.out hc hu).mono ?_;rintro e w1 ⟨rfl,h1⟩;have H1:=Lib.hid h1;clear h1))
          first|go_ret|refine bodyPost_ret (results_none rfl _ _ _) rfl ?_
          rw[HV.out]
          exact⟨rfl,H1.out⟩
         ·skip
          by_cases k9:k=9
          ·subst k9
           simp only[Int.reduceEq,if_true,if_false]at hv
           have HV:=Lib.hid hv
           clear hv
           go_enter Tryz.func47,Tryz.ntmps47
           go_wp2_with (go_at_call 76;go_must (refine(inRows_sm H.out hc hu hw).mono ?_;rintro e w1 ⟨rfl,h1⟩;have H1:=Lib.hid h1;clear h1))
           first|go_ret|refine bodyPost_ret (results_none rfl _ _ _) rfl ?_
           rw[HV.out]
           exact⟨rfl,H1.out⟩
          ·skip
           by_cases k10:k=10
           ·subst k10
            simp only[Int.reduceEq,if_true,if_false]at hv
            have HV:=Lib.hid hv
            clear hv
            go_enter Tryz.func47,Tryz.ntmps47
            go_wp2_with (go_at_call 77;go_must (refine(inRow_sm H.out hc hu hw).mono ?_;rintro e w1 ⟨rfl,h1⟩;have H1:=Lib.hid h1;clear h1))
            first|go_ret|refine bodyPost_ret (results_none rfl _ _ _) rfl ?_
            rw[HV.out]
            exact⟨rfl,H1.out⟩
           ·skip
            by_cases k11:k=11
            ·subst k11
             simp only[Int.reduceEq,if_true,if_false]at hv
             have HV:=Lib.hid hv
             clear hv
             go_enter Tryz.func47,Tryz.ntmps47
             go_wp2_with (go_at_call 78;go_must (refine(inCell_sm H.out hc hu).mono ?_;rintro e w1 ⟨rfl,h1⟩;have H1:=Lib.hid h1;clear h1))
             first|go_ret|refine bodyPost_ret (results_none rfl _ _ _) rfl ?_
             rw[HV.out]
             exact⟨rfl,H1.out⟩
            ·skip
             have e0:(k==0)=false:=beq_eq_false_iff_ne.2 k0
             have e1:(k==1)=false:=beq_eq_false_iff_ne.2 k1
             have e2:(k==2)=false:=beq_eq_false_iff_ne.2 k2
             have e3:(k==3)=false:=beq_eq_false_iff_ne.2 k3
             have e4:(k==4)=false:=beq_eq_false_iff_ne.2 k4
             have e5:(k==5)=false:=beq_eq_false_iff_ne.2 k5
             have e6:(k==6)=false:=beq_eq_false_iff_ne.2 k6
             have e7:(k==7)=false:=beq_eq_false_iff_ne.2 k7
             have e8:(k==8)=false:=beq_eq_false_iff_ne.2 k8
             have e9:(k==9)=false:=beq_eq_false_iff_ne.2 k9
             have e10:(k==10)=false:=beq_eq_false_iff_ne.2 k10
             have e11:(k==11)=false:=beq_eq_false_iff_ne.2 k11
             simp only[k0,k1,k2,k3,k4,k5,k6,k7,k8,k9,k10,k11,if_false]at hv
             clear k0 k1 k2 k3 k4 k5 k6 k7 k8 k9 k10 k11
             have HV:=Lib.hid hv
             clear hv
             go_enter Tryz.func47,Tryz.ntmps47
             go_wp2_with (go_at_call 79;go_must (refine(inAfter_sm H.out hc hu).mono ?_;rintro e w1 ⟨rfl,h1⟩;have H1:=Lib.hid h1;clear h1))
             first|go_ret|refine bodyPost_ret (results_none rfl _ _ _) rfl ?_
             rw[HV.out]
             exact⟨rfl,H1.out⟩
end
end
section
theorem bsmall_any (s:ByteArray) (w:World) (hs:s.size≤maxLen) :
 Calls Tryz.prog 106 #[.string s] w fun e w'=>e= .returned (.string ⟨(lowS s.toList).toArray⟩)∧Below w.heap.size w w':=by
 obtain⟨c,W,hconv,hb,hsz,hrow,hcc⟩:=run_bytes_of (P:=Tryz.prog) w 9 54 5 s Tryz.underlying9 Tryz.underlying54 Tryz.underlying5
 have hsl:=size_toList s
 unfold maxLen at hs
 have HB:=Lib.hid hb
 have HR:=Lib.hid hrow
 have HZ:=Lib.hid hsz
 have HL:=Lib.hid hsl
 clear hb hrow hsz hsl
 go_enter Tryz.func106,Tryz.ntmps106
 go_wp2
 go_loopw [10] (fun i wr=> ∃k:Nat,k≤s.size∧i= .int .i64 k∧Below w.heap.size w wr∧w.heap.size<wr.heap.size∧Row wr w.heap.size (bytesV (mixS k s.toList))) (fun i _=>s.size-(intOf i).toNat)
 case atStart=>exact⟨0,Nat.zero_le _,rfl,HB.out,by rw[HZ.out];omega,by rw[mixS_zero];exact HR.out⟩
 case round =>
  obtain⟨k,hk,rfl,hb,hz,hr⟩:=hrel
  clear hconv HB HR HZ
  by_cases hlt:k<s.size
  ·have hkl:k<s.toList.length:=by rw[HL.out];exact hlt
   obtain⟨x,hx⟩: ∃x:Nat,x=s.toList[k].toNat:=⟨_,rfl⟩
   have hx255:x≤255:=by have:=s.toList[k].toNat_lt;omega
   have hcell:wr.cell? ⟨w.heap.size,k,none⟩=some (.int .u8 x):=by rw[hx];exact hr.cell (bytesV_mix_get k _ hkl)
   have hfz:wr.frozen? ⟨w.heap.size,k,none⟩=false:=hr.frozen (by rw[bytesV_length,mixS_length];exact hkl)
   have hl:=lowB_nat s.toList[k]
   rw[←hx]at hl
   have HX:=Lib.hid hl
   have HX2:=Lib.hid hx
   have HB:=Lib.hid hb
   have HR:=Lib.hid hr
   clear hl hx hb hr
   go_wp2
   ·go_roundw
    case rel =>
     exact⟨k+1,by omega,by go_num,HB.out.setCell (Nat.le_refl _) _,by rw[World.size_setCell];exact hz,by
      rw[←bytesV_mix_succ k _ hkl (.int .u8 (x+32)) (by rw[HX.out,if_pos ⟨by assumption,by assumption⟩])]
      exact HR.out.set k _⟩
    case measure=>simp[intOf];omega
   ·go_roundw
    case rel=>exact⟨k+1,by omega,by go_num,HB.out,hz,by rw[←bytesV_mix_same k _ hkl (by rw[HX.out,if_neg (by omega),HX2.out])];exact HR.out⟩
    case measure=>simp[intOf];omega
   ·go_roundw
    case rel=>exact⟨k+1,by omega,by go_num,HB.out,hz,by rw[←bytesV_mix_same k _ hkl (by rw[HX.out,if_neg (by omega),HX2.out])];exact HR.out⟩
    case measure=>simp[intOf];omega
  ·obtain rfl:k=s.size:=by omega
   have hback:=run_string_of (P:=Tryz.prog) wr 54 9 5 w.heap.size c (mixS s.size s.toList) s.size (by rw[mixS_length,HL.out]) Tryz.underlying54 Tryz.underlying5 Tryz.underlying9 hr
   have HB:=Lib.hid hb
   clear hb hr
   go_wp2
   go_ret
   refine⟨ret_string ?_,HB.out⟩
   rw[←HL.out,mixS_all]
theorem smallS_eq (s:ByteArray):(⟨(lowS s.toList).toArray⟩:ByteArray)=BuD.smallS s:=rfl
section
variable {E:BE} {ws w w':World} {c:Nat} {s:Int} {b b':BuD} {m m':BMark}
theorem nameQ_short (h:Ok c s b) (x:Int):(nameQ b.S.T x).size≤maxLen:=(attrsQ_at h.at' x).1
theorem leavesR_step (m:BMark) (b:BuD) (l:List Int) (k:Nat) (h:k+1<l.length):BuD.leavesR m b (l.take (k+2)).reverse =
 if spaceQ b.S.T l[k+1]=0 then b.rules m
 else if(BuD.smallS (nameQ b.S.T l[k+1])).toList=m.name.toList then(b.popTo l[k+1],m,false)
 else BuD.leavesR m b (l.take (k+1)).reverse:=by
 have h1:(l.take (k+2)).reverse=l[k+1]::(l.take (k+1)).reverse:=by rw[List.take_succ_eq_append_getElem h,List.reverse_append,List.reverse_singleton,List.singleton_append]
 have h2:(l.take (k+1)).reverse=l[k]::(l.take k).reverse:=by rw[List.take_succ_eq_append_getElem (show k<l.length by omega),List.reverse_append,List.reverse_singleton,List.singleton_append]
 rw[h1,h2,BuD.leavesR]
theorem leavesR_end (m:BMark) (b:BuD) (l:List Int) (k:Nat) (h:k≤1):BuD.leavesR m b (l.take k).reverse=(b,m,false):=by
 cases l with
 |nil=>simp[BuD.leavesR]
 |cons x r =>
  rcases Nat.le_one_iff_eq_zero_or_eq_one.1 h with rfl|rfl
  ·simp[BuD.leavesR]
  ·simp[BuD.leavesR]
theorem blankM_attrs (m:BMark):(BuD.blankM m).attrs=m.attrs:=by unfold BuD.blankM;split <;>rfl
theorem at2_ite {p:Prop} [Decidable p] {r q:BuD×BMark} {l:List Pair} (h1:r.2.attrs=l) (h2:q.2.attrs=l):(if p then r else q).2.attrs=l:=by
 by_cases h:p
 ·rw[if_pos h];exact h1
 ·rw[if_neg h];exact h2
theorem at3_ite {p:Prop} [Decidable p] {r q:BuD×BMark×Bool} {l:List Pair} (h1:r.2.1.attrs=l) (h2:q.2.1.attrs=l):(if p then r else q).2.1.attrs=l:=by
 by_cases h:p
 ·rw[if_pos h];exact h1
 ·rw[if_neg h];exact h2
theorem opens_attrs (b:BuD) (m:BMark):(b.opens m).2.attrs=m.attrs:=by
 rw[BuD.opens.eq_1]
 refine at2_ite rfl (at2_ite rfl (at2_ite rfl (at2_ite rfl (at2_ite rfl (at2_ite rfl (at2_ite rfl (at2_ite ?_ (at2_ite rfl (at2_ite rfl rfl)))))))))
 show(if m.name.toList==([105,109,97,103,101]:List UInt8)then({m with name:=(⟨#[105,109,103]⟩:ByteArray)}:BMark)else m).attrs=m.attrs
 split <;>rfl
theorem inBody_attrs (b:BuD) (m:BMark):(b.inBody m).2.1.attrs=m.attrs:=by
 unfold BuD.inBody
 exact at3_ite rfl (at3_ite (opens_attrs b m) (at3_ite rfl rfl))
theorem astray_attrs (b:BuD) (m:BMark):(b.astray m).2.1.attrs=m.attrs:=inBody_attrs _ m
theorem inTable_attrs (b:BuD) (m:BMark):(b.inTable m).2.1.attrs=m.attrs:=by
 unfold BuD.inTable
 exact at3_ite rfl (at3_ite rfl (at3_ite rfl (at3_ite rfl (at3_ite rfl (at3_ite rfl (at3_ite (at3_ite rfl rfl) (at3_ite rfl (at3_ite rfl (at3_ite rfl (astray_attrs b m))))))))))
theorem rules_attrs (b:BuD) (m:BMark):(b.rules m).2.1.attrs=m.attrs:=by
 have hb:=blankM_attrs m
 unfold BuD.rules
 refine at3_ite ?_ (at3_ite ?_ (at3_ite ?_ (at3_ite ?_ (at3_ite (inBody_attrs b m) (at3_ite ?_ (at3_ite (inTable_attrs b m) (at3_ite ?_ (at3_ite ?_ (at3_ite ?_ (at3_ite ?_ (at3_ite ?_ ?_)))))))))))
 ·unfold BuD.inStart;simp only;exact at3_ite hb (at3_ite hb (at3_ite hb hb))
 ·unfold BuD.inAhead;simp only;exact at3_ite hb (at3_ite hb (at3_ite hb hb))
 ·unfold BuD.inHead;simp only;exact at3_ite hb (at3_ite hb (at3_ite hb (at3_ite hb (at3_ite hb hb))))
 ·unfold BuD.inBehind;simp only;exact at3_ite hb (at3_ite hb (at3_ite hb (at3_ite hb (at3_ite hb hb))))
 ·unfold BuD.inText;exact at3_ite rfl rfl
 ·unfold BuD.inCaption;exact at3_ite (at3_ite rfl rfl) (at3_ite rfl (inBody_attrs b m))
 ·unfold BuD.inColumns;simp only;exact at3_ite hb (at3_ite hb (at3_ite hb (at3_ite hb hb)))
 ·unfold BuD.inRows;simp only;exact at3_ite (at3_ite rfl rfl) (at3_ite (at3_ite rfl rfl) (at3_ite (at3_ite rfl rfl) (at3_ite rfl (inTable_attrs b m))))
 ·unfold BuD.inRow;exact at3_ite rfl (at3_ite rfl (at3_ite (at3_ite rfl rfl) (at3_ite rfl (inTable_attrs b m))))
 ·unfold BuD.inCell;exact at3_ite (at3_ite rfl rfl) (at3_ite (at3_ite rfl rfl) (at3_ite rfl (at3_ite (at3_ite rfl rfl) (inBody_attrs b m))))
 ·unfold BuD.inAfter;simp only;exact at3_ite hb (at3_ite hb hb)
theorem leaves_sm (h:SM E ws c s b m w) (hc:c≤100000) (hu:b.used+m.text.size≤9223372036854775807) (hw:b.wait.size+m.text.size≤9223372036854775807):Calls Tryz.prog 66 #[.pointer (some ⟨E.bb,0,none⟩),.pointer (some ⟨E.mb,0,none⟩)] w fun r w'=>r= .returned (.bool (BuD.leavesR m b b.S.l.reverse).2.2)∧SM E ws (c+1) s (BuD.leavesR m b b.S.l.reverse).1 (BuD.leavesR m b b.S.l.reverse).2.1 w':=by
 have H:=Lib.hid h
 have hlen:=H.out.ok.len.1
 obtain⟨-,d1, -⟩:=H.out.sx.bc
 have HAll:=Lib.hid (all_sm H.out)
 have HNS:=Lib.hid (nameQ_short H.out.ok)
 obtain⟨l,hL⟩: ∃l,l=b.S.l:=⟨_,rfl⟩
 have HLB:=Lib.hid hL
 rw[←hL]at hlen HAll ⊢
 have HV:Hid (BuD.leavesR m b l.reverse=BuD.leavesR m b (l.take l.length).reverse):=Lib.hid (by rw[List.take_of_length_le (Nat.le_refl _)])
 generalize BuD.leavesR m b l.reverse=Q0 at *
 clear h hL
 go_enter Tryz.func66,Tryz.ntmps66
 go_wp2_with (go_at_call 105;go_must (refine HAll.out.mono ?_;rintro e w1 ⟨v,rfl,ho,hb,h1⟩;obtain⟨va,vc,rfl,hv1,hv2,hv3,hat⟩:=own_at ho;have H1:=Lib.hid (H.out.wide hb);have HA:=Lib.hid (row_wide H.out hb ho hat);have HB:=Lib.hid hb;clear ho hb h1 hat hv3))
 have HU:Hid (∀b1 u,SM (E.wide w.heap.size w1.heap.size) w1 c s b1 m u→SM E ws c s b1 m u):=Lib.hid fun b1 u hu=>H.out.unwide HB.out hu rfl
 have HC:Hid (∀b1 u,SM (E.wide w.heap.size w1.heap.size) w1 c s b1 m u→u.cell? ⟨E.bb,0,none⟩=some (.pointer (some ⟨E.tb,0,none⟩))∧u.cell? ⟨E.bb,1,none⟩=some (.pointer (some ⟨E.sb,0,none⟩))∧u.cell? ⟨E.mb,1,none⟩=some (.string m.name)):=Lib.hid fun b1 u hu=>⟨hu.sx.bc.1,hu.sx.bc.2.1,hu.sx.mc.2.1⟩
 have HWh:Hid (∀b1 u x,SM (E.wide w.heap.size w1.heap.size) w1 c s b1 m u→Calls Tryz.prog 49 #[.pointer (some ⟨E.tb,0,none⟩),.int .i64 x] u fun r w'=> ∃v,r= .returned (.tuple #[.int .i64 (spaceQ b1.S.T x),.string (nameQ b1.S.T x),v])∧SM (E.wide w.heap.size w1.heap.size) w1 c s b1 m w'):=Lib.hid fun b1 u x hu=>(what_sm hu x).mono fun _ _ ⟨v,hr,_,_,hs⟩=>⟨v,hr,hs⟩
 have HRu:Hid (∀u,SM (E.wide w.heap.size w1.heap.size) w1 c s b m u→Calls Tryz.prog 47 #[.pointer (some ⟨E.bb,0,none⟩),.pointer (some ⟨E.mb,0,none⟩)] u fun r w'=>r= .returned (.bool (b.rules m).2.2)∧SM E ws (c+1) s (b.rules m).1 (b.rules m).2.1 w'):=Lib.hid fun u hs=>(rules_sm hs hc hu hw).mono fun _ _ ⟨hr,hx⟩=>⟨hr,H.out.unwide HB.out hx (rules_attrs b m)⟩
 have HPo:Hid (∀b1 u,SM (E.wide w.heap.size w1.heap.size) w1 c s b1 m u→Calls Tryz.prog 64 #[.pointer (some ⟨E.sb,0,none⟩)] u fun r w'=>r= .returned (.int .i64 b1.top)∧SM (E.wide w.heap.size w1.heap.size) w1 c s b1.pop m w'):=Lib.hid fun b1 u hu=>pop_sm hu
 have HAk:Hid (∀b1 u,SM (E.wide w.heap.size w1.heap.size) w1 c s b1 m u→AtF (OM (E.wide w.heap.size w1.heap.size)) u va (intsV l)):=Lib.hid fun b1 u hu=>HA.out.kept hu.sx.keep
 have HDr:Hid (∀b1 u,SM (E.wide w.heap.size w1.heap.size) w1 c s b1 m u→SM (E.wide w.heap.size w1.heap.size) w1 c s b1 m u.drew):=Lib.hid fun b1 u hu=>hu.drew
 have HWo:Hid (∀b1 u u',SM (E.wide w.heap.size w1.heap.size) w1 c s b1 m u→Below u.heap.size u u'→SM (E.wide w.heap.size w1.heap.size) w1 c s b1 m u'):=Lib.hid fun b1 u u' hu hb=>hu.world hb
 generalize SM (E.wide w.heap.size w1.heap.size) w1 c s=SS at *
 go_loopw [6] (fun i wr=> ∃k:Nat,k≤l.length∧i= .int .i64 ((k:Int)-1)∧Hid (SS b m wr)∧Hid (Q0=BuD.leavesR m b (l.take k).reverse)) (fun i _=>(intOf i+1).toNat)
 case atStart=>exact⟨l.length,Nat.le_refl _,rfl,H1,HV⟩
 case round =>
  obtain⟨k,hk,rfl,HR,HVr⟩:=hrel
  by_cases hk1:k≤1
  ·have HE:=Lib.hid (leavesR_end m b l k hk1)
   have hi: ¬(0:Int)<(k:Int)-1:=by omega
   clear hk hk1
   go_wp2_with fail
   go_ret
   rw[HVr.out,HE.out]
   exact⟨rfl,(HU.out _ _ HR.out).more (by omega) (by omega)⟩
  ·obtain⟨k,rfl⟩: ∃j,k=j+2:=⟨k-2,by omega⟩
   clear hk1
   have hlt:k+1<l.length:=by omega
   obtain⟨bb,o,rfl⟩:=HA.out.at.some_of (by intro h;have:=congrArg List.length h;rw[intsV_length,List.length_nil]at this;omega)
   have hx:=(HAk.out _ _ HR.out).at.get (intsV_get l (k+1) hlt)
   have e1:((k+2:Nat):Int)-1=((k+1:Nat):Int):=by omega
   rw[e1]
   obtain⟨d0, -⟩:=HC.out _ _ HR.out
   have HST:=Lib.hid (leavesR_step m b l k hlt)
   have HXl:=Lib.hid (show l[k+1]∈l from List.getElem_mem hlt)
   obtain⟨j,hj⟩: ∃j,j=k+1:=⟨_,rfl⟩
   obtain⟨x,hxx⟩: ∃x,x=l[k+1]:=⟨_,rfl⟩
   rw[←hxx]at hx HST HXl
   have HG:Hid (∀b1 u,SS b1 m u→u.cell? ⟨bb,o+(k+1),none⟩=some (.int .i64 x)):=Lib.hid fun b1 u hu=>by
    rw[hxx];exact(HAk.out _ _ hu).at.get (intsV_get l (k+1) hlt)
   rw[←hj]at hx HG e1 ⊢
   have HJ:=Lib.hid hj
   have hjl:j<l.length:=by omega
   have hj0:(0:Int)<(j:Int):=by omega
   have hnx:=HNS.out x
   have HW:=Lib.hid (HWh.out b wr.drew x (HDr.out _ _ HR.out))
   clear hxx hj hlt hk e1
   go_wp2_with fail
   go_region_law (first
    |(go_simp;go_at_call 49;refine HW.out.mono ?_
      rintro e w2 ⟨v,rfl,h2⟩
      have H2:=Lib.hid h2
      clear h2))
   all_goals
    try simp only[Act.put,List.getElem_toArray,List.getElem_cons_succ,List.getElem_cons_zero,List.setIfInBounds_toArray,List.set_cons_zero,List.set_cons_succ]
    clear HW
    have HSm:=Lib.hid (fun u=>bsmall_any (nameQ b.S.T x) u hnx)
    rw[smallS_eq]at HSm
    generalize spaceQ b.S.T x=xs at *
    generalize nameQ b.S.T x=xn at *
    generalize BuD.smallS xn=sx at *
    obtain⟨-,d1',g1⟩:=HC.out _ _ H2.out
    by_cases hx0:xs=0
    ·subst hx0
     have hst:=HST.out
     rw[if_pos rfl]at hst
     have HQ:Hid (Q0=b.rules m):=Lib.hid (by rw[HVr.out,hst])
     clear hst HST
     go_wp2_with (go_at_call 47;go_must (refine(HRu.out _ H2.out).mono ?_;rintro e w3 ⟨rfl,h3⟩;have H3:=Lib.hid h3;clear h3))
     first|go_ret|refine bodyPost_ret (results_tmp rfl _ _ _) rfl ?_
     rw[HQ.out]
     exact⟨rfl,H3.out⟩
    ·have hx1:(xs==0)=false:=beq_eq_false_iff_ne.2 hx0
     have hst:=HST.out
     rw[if_neg hx0]at hst
     have HST2:=Lib.hid hst
     clear hx0 hst HST
     have q1:w2.drew.cell? ⟨E.mb,1,none⟩=some (.string m.name):=g1
     have HSd:=Lib.hid (HSm.out w2.drew)
     by_cases hsn:sx.toList=m.name.toList
     ·have hst:=HST2.out
      rw[if_pos hsn]at hst
      have HQ:Hid (Q0=(b.popTo x,m,false)):=Lib.hid (by rw[HVr.out,hst])
      have HX:Hid (x∈b.S.l):=Lib.hid (HLB.out▸HXl.out)
      clear hst HST2
      go_wp2_with fail
      go_region_held3 (fun u=>u.cell? ⟨E.mb,1,none⟩=some (.string m.name))
       (first|exact q1|exact p1)
       (first|(go_at_call 106;refine HSd.out.mono ?_;rintro e w5 ⟨rfl,hb5⟩;have p1:=cell_later hb5 q1;have H5:=Lib.hid (HWo.out _ _ _ (HDr.out _ _ H2.out) hb5);clear hb5))
      all_goals
       try simp only[Act.put,List.getElem_toArray,List.getElem_cons_succ,List.getElem_cons_zero,List.setIfInBounds_toArray,List.set_cons_zero,List.set_cons_succ]
       go_wp2_with fail
       go_loopg [] b.S.l.length (fun n w6=>Hid (∃L:List Int,L.length=n∧SS (b.stk L) m w6∧x∈L∧b.popTo x=(b.stk L).popTo x))
       case atStart=>exact Lib.hid ⟨b.S.l,rfl,H5.out,HX.out,rfl⟩
       case round =>
        obtain⟨L,hL1,hL2,hL3,hL4⟩:=hrel.out
        obtain⟨L0,y,rfl⟩:=mem_last hL3
        have HLa:=Lib.hid hL1
        have HLb:=Lib.hid hL2
        have HLc:=Lib.hid hL3
        have HLd:=Lib.hid hL4
        clear hL1 hL2 hL3 hL4
        rename World=>wz
        have htop:BuD.top (b.stk (L0++ [y]))=y:=by show((L0++ [y]).getLast?.getD 0)=y;simp
        have hpop:BuD.pop (b.stk (L0++ [y]))=b.stk L0:=by unfold BuD.pop;show b.stk ((L0++ [y]).dropLast)=_;simp
        have HP:=Lib.hid (HPo.out _ _ (HDr.out _ _ HLb.out))
        rw[htop,hpop]at HP
        clear htop hpop
        have r1:=(HC.out _ _ (HDr.out _ _ HLb.out)).2.1
        have r0:=HG.out _ _ (HDr.out _ _ HLb.out)
        by_cases hyx:y=x
        ·subst hyx
         go_wp2_with fail
         go_region_held3 (fun u=>u.cell? ⟨E.bb,1,none⟩=some (.pointer (some ⟨E.sb,0,none⟩))∧u.cell? ⟨bb,o+j,none⟩=some (.int .i64 y))
          (first|exact⟨r1,r0⟩|exact⟨t1,t0⟩)
          (first|(go_at_call 64;refine HP.out.mono ?_;rintro e w7 ⟨rfl,h7⟩;have t1:=(HC.out _ _ h7).2.1;have t0:=HG.out _ _ h7;have H7:=Lib.hid h7;clear h7))
         all_goals
          try simp only[Act.put,List.getElem_toArray,List.getElem_cons_succ,List.getElem_cons_zero,List.setIfInBounds_toArray,List.set_cons_zero,List.set_cons_succ]
          go_wp2_with fail
          first|go_ret|refine bodyPost_ret (results_tmp rfl _ _ _) rfl ?_
          rw[HQ.out,HLd.out,popTo_last]
          exact⟨rfl,(HU.out _ _ H7.out).more (by omega) (by omega)⟩
        ·have hyb:(y !=x)=true:=by simpa using hyx
         have HM:=Lib.hid (popTo_more b L0 hyx)
         have HIn:Hid (x∈L0):=Lib.hid (by
          rcases List.mem_append.1 HLc.out with h|h
          ·exact h
          ·exact absurd (List.mem_singleton.1 h).symm hyx)
         clear hyx
         go_wp2_with fail
         go_region_held3 (fun u=>u.cell? ⟨E.bb,1,none⟩=some (.pointer (some ⟨E.sb,0,none⟩))∧u.cell? ⟨bb,o+j,none⟩=some (.int .i64 x))
          (first|exact⟨r1,r0⟩|exact⟨t1,t0⟩)
          (first|(go_at_call 64;refine HP.out.mono ?_;rintro e w7 ⟨rfl,h7⟩;have t1:=(HC.out _ _ h7).2.1;have t0:=HG.out _ _ h7;have H7:=Lib.hid h7;clear h7))
         all_goals
          try simp only[Act.put,List.getElem_toArray,List.getElem_cons_succ,List.getElem_cons_zero,List.setIfInBounds_toArray,List.set_cons_zero,List.set_cons_succ]
          go_wp2_with fail
          go_roundg L0.length
          case measure=>have:=HLa.out;rw[List.length_append,List.length_singleton]at this;omega
          case rel=>exact Lib.hid ⟨L0,rfl,H7.out,HIn.out,by rw[HLd.out,HM.out]⟩
     ·have hst:=HST2.out
      rw[if_neg hsn]at hst
      have HQ:Hid (Q0=BuD.leavesR m b (l.take j).reverse):=Lib.hid (by rw[HVr.out,hst,HJ.out])
      have hsf:(sx.toList==m.name.toList)=false:=by simpa using hsn
      clear hst HST2
      go_wp2_with fail
      go_region_held3 (fun u=>u.cell? ⟨E.mb,1,none⟩=some (.string m.name))
       (first|exact q1|exact p1)
       (first|(go_at_call 106;refine HSd.out.mono ?_;rintro e w5 ⟨rfl,hb5⟩;have p1:=cell_later hb5 q1;have H5:=Lib.hid (HWo.out _ _ _ (HDr.out _ _ H2.out) hb5);clear hb5))
      all_goals
       try simp only[Act.put,List.getElem_toArray,List.getElem_cons_succ,List.getElem_cons_zero,List.setIfInBounds_toArray,List.set_cons_zero,List.set_cons_succ]
       go_wp2_with fail
       go_roundw
       case rel=>exact⟨j,by omega,by go_num,H5,HQ⟩
       case measure=>simp[intOf]
end
end
section
section
variable (name:ByteArray) (attrs:List Pair) (a:Option Addr) (c:Nat) (self:Bool) (text:ByteArray) (w:World)
theorem breaks_name (hin:isIn brkNames name=true) :
 Calls Tryz.prog 63 #[markA 2 name a attrs.length c self text] w fun e w'=>e= .returned (.bool (breaksF 2 name attrs))∧Below w.heap.size w w':=by
 have HP:Hid (breaksF 2 name attrs=true):=by show _=_;rw[breaksF,if_neg (by decide),if_pos rfl,hin];rfl
 have h:=isIn_mem hin
 clear hin
 simp only[brkNames,List.mem_cons,List.not_mem_nil,or_false,eq_mk_iff]at h
 rcases h with h|h|h|h|h|h|h|h|h|h|h|h|h|h|h|h|h|h|h|h|h|h|h|h|h|h|h|h|h|h|h|h|h|h|h|h|h|h|h|h|h|h|h|h
 all_goals
  as_aux_lemma =>
   go_enter Tryz.func63,Tryz.ntmps63
   go_wp2_with fail
   go_ret
   exact⟨ret_bool HP.out.symm,(Below.refl _ _).alloc (Nat.le_refl _) _⟩
theorem breaks_any (kind:Int) (hl:attrs.length≤maxLen) (ha:At w a (pairsV attrs)) :
 Calls Tryz.prog 63 #[markA kind name a attrs.length c self text] w fun e w'=>e= .returned (.bool (breaksF kind name attrs))∧Below w.heap.size w w':=by
 by_cases h3:kind=3
 ·subst h3;exact breaks_end name attrs a c self text w
 ·by_cases h2:kind=2
  ·subst h2
   cases hin:isIn brkNames name
   ·by_cases hf:name.toList=([102,111,110,116]:List UInt8)
    ·exact breaks_font name attrs a c self text w hin hf hl ha
    ·exact breaks_no name attrs a c self text w hin (by simpa using hf)
   ·exact breaks_name name attrs a c self text w hin
  ·exact breaks_none name attrs a c self text w kind (by simpa using h3) (by simpa using h2)
end
end
end Go.Proofs.YtgepobccoffnaaaGreatDoor
