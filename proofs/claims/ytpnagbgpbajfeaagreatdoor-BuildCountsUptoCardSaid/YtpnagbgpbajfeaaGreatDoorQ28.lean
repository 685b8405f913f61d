/- Texts joined for a claim: CuTa, CuTb, CuTc: plain laws and contracts. No conditions beyond those that each lemma types. -/
import Derived.Test.YtpnagbgpbajfeaaGreatDoorQ27
set_option linter.unusedVariables false
set_option linter.unusedSimpArgs false
set_option maxRecDepth 100000
set_option maxHeartbeats 8000000
namespace Go.Proofs.YtpnagbgpbajfeaaGreatDoor
open Go.RowKit Mem
section
section
variable {E:BE} {ws w w':World} {c:Nat} {s:Int} {b b':BuD} {m m':BMark}
theorem inCaption_sm (h:SM E ws c s b m w) (hc:c≤100000) (hu:b.used+m.text.size≤9223372036854775807):Calls Tryz.prog 69 #[.pointer (some ⟨E.bb,0,none⟩),.pointer (some ⟨E.mb,0,none⟩)] w fun r w'=>r= .returned (.bool (b.inCaption m).2.2)∧SM E ws (c+1) s (b.inCaption m).1 (b.inCaption m).2.1 w':=by
 have H:=Lib.hid h
 obtain⟨c0, -, -, -, -⟩:=H.out.sx.mc
 obtain⟨-,d1,d2,d3, -, -, -, -, -, -, -⟩:=H.out.sx.bc
 have f3:=H.out.sx.bf 3 (by omega)
 have hne: ¬E.mb=E.bb:=fun e=>H.out.sx.mo.ne e.symm
 have hne2: ¬E.bb=E.mb:=H.out.sx.mo.ne
 clear h
 go_enter Tryz.func69,Tryz.ntmps69
 go_wp2_with ((first
  |(go_at_call 103;go_must (refine' tB (end_sm ?h ?_) ?_))
  |(go_at_call 119;go_must (refine' tB (rowed_sm ?h) ?_))
  |(go_at_call 116;go_must (refine' tB (has_sm ?h ?_) ?_))
  |(go_at_call 120;go_must (refine' (imply_sm ?h _).mono ?_))
  |(go_at_call 117;go_must (refine' (until_sm ?h ?_).mono ?_))
  |(go_at_call 121;go_must (refine' (lclear_sm ?h).mono ?_))
  |(go_at_call 66;go_must (refine' tB (inBody_sm ?h hc hu) ?_)));go_must ((case h=>with_reducible first|exact H.out|exact H.out.text _ (by assumption)|exact(H.out.text _ (by assumption)).mode _|exact H.out.mode _|exact H.out.head _|exact H.out.skip _|exact H.out.wait _|exact(H.out.mode _).back _|exact H.out.mname _ (by decide));any_goals first|(rintro e w1 ⟨rfl,h1⟩;(try simp only[namesOf_mk,strOf,List.map_cons,List.map_nil,BuD.ends]at h1);clear c0 d1 d2 d3 f3;replace H:=Lib.hid h1;clear h1;obtain⟨c0, -, -, -, -⟩:=H.out.sx.mc;obtain⟨-,d1,d2,d3, -, -, -, -, -, -, -⟩:=H.out.sx.bc;have f3:=H.out.sx.bf 3 (by omega))|(intro t ht w1 h1;(try simp only[namesOf_mk,strOf,List.map_cons,List.map_nil,BuD.ends]at ht h1);cases t <;>((try simp only[ht,reduceIte,Bool.false_eq_true]at h1);clear c0 d1 d2 d3 f3;replace H:=Lib.hid h1;clear h1;obtain⟨c0, -, -, -, -⟩:=H.out.sx.mc;obtain⟨-,d1,d2,d3, -, -, -, -, -, -, -⟩:=H.out.sx.bc;have f3:=H.out.sx.bf 3 (by omega)))|exact⟨by first|with_reducible rfl|simp[World.setCell],by rfl,by rfl,by first|decide|simp[namesOf]⟩|omega|fail))
 all_goals
  (first|go_ret|refine bodyPost_ret (results_none rfl _ _ _) rfl ?_)
  have hv:=BuD.inCaption.eq_1 b m
  simp only[*,bools,if_true,if_false,reduceIte,beq_self_eq_true,Int.reduceBEq]at hv
  rw[hv]
  refine⟨by first|rfl|(rw[ht];rfl),?_⟩
  exact SM.more (by first|(with_reducible first|exact H.out|exact H.out.mode _|exact H.out.skip _|exact H.out.head _|exact(H.out.mode _).back _|exact(H.out.wait _)|exact H.out.drew.wait _|exact(H.out.wait _).drew|exact H.out.text _ (by assumption)|exact(H.out.text _ (by assumption)).mode _|exact(H.out.mode _).head _|exact(H.out.head _))|exact H.out|exact H.out.mode _|exact H.out.skip _) (by omega) (by omega)
theorem inColumns_sm (h:SM E ws c s b m w) (hc:c≤100000) (hu:b.used+m.text.size≤9223372036854775807):Calls Tryz.prog 70 #[.pointer (some ⟨E.bb,0,none⟩),.pointer (some ⟨E.mb,0,none⟩)] w fun r w'=>r= .returned (.bool (b.inColumns m).2.2)∧SM E ws (c+1) s (b.inColumns m).1 (b.inColumns m).2.1 w':=by
 have H:=Lib.hid h
 obtain⟨c0, -,c2, -, -⟩:=H.out.sx.mc
 obtain⟨-,d1, -,d3, -, -, -, -, -, -, -⟩:=H.out.sx.bc
 have f3:=H.out.sx.bf 3 (by omega)
 have hne: ¬E.mb=E.bb:=fun e=>H.out.sx.mo.ne e.symm
 have hne2: ¬E.bb=E.mb:=H.out.sx.mo.ne
 clear h
 go_enter Tryz.func70,Tryz.ntmps70
 go_wp2_with ((first
  |(go_at_call 106;go_must (refine' tB (blank_sm ?h hu) ?_))
  |(go_at_call 104;go_must (refine' tB (start_sm ?h ?_) ?_))
  |(go_at_call 103;go_must (refine' tB (end_sm ?h ?_) ?_))
  |(go_at_call 122;go_must (first|with_reducible refine' (single0_sm ?h _ ?n).mono ?_|with_reducible refine' (singlem_sm ?h _ ?n ?r).mono ?_))
  |(go_at_call 113;go_must (refine' tB (at_sm ?h ?_) ?_))
  |(go_at_call 59;go_must (refine' (pop_sm ?h).mono ?_)));go_must ((case h=>with_reducible first|exact H.out|exact H.out.text _ (by assumption)|exact(H.out.text _ (by assumption)).mode _|exact H.out.mode _|exact H.out.head _|exact H.out.skip _|exact H.out.wait _|exact(H.out.mode _).back _|exact H.out.mname _ (by decide));(try case n=>first|decide|exact H.out.sx.mo.nlen);(try case r=>rfl);any_goals first|(rintro e w1 ⟨rfl,h1⟩;(try simp only[namesOf_mk,strOf,List.map_cons,List.map_nil,BuD.ends]at h1);clear c0 c2 d1 d3 f3;replace H:=Lib.hid h1;clear h1;obtain⟨c0, -,c2, -, -⟩:=H.out.sx.mc;obtain⟨-,d1, -,d3, -, -, -, -, -, -, -⟩:=H.out.sx.bc;have f3:=H.out.sx.bf 3 (by omega))|(intro t ht w1 h1;(try simp only[namesOf_mk,strOf,List.map_cons,List.map_nil,BuD.ends]at ht h1);cases t <;>((try simp only[ht,reduceIte,Bool.false_eq_true]at h1);clear c0 c2 d1 d3 f3;replace H:=Lib.hid h1;clear h1;obtain⟨c0, -,c2, -, -⟩:=H.out.sx.mc;obtain⟨-,d1, -,d3, -, -, -, -, -, -, -⟩:=H.out.sx.bc;have f3:=H.out.sx.bf 3 (by omega)))|exact⟨by first|with_reducible rfl|simp[World.setCell],by rfl,by rfl,by first|decide|simp[namesOf]⟩|omega|fail))
 all_goals try (exfalso;have q:=eq_of_beq (by assumption:((BuD.blankM m).kind==1)=true);omega)
 all_goals try (exfalso;have q:=eq_of_beq (by assumption:((BuD.blankM m).kind==2)=true);omega)
 all_goals try (exfalso;have q:=eq_of_beq (by assumption:((BuD.blankM m).kind==3)=true);omega)
 all_goals try (exfalso;have q:=eq_of_beq (by assumption:((BuD.blankM m).kind==6)=true);omega)
 all_goals
  try have e01:((BuD.blankM m).kind==1)=true:=beq_iff_eq.2 (by assumption)
  try have e01:((BuD.blankM m).kind==1)=false:=beq_eq_false_iff_ne.2 (by assumption)
  try have e02:((BuD.blankM m).kind==2)=true:=beq_iff_eq.2 (by assumption)
  try have e02:((BuD.blankM m).kind==2)=false:=beq_eq_false_iff_ne.2 (by assumption)
  try have e03:((BuD.blankM m).kind==3)=true:=beq_iff_eq.2 (by assumption)
  try have e03:((BuD.blankM m).kind==3)=false:=beq_eq_false_iff_ne.2 (by assumption)
  try have e06:((BuD.blankM m).kind==6)=true:=beq_iff_eq.2 (by assumption)
  try have e06:((BuD.blankM m).kind==6)=false:=beq_eq_false_iff_ne.2 (by assumption)
  (first|go_ret|refine bodyPost_ret (results_none rfl _ _ _) rfl ?_)
  have hv:=BuD.inColumns.eq_1 b m
  simp only[*,bools,if_true,if_false,reduceIte,beq_self_eq_true,Int.reduceBEq]at hv
  rw[hv]
  refine⟨by first|rfl|(rw[ht];rfl),?_⟩
  exact SM.more (by first|(with_reducible first|exact H.out|exact H.out.mode _|exact H.out.skip _|exact H.out.head _|exact(H.out.mode _).back _|exact(H.out.wait _)|exact H.out.drew.wait _|exact(H.out.wait _).drew|exact H.out.text _ (by assumption)|exact(H.out.text _ (by assumption)).mode _|exact(H.out.mode _).head _|exact(H.out.head _))|exact H.out|exact H.out.mode _|exact H.out.skip _) (by omega) (by omega)
end
end
section
section
variable {E:BE} {ws w w':World} {c:Nat} {s:Int} {b b':BuD} {m m':BMark}
theorem inTable_sm (h:SM E ws c s b m w) (hc:c≤100000) (hu:b.used+m.text.size≤9223372036854775807) (hw:b.wait.size+m.text.size≤9223372036854775807):Calls Tryz.prog 68 #[.pointer (some ⟨E.bb,0,none⟩),.pointer (some ⟨E.mb,0,none⟩)] w fun r w'=>r= .returned (.bool (b.inTable m).2.2)∧SM E ws (c+1) s (b.inTable m).1 (b.inTable m).2.1 w':=by
 have H:=Lib.hid h
 obtain⟨c0,c1,c2, -,c4⟩:=H.out.sx.mc
 obtain⟨-,d1,d2,d3, -, -,d6, -, -, -, -⟩:=H.out.sx.bc
 have f3:=H.out.sx.bf 3 (by omega)
 have f6:=H.out.sx.bf 6 (by omega)
 have hne: ¬E.mb=E.bb:=fun e=>H.out.sx.mo.ne e.symm
 have hne2: ¬E.bb=E.mb:=H.out.sx.mo.ne
 have hnw: ¬9223372036854775807<b.wait.size+m.text.size:=by omega
 clear h
 go_enter Tryz.func68,Tryz.ntmps68
 go_wp2_with ((first
  |(go_at_call 113;go_must (refine' tB (at_sm ?h ?_) ?_))
  |(go_at_call 104;go_must (refine' tB (start_sm ?h ?_) ?_))
  |(go_at_call 103;go_must (refine' tB (end_sm ?h ?_) ?_))
  |(go_at_call 114;go_must (refine' (clear_sm ?h ?_).mono ?_))
  |(go_at_call 115;go_must (refine' (lmark_sm ?h ?_).mono ?_))
  |(go_at_call 105;go_must (first|with_reducible refine' (insert0_sm ?h _ ?n).mono ?_|with_reducible refine' (insertm_sm ?h _ ?n ?r).mono ?_))
  |(go_at_call 116;go_must (refine' tB (has_sm ?h ?_) ?_))
  |(go_at_call 117;go_must (refine' (until_sm ?h ?_).mono ?_))
  |(go_at_call 118;go_must (refine' (reset_sm ?h).mono ?_))
  |(go_at_call 107;go_must (refine' tB (heads_sm ?h) ?_))
  |(go_at_call 56;go_must (refine' tB (astray_sm ?h hc hu) ?_)));go_must ((case h=>with_reducible first|exact H.out|exact H.out.text _ (by assumption)|exact(H.out.text _ (by assumption)).mode _|exact H.out.mode _|exact H.out.head _|exact H.out.skip _|exact H.out.wait _|exact(H.out.mode _).back _|exact H.out.mname _ (by decide));(try case n=>first|decide|exact H.out.sx.mo.nlen);(try case r=>rfl);any_goals first|(rintro e w1 ⟨rfl,h1⟩;(try simp only[namesOf_mk,strOf,List.map_cons,List.map_nil,BuD.ends]at h1);clear c0 c1 c2 c4 d1 d2 d3 d6 f3 f6;replace H:=Lib.hid h1;clear h1;obtain⟨c0,c1,c2, -,c4⟩:=H.out.sx.mc;obtain⟨-,d1,d2,d3, -, -,d6, -, -, -, -⟩:=H.out.sx.bc;have f3:=H.out.sx.bf 3 (by omega);have f6:=H.out.sx.bf 6 (by omega))|(intro t ht w1 h1;(try simp only[namesOf_mk,strOf,List.map_cons,List.map_nil,BuD.ends]at ht h1);cases t <;>((try simp only[ht,reduceIte,Bool.false_eq_true]at h1);clear c0 c1 c2 c4 d1 d2 d3 d6 f3 f6;replace H:=Lib.hid h1;clear h1;obtain⟨c0,c1,c2, -,c4⟩:=H.out.sx.mc;obtain⟨-,d1,d2,d3, -, -,d6, -, -, -, -⟩:=H.out.sx.bc;have f3:=H.out.sx.bf 3 (by omega);have f6:=H.out.sx.bf 6 (by omega)))|exact⟨by first|with_reducible rfl|simp[World.setCell],by rfl,by rfl,by first|decide|simp[namesOf]⟩|omega|fail))
 all_goals try (exfalso;have q:=eq_of_beq (by assumption:(m.kind==1)=true);omega)
 all_goals try (exfalso;have q:=eq_of_beq (by assumption:(m.kind==2)=true);omega)
 all_goals try (exfalso;have q:=eq_of_beq (by assumption:(m.kind==3)=true);omega)
 all_goals try (exfalso;have q:=eq_of_beq (by assumption:(m.kind==6)=true);omega)
 all_goals try (
  try have e01:(m.kind==1)=true:=beq_iff_eq.2 (by assumption)
  try have e01:(m.kind==1)=false:=beq_eq_false_iff_ne.2 (by assumption)
  try have e02:(m.kind==2)=true:=beq_iff_eq.2 (by assumption)
  try have e02:(m.kind==2)=false:=beq_eq_false_iff_ne.2 (by assumption)
  try have e03:(m.kind==3)=true:=beq_iff_eq.2 (by assumption)
  try have e03:(m.kind==3)=false:=beq_eq_false_iff_ne.2 (by assumption)
  try have e06:(m.kind==6)=true:=beq_iff_eq.2 (by assumption)
  try have e06:(m.kind==6)=false:=beq_eq_false_iff_ne.2 (by assumption)
  (first|go_ret|refine bodyPost_ret (results_none rfl _ _ _) rfl ?_)
  have hv:=BuD.inTable.eq_1 b m
  simp only[*,bools,if_true,if_false,reduceIte,beq_self_eq_true,Int.reduceBEq]at hv
  rw[hv]
  refine⟨by first|rfl|(rw[ht];rfl),?_⟩
  exact SM.more (by first|(with_reducible first|exact H.out|exact H.out.mode _|exact H.out.skip _|exact H.out.head _|exact(H.out.mode _).back _|exact(H.out.wait _)|exact H.out.drew.wait _|exact(H.out.wait _).drew|exact H.out.text _ (by assumption)|exact(H.out.text _ (by assumption)).mode _|exact(H.out.mode _).head _|exact(H.out.head _))|exact H.out|exact H.out.mode _|exact H.out.skip _) (by omega) (by omega))
 all_goals try (
  have HI:=Lib.hid (insertm_sm H.out.drew m.name H.out.sx.mo.nlen rfl)
  go_region_law (first
   |(go_simp;go_at_call 105;refine HI.out.mono ?_
     rintro e w2 ⟨rfl,h1⟩
     (clear c0 c1 c2 c4 d1 d2 d3 d6 f3 f6;replace H:=Lib.hid h1;clear h1;obtain⟨c0,c1,c2, -,c4⟩:=H.out.sx.mc;obtain⟨-,d1,d2,d3, -, -,d6, -, -, -, -⟩:=H.out.sx.bc;have f3:=H.out.sx.bf 3 (by omega);have f6:=H.out.sx.bf 6 (by omega))))
  all_goals
   clear HI
   try simp only[Act.put,List.getElem_toArray,List.getElem_cons_succ,List.getElem_cons_zero,List.setIfInBounds_toArray,List.set_cons_zero,List.set_cons_succ]
   go_wp2_with ((first
    |(go_at_call 113;go_must (refine' tB (at_sm ?h ?_) ?_))
    |(go_at_call 104;go_must (refine' tB (start_sm ?h ?_) ?_))
    |(go_at_call 103;go_must (refine' tB (end_sm ?h ?_) ?_))
    |(go_at_call 114;go_must (refine' (clear_sm ?h ?_).mono ?_))
    |(go_at_call 115;go_must (refine' (lmark_sm ?h ?_).mono ?_))
    |(go_at_call 105;go_must (first|with_reducible refine' (insert0_sm ?h _ ?n).mono ?_|with_reducible refine' (insertm_sm ?h _ ?n ?r).mono ?_))
    |(go_at_call 116;go_must (refine' tB (has_sm ?h ?_) ?_))
    |(go_at_call 117;go_must (refine' (until_sm ?h ?_).mono ?_))
    |(go_at_call 118;go_must (refine' (reset_sm ?h).mono ?_))
    |(go_at_call 107;go_must (refine' tB (heads_sm ?h) ?_))
    |(go_at_call 56;go_must (refine' tB (astray_sm ?h hc hu) ?_)));go_must ((case h=>with_reducible first|exact H.out|exact H.out.text _ (by assumption)|exact(H.out.text _ (by assumption)).mode _|exact H.out.mode _|exact H.out.head _|exact H.out.skip _|exact H.out.wait _|exact(H.out.mode _).back _|exact H.out.mname _ (by decide));(try case n=>first|decide|exact H.out.sx.mo.nlen);(try case r=>rfl);any_goals first|(rintro e w1 ⟨rfl,h1⟩;(try simp only[namesOf_mk,strOf,List.map_cons,List.map_nil,BuD.ends]at h1);clear c0 c1 c2 c4 d1 d2 d3 d6 f3 f6;replace H:=Lib.hid h1;clear h1;obtain⟨c0,c1,c2, -,c4⟩:=H.out.sx.mc;obtain⟨-,d1,d2,d3, -, -,d6, -, -, -, -⟩:=H.out.sx.bc;have f3:=H.out.sx.bf 3 (by omega);have f6:=H.out.sx.bf 6 (by omega))|(intro t ht w1 h1;(try simp only[namesOf_mk,strOf,List.map_cons,List.map_nil,BuD.ends]at ht h1);cases t <;>((try simp only[ht,reduceIte,Bool.false_eq_true]at h1);clear c0 c1 c2 c4 d1 d2 d3 d6 f3 f6;replace H:=Lib.hid h1;clear h1;obtain⟨c0,c1,c2, -,c4⟩:=H.out.sx.mc;obtain⟨-,d1,d2,d3, -, -,d6, -, -, -, -⟩:=H.out.sx.bc;have f3:=H.out.sx.bf 3 (by omega);have f6:=H.out.sx.bf 6 (by omega)))|exact⟨by first|with_reducible rfl|simp[World.setCell],by rfl,by rfl,by first|decide|simp[namesOf]⟩|omega|fail))
  all_goals
   try have e01:(m.kind==1)=true:=beq_iff_eq.2 (by assumption)
   try have e01:(m.kind==1)=false:=beq_eq_false_iff_ne.2 (by assumption)
   try have e02:(m.kind==2)=true:=beq_iff_eq.2 (by assumption)
   try have e02:(m.kind==2)=false:=beq_eq_false_iff_ne.2 (by assumption)
   try have e03:(m.kind==3)=true:=beq_iff_eq.2 (by assumption)
   try have e03:(m.kind==3)=false:=beq_eq_false_iff_ne.2 (by assumption)
   try have e06:(m.kind==6)=true:=beq_iff_eq.2 (by assumption)
   try have e06:(m.kind==6)=false:=beq_eq_false_iff_ne.2 (by assumption)
   (first|go_ret|refine bodyPost_ret (results_none rfl _ _ _) rfl ?_)
   have hv:=BuD.inTable.eq_1 b m
   simp only[*,bools,if_true,if_false,reduceIte,beq_self_eq_true,Int.reduceBEq]at hv
   rw[hv]
   refine⟨by first|rfl|(rw[ht];rfl),?_⟩
   exact SM.more (by first|(with_reducible first|exact H.out|exact H.out.mode _|exact H.out.skip _|exact H.out.head _|exact(H.out.mode _).back _|exact(H.out.wait _)|exact H.out.drew.wait _|exact(H.out.wait _).drew|exact H.out.text _ (by assumption)|exact(H.out.text _ (by assumption)).mode _|exact(H.out.mode _).head _|exact(H.out.head _))|exact H.out|exact H.out.mode _|exact H.out.skip _) (by omega) (by omega))
end
end
section
section
variable {E:BE} {ws w w':World} {c:Nat} {s:Int} {b b':BuD} {m m':BMark}
theorem inRows_sm (h:SM E ws c s b m w) (hc:c≤100000) (hu:b.used+m.text.size≤9223372036854775807) (hw:b.wait.size+m.text.size≤9223372036854775807):Calls Tryz.prog 71 #[.pointer (some ⟨E.bb,0,none⟩),.pointer (some ⟨E.mb,0,none⟩)] w fun r w'=>r= .returned (.bool (b.inRows m).2.2)∧SM E ws (c+1) s (b.inRows m).1 (b.inRows m).2.1 w':=by
 have H:=Lib.hid h
 obtain⟨c0,c1,c2, -, -⟩:=H.out.sx.mc
 obtain⟨-,d1, -,d3, -, -, -, -, -, -, -⟩:=H.out.sx.bc
 have f3:=H.out.sx.bf 3 (by omega)
 have hne: ¬E.mb=E.bb:=fun e=>H.out.sx.mo.ne e.symm
 have hne2: ¬E.bb=E.mb:=H.out.sx.mo.ne
 clear h
 go_enter Tryz.func71,Tryz.ntmps71
 go_wp2_with ((first
  |(go_at_call 104;go_must (refine' tB (start_sm ?h ?_) ?_))
  |(go_at_call 103;go_must (refine' tB (end_sm ?h ?_) ?_))
  |(go_at_call 114;go_must (refine' (clear_sm ?h ?_).mono ?_))
  |(go_at_call 105;go_must (first|with_reducible refine' (insert0_sm ?h _ ?n).mono ?_|with_reducible refine' (insertm_sm ?h _ ?n ?r).mono ?_))
  |(go_at_call 116;go_must (refine' tB (has_sm ?h ?_) ?_))
  |(go_at_call 59;go_must (refine' (pop_sm ?h).mono ?_))
  |(go_at_call 68;go_must (refine' tB (inTable_sm ?h hc hu hw) ?_)));go_must ((case h=>with_reducible first|exact H.out|exact H.out.text _ (by assumption)|exact(H.out.text _ (by assumption)).mode _|exact H.out.mode _|exact H.out.head _|exact H.out.skip _|exact H.out.wait _|exact(H.out.mode _).back _|exact H.out.mname _ (by decide));(try case n=>first|decide|exact H.out.sx.mo.nlen);(try case r=>rfl);any_goals first|(rintro e w1 ⟨rfl,h1⟩;(try simp only[namesOf_mk,strOf,List.map_cons,List.map_nil,BuD.ends]at h1);clear c0 c1 c2 d1 d3 f3;replace H:=Lib.hid h1;clear h1;obtain⟨c0,c1,c2, -, -⟩:=H.out.sx.mc;obtain⟨-,d1, -,d3, -, -, -, -, -, -, -⟩:=H.out.sx.bc;have f3:=H.out.sx.bf 3 (by omega))|(intro t ht w1 h1;(try simp only[namesOf_mk,strOf,List.map_cons,List.map_nil,BuD.ends]at ht h1);cases t <;>((try simp only[ht,reduceIte,Bool.false_eq_true]at h1);clear c0 c1 c2 d1 d3 f3;replace H:=Lib.hid h1;clear h1;obtain⟨c0,c1,c2, -, -⟩:=H.out.sx.mc;obtain⟨-,d1, -,d3, -, -, -, -, -, -, -⟩:=H.out.sx.bc;have f3:=H.out.sx.bf 3 (by omega)))|exact⟨by first|with_reducible rfl|simp[World.setCell],by rfl,by rfl,by first|decide|simp[namesOf]⟩|omega|fail))
 all_goals try (
  (first|go_ret|refine bodyPost_ret (results_none rfl _ _ _) rfl ?_)
  have hv:=BuD.inRows.eq_1 b m
  simp only[*,bools,if_true,if_false,reduceIte,beq_self_eq_true,Int.reduceBEq]at hv
  rw[hv]
  refine⟨by first|rfl|(rw[ht];rfl),?_⟩
  exact SM.more (by first|(with_reducible first|exact H.out|exact H.out.mode _|exact H.out.skip _|exact H.out.head _|exact(H.out.mode _).back _|exact(H.out.wait _)|exact H.out.drew.wait _|exact(H.out.wait _).drew|exact H.out.text _ (by assumption)|exact(H.out.text _ (by assumption)).mode _|exact(H.out.mode _).head _|exact(H.out.head _))|exact H.out|exact H.out.mode _|exact H.out.skip _) (by omega) (by omega))
 all_goals try (
  have HE:Hid (Calls Tryz.prog 116 #[.pointer (some ⟨E.sb,0,none⟩),.int .i64 3,.slice (some ⟨w1.heap.size,0,none⟩) 1 1] (w1.alloc (.cells #[.string m.name] 9)).drew fun r w'=>r= .returned (.bool (b.has 3 [m.name]))∧SM E ws c s b m w'):=Lib.hid (by
   have h0:=has_sm (scope:=3) (cur:= #[.string m.name]) (e:=9) (n:=1) (ca:=1) H.out.drew ⟨rfl,by rfl,by rfl,by simp[namesOf]⟩
   exact h0)
  have g1:(w1.alloc (.cells #[.string m.name] 9)).cell? ⟨E.mb,1,none⟩=some (.string m.name):=(H.out.alloc _).sx.mc.2.1
  have g2:(w1.alloc (.cells #[.string m.name] 9)).cell? ⟨E.bb,1,none⟩=some (.pointer (some ⟨E.sb,0,none⟩)):=(H.out.alloc _).sx.bc.2.1
  generalize hht:b.has 3 [m.name]=tt at HE
  go_region_law (first
   |(go_simp;go_at_call 116;refine HE.out.mono ?_
     rintro e w2 ⟨rfl,h1⟩
     (clear c0 c1 c2 d1 d3 f3;replace H:=Lib.hid h1;clear h1;obtain⟨c0,c1,c2, -, -⟩:=H.out.sx.mc;obtain⟨-,d1, -,d3, -, -, -, -, -, -, -⟩:=H.out.sx.bc;have f3:=H.out.sx.bf 3 (by omega))))
  all_goals
   clear HE g1 g2
   try simp only[Act.put,List.getElem_toArray,List.getElem_cons_succ,List.getElem_cons_zero,List.setIfInBounds_toArray,List.set_cons_zero,List.set_cons_succ]
   cases tt
   all_goals
    go_wp2_with ((first
     |(go_at_call 104;go_must (refine' tB (start_sm ?h ?_) ?_))
     |(go_at_call 103;go_must (refine' tB (end_sm ?h ?_) ?_))
     |(go_at_call 114;go_must (refine' (clear_sm ?h ?_).mono ?_))
     |(go_at_call 105;go_must (first|with_reducible refine' (insert0_sm ?h _ ?n).mono ?_|with_reducible refine' (insertm_sm ?h _ ?n ?r).mono ?_))
     |(go_at_call 116;go_must (refine' tB (has_sm ?h ?_) ?_))
     |(go_at_call 59;go_must (refine' (pop_sm ?h).mono ?_))
     |(go_at_call 68;go_must (refine' tB (inTable_sm ?h hc hu hw) ?_)));go_must ((case h=>with_reducible first|exact H.out|exact H.out.text _ (by assumption)|exact(H.out.text _ (by assumption)).mode _|exact H.out.mode _|exact H.out.head _|exact H.out.skip _|exact H.out.wait _|exact(H.out.mode _).back _|exact H.out.mname _ (by decide));(try case n=>first|decide|exact H.out.sx.mo.nlen);(try case r=>rfl);any_goals first|(rintro e w1 ⟨rfl,h1⟩;(try simp only[namesOf_mk,strOf,List.map_cons,List.map_nil,BuD.ends]at h1);clear c0 c1 c2 d1 d3 f3;replace H:=Lib.hid h1;clear h1;obtain⟨c0,c1,c2, -, -⟩:=H.out.sx.mc;obtain⟨-,d1, -,d3, -, -, -, -, -, -, -⟩:=H.out.sx.bc;have f3:=H.out.sx.bf 3 (by omega))|(intro t ht w1 h1;(try simp only[namesOf_mk,strOf,List.map_cons,List.map_nil,BuD.ends]at ht h1);cases t <;>((try simp only[ht,reduceIte,Bool.false_eq_true]at h1);clear c0 c1 c2 d1 d3 f3;replace H:=Lib.hid h1;clear h1;obtain⟨c0,c1,c2, -, -⟩:=H.out.sx.mc;obtain⟨-,d1, -,d3, -, -, -, -, -, -, -⟩:=H.out.sx.bc;have f3:=H.out.sx.bf 3 (by omega)))|exact⟨by first|with_reducible rfl|simp[World.setCell],by rfl,by rfl,by first|decide|simp[namesOf]⟩|omega|fail))
    all_goals
     (first|go_ret|refine bodyPost_ret (results_none rfl _ _ _) rfl ?_)
     have hv:=BuD.inRows.eq_1 b m
     simp only[*,bools,if_true,if_false,reduceIte,beq_self_eq_true,Int.reduceBEq]at hv
     rw[hv]
     refine⟨by first|rfl|(rw[ht];rfl),?_⟩
     exact SM.more (by first|(with_reducible first|exact H.out|exact H.out.mode _|exact H.out.skip _|exact H.out.head _|exact(H.out.mode _).back _|exact(H.out.wait _)|exact H.out.drew.wait _|exact(H.out.wait _).drew|exact H.out.text _ (by assumption)|exact(H.out.text _ (by assumption)).mode _|exact(H.out.mode _).head _|exact(H.out.head _))|exact H.out|exact H.out.mode _|exact H.out.skip _) (by omega) (by omega))
end
end
end Go.Proofs.YtpnagbgpbajfeaaGreatDoor
