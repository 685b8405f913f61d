/- Texts joined for a claim: CuTb, CuTc, CuTd, CuTe: plain laws and contracts. No conditions beyond those that each lemma types. -/
import Derived.Test.YtgepobccoffnaaaGreatDoorT23
set_option linter.unusedVariables false
set_option linter.unusedSimpArgs false
set_option maxRecDepth 100000
set_option maxHeartbeats 8000000
namespace Go.Proofs.YtgepobccoffnaaaGreatDoor
open Go.RowKit Mem
section
section
variable {E:BE} {ws w w':World} {c:Nat} {s:Int} {b b':BuD} {m m':BMark}
theorem inTable_sm (h:SM E ws c s b m w) (hc:c≤100000) (hu:b.used+m.text.size≤9223372036854775807) (hw:b.wait.size+m.text.size≤9223372036854775807):Calls Tryz.prog 73 #[.pointer (some ⟨E.bb,0,none⟩),.pointer (some ⟨E.mb,0,none⟩)] w fun r w'=>r= .returned (.bool (b.inTable m).2.2)∧SM E ws (c+1) s (b.inTable m).1 (b.inTable m).2.1 w':=by
 have H:=Lib.hid h
 obtain⟨c0,c1,c2, -,c4⟩:=H.out.sx.mc
 obtain⟨-,d1,d2,d3, -, -,d6, -, -, -, -⟩:=H.out.sx.bc
 have f3:=H.out.sx.bf 3 (by omega)
 have f6:=H.out.sx.bf 6 (by omega)
 have hne: ¬E.mb=E.bb:=fun e=>H.out.sx.mo.ne e.symm
 have hne2: ¬E.bb=E.mb:=H.out.sx.mo.ne
 have hnw: ¬9223372036854775807<b.wait.size+m.text.size:=by omega
 clear h
 go_enter Tryz.func73,Tryz.ntmps73
 go_wp2_with ((first
  |(go_at_call 118;go_must (refine' tB (at_sm ?h ?_) ?_))
  |(go_at_call 109;go_must (refine' tB (start_sm ?h ?_) ?_))
  |(go_at_call 108;go_must (refine' tB (end_sm ?h ?_) ?_))
  |(go_at_call 119;go_must (refine' (clear_sm ?h ?_).mono ?_))
  |(go_at_call 120;go_must (refine' (lmark_sm ?h ?_).mono ?_))
  |(go_at_call 110;go_must (first|with_reducible refine' (insert0_sm ?h _ ?n).mono ?_|with_reducible refine' (insertm_sm ?h _ ?n ?r).mono ?_))
  |(go_at_call 121;go_must (refine' tB (has_sm ?h ?_) ?_))
  |(go_at_call 122;go_must (refine' (until_sm ?h ?_).mono ?_))
  |(go_at_call 123;go_must (refine' (reset_sm ?h).mono ?_))
  |(go_at_call 112;go_must (refine' tB (heads_sm ?h) ?_))
  |(go_at_call 61;go_must (refine' tB (astray_sm ?h hc hu) ?_)));go_must ((case h=>with_reducible first|exact H.out|exact H.out.text _ (by assumption)|exact(H.out.text _ (by assumption)).mode _|exact H.out.mode _|exact H.out.head _|exact H.out.skip _|exact H.out.wait _|exact(H.out.mode _).back _|exact H.out.mname _ (by decide));(try case n=>first|decide|exact H.out.sx.mo.nlen);(try case r=>rfl);any_goals first|(rintro e w1 ⟨rfl,h1⟩;(try simp only[namesOf_mk,strOf,List.map_cons,List.map_nil,BuD.ends]at h1);clear c0 c1 c2 c4 d1 d2 d3 d6 f3 f6;replace H:=Lib.hid h1;clear h1;obtain⟨c0,c1,c2, -,c4⟩:=H.out.sx.mc;obtain⟨-,d1,d2,d3, -, -,d6, -, -, -, -⟩:=H.out.sx.bc;have f3:=H.out.sx.bf 3 (by omega);have f6:=H.out.sx.bf 6 (by omega))|(intro t ht w1 h1;(try simp only[namesOf_mk,strOf,List.map_cons,List.map_nil,BuD.ends]at ht h1);cases t <;>((try simp only[ht,reduceIte,Bool.false_eq_true]at h1);clear c0 c1 c2 c4 d1 d2 d3 d6 f3 f6;replace H:=Lib.hid h1;clear h1;obtain⟨c0,c1,c2, -,c4⟩:=H.out.sx.mc;obtain⟨-,d1,d2,d3, -, -,d6, -, -, -, -⟩:=H.out.sx.bc;have f3:=H.out.sx.bf 3 (by omega);have f6:=H.out.sx.bf 6 (by omega)))|exact⟨by first|with_reducible rfl|simp[World.setCell],by rfl,by rfl,by first|decide|simp[namesOf]⟩|omega|fail))
 all_goals try (exfalso;have q:=eq_of_beq (by assumption:(m.kind==1)=true);omega)
 all_goals try (exfalso;have q:=eq_of_beq (by assumption:(m.kind==2)=true);omega)
 all_goals try (exfalso;have q:=eq_of_beq (by assumption:(m.kind==3)=true);omega)
 all_goals try (exfalso;have q:=eq_of_beq (by assumption:(m.kind==6)=true);omega)
 all_goals try (
  try have e01:(m.kind==1)=true:=beq_iff_eq.2 (by assumption)
  try have e01:(m.kind==1)=false:=beq_eq_false_iff_ne.2 (by assumption)
  try have e02:(m.kind==2)=true:=beq_iff_eq.2 (by assumption)
  try have e02:(m.kind==2)=false:=beq_eq_false_iff_ne.2 (by assumption)
  try have e03:(m.kind==3)=true:=beq_iff_eq.2 (by assumption)
  try have e03:(m.kind==3)=false:=beq_eq_false_iff_ne.2 (by assumption)
  try have e06:(m.kind==6)=true:=beq_iff_eq.2 (by assumption)
  try have e06:(m.kind==6)=false:=beq_eq_false_iff_ne.2 (by assumption)
  (first|go_ret|refine bodyPost_ret (results_none rfl _ _ _) rfl ?_)
  have hv:=BuD.inTable.eq_1 b m
  simp only[*,bools,if_true,if_false,reduceIte,beq_self_eq_true,Int.reduceBEq]at hv
  rw[hv]
  refine⟨by first|rfl|(rw[ht];rfl),?_⟩
  exact SM.more (by first|(with_reducible first|exact H.out|exact H.out.mode _|exact H.out.skip _|exact H.out.head _|exact(H.out.mode _).back _|exact(H.out.wait _)|exact H.out.drew.wait _|exact(H.out.wait _).drew|exact H.out.text _ (by assumption)|exact(H.out.text _ (by assumption)).mode _|exact(H.out.mode _).head _|exact(H.out.head _))|exact H.out|exact H.out.mode _|exact H.out.skip _) (by omega) (by omega))
 all_goals try (
  have HI:=Lib.hid (insertm_sm H.out.drew m.name H.out.sx.mo.nlen rfl)
  go_region_law (first
   |(go_simp;go_at_call 110;refine HI.out.mono ?_
     rintro e w2 ⟨rfl,h1⟩
     (clear c0 c1 c2 c4 d1 d2 d3 d6 f3 f6;replace H:=Lib.hid h1;clear h1;obtain⟨c0,c1,c2, -,c4⟩:=H.out.sx.mc;obtain⟨-,d1,d2,d3, -, -,d6, -, -, -, -⟩:=H.out.sx.bc;have f3:=H.out.sx.bf 3 (by omega);have f6:=H.out.sx.bf 6 (by omega))))
  all_goals
   clear HI
   try simp only[Act.put,List.getElem_toArray,List.getElem_cons_succ,List.getElem_cons_zero,List.setIfInBounds_toArray,List.set_cons_zero,List.set_cons_succ]
   go_wp2_with ((first
    |(go_at_call 118;go_must (refine' tB (at_sm ?h ?_) ?_))
    |(go_at_call 109;go_must (refine' tB (start_sm ?h ?_) ?_))
    |(go_at_call 108;go_must (refine' tB (end_sm ?h ?_) ?_))
    |(go_at_call 119;go_must (refine' (clear_sm ?h ?_).mono ?_))
    |(go_at_call 120;go_must (refine' (lmark_sm ?h ?_).mono ?_))
    |(go_at_call 110;go_must (first|with_reducible refine' (insert0_sm ?h _ ?n).mono ?_|with_reducible refine' (insertm_sm ?h _ ?n ?r).mono ?_))
    |(go_at_call 121;go_must (refine' tB (has_sm ?h ?_) ?_))
    |(go_at_call 122;go_must (refine' (until_sm ?h ?_).mono ?_))
    |(go_at_call 123;go_must (refine' (reset_sm ?h).mono ?_))
    |(go_at_call 112;go_must (refine' tB (heads_sm ?h) ?_))
    |(go_at_call 61;go_must (refine' tB (astray_sm ?h hc hu) ?_)));go_must ((case h=>with_reducible first|exact H.out|exact H.out.text _ (by assumption)|exact(H.out.text _ (by assumption)).mode _|exact H.out.mode _|exact H.out.head _|exact H.out.skip _|exact H.out.wait _|exact(H.out.mode _).back _|exact H.out.mname _ (by decide));(try case n=>first|decide|exact H.out.sx.mo.nlen);(try case r=>rfl);any_goals first|(rintro e w1 ⟨rfl,h1⟩;(try simp only[namesOf_mk,strOf,List.map_cons,List.map_nil,BuD.ends]at h1);clear c0 c1 c2 c4 d1 d2 d3 d6 f3 f6;replace H:=Lib.hid h1;clear h1;obtain⟨c0,c1,c2, -,c4⟩:=H.out.sx.mc;obtain⟨-,d1,d2,d3, -, -,d6, -, -, -, -⟩:=H.out.sx.bc;have f3:=H.out.sx.bf 3 (by omega);have f6:=H.out.sx.bf 6 (by omega))|(intro t ht w1 h1;(try simp only[namesOf_mk,strOf,List.map_cons,List.map_nil,BuD.ends]at ht h1);cases t <;>((try simp only[ht,reduceIte,Bool.false_eq_true]at h1);clear c0 c1 c2 c4 d1 d2 d3 d6 f3 f6;replace H:=Lib.hid h1;clear h1;obtain⟨c0,c1,c2, -,c4⟩:=H.out.sx.mc;obtain⟨-,d1,d2,d3, -, -,d6, -, -, -, -⟩:=H.out.sx.bc;have f3:=H.out.sx.bf 3 (by omega);have f6:=H.out.sx.bf 6 (by omega)))|exact⟨by first|with_reducible rfl|simp[World.setCell],by rfl,by rfl,by first|decide|simp[namesOf]⟩|omega|fail))
  all_goals
   try have e01:(m.kind==1)=true:=beq_iff_eq.2 (by assumption)
   try have e01:(m.kind==1)=false:=beq_eq_false_iff_ne.2 (by assumption)
   try have e02:(m.kind==2)=true:=beq_iff_eq.2 (by assumption)
   try have e02:(m.kind==2)=false:=beq_eq_false_iff_ne.2 (by assumption)
   try have e03:(m.kind==3)=true:=beq_iff_eq.2 (by assumption)
   try have e03:(m.kind==3)=false:=beq_eq_false_iff_ne.2 (by assumption)
   try have e06:(m.kind==6)=true:=beq_iff_eq.2 (by assumption)
   try have e06:(m.kind==6)=false:=beq_eq_false_iff_ne.2 (by assumption)
   (first|go_ret|refine bodyPost_ret (results_none rfl _ _ _) rfl ?_)
   have hv:=BuD.inTable.eq_1 b m
   simp only[*,bools,if_true,if_false,reduceIte,beq_self_eq_true,Int.reduceBEq]at hv
   rw[hv]
   refine⟨by first|rfl|(rw[ht];rfl),?_⟩
   exact SM.more (by first|(with_reducible first|exact H.out|exact H.out.mode _|exact H.out.skip _|exact H.out.head _|exact(H.out.mode _).back _|exact(H.out.wait _)|exact H.out.drew.wait _|exact(H.out.wait _).drew|exact H.out.text _ (by assumption)|exact(H.out.text _ (by assumption)).mode _|exact(H.out.mode _).head _|exact(H.out.head _))|exact H.out|exact H.out.mode _|exact H.out.skip _) (by omega) (by omega))
end
end
section
section
variable {E:BE} {ws w w':World} {c:Nat} {s:Int} {b b':BuD} {m m':BMark}
theorem inRows_sm (h:SM E ws c s b m w) (hc:c≤100000) (hu:b.used+m.text.size≤9223372036854775807) (hw:b.wait.size+m.text.size≤9223372036854775807):Calls Tryz.prog 76 #[.pointer (some ⟨E.bb,0,none⟩),.pointer (some ⟨E.mb,0,none⟩)] w fun r w'=>r= .returned (.bool (b.inRows m).2.2)∧SM E ws (c+1) s (b.inRows m).1 (b.inRows m).2.1 w':=by
 have H:=Lib.hid h
 obtain⟨c0,c1,c2, -, -⟩:=H.out.sx.mc
 obtain⟨-,d1, -,d3, -, -, -, -, -, -, -⟩:=H.out.sx.bc
 have f3:=H.out.sx.bf 3 (by omega)
 have hne: ¬E.mb=E.bb:=fun e=>H.out.sx.mo.ne e.symm
 have hne2: ¬E.bb=E.mb:=H.out.sx.mo.ne
 clear h
 go_enter Tryz.func76,Tryz.ntmps76
 go_wp2_with ((first
  |(go_at_call 109;go_must (refine' tB (start_sm ?h ?_) ?_))
  |(go_at_call 108;go_must (refine' tB (end_sm ?h ?_) ?_))
  |(go_at_call 119;go_must (refine' (clear_sm ?h ?_).mono ?_))
  |(go_at_call 110;go_must (first|with_reducible refine' (insert0_sm ?h _ ?n).mono ?_|with_reducible refine' (insertm_sm ?h _ ?n ?r).mono ?_))
  |(go_at_call 121;go_must (refine' tB (has_sm ?h ?_) ?_))
  |(go_at_call 64;go_must (refine' (pop_sm ?h).mono ?_))
  |(go_at_call 73;go_must (refine' tB (inTable_sm ?h hc hu hw) ?_)));go_must ((case h=>with_reducible first|exact H.out|exact H.out.text _ (by assumption)|exact(H.out.text _ (by assumption)).mode _|exact H.out.mode _|exact H.out.head _|exact H.out.skip _|exact H.out.wait _|exact(H.out.mode _).back _|exact H.out.mname _ (by decide));(try case n=>first|decide|exact H.out.sx.mo.nlen);(try case r=>rfl);any_goals first|(rintro e w1 ⟨rfl,h1⟩;(try simp only[namesOf_mk,strOf,List.map_cons,List.map_nil,BuD.ends]at h1);clear c0 c1 c2 d1 d3 f3;replace H:=Lib.hid h1;clear h1;obtain⟨c0,c1,c2, -, -⟩:=H.out.sx.mc;obtain⟨-,d1, -,d3, -, -, -, -, -, -, -⟩:=H.out.sx.bc;have f3:=H.out.sx.bf 3 (by omega))|(intro t ht w1 h1;(try simp only[namesOf_mk,strOf,List.map_cons,List.map_nil,BuD.ends]at ht h1);cases t <;>((try simp only[ht,reduceIte,Bool.false_eq_true]at h1);clear c0 c1 c2 d1 d3 f3;replace H:=Lib.hid h1;clear h1;obtain⟨c0,c1,c2, -, -⟩:=H.out.sx.mc;obtain⟨-,d1, -,d3, -, -, -, -, -, -, -⟩:=H.out.sx.bc;have f3:=H.out.sx.bf 3 (by omega)))|exact⟨by first|with_reducible rfl|simp[World.setCell],by rfl,by rfl,by first|decide|simp[namesOf]⟩|omega|fail))
 all_goals try (
  (first|go_ret|refine bodyPost_ret (results_none rfl _ _ _) rfl ?_)
  have hv:=BuD.inRows.eq_1 b m
  simp only[*,bools,if_true,if_false,reduceIte,beq_self_eq_true,Int.reduceBEq]at hv
  rw[hv]
  refine⟨by first|rfl|(rw[ht];rfl),?_⟩
  exact SM.more (by first|(with_reducible first|exact H.out|exact H.out.mode _|exact H.out.skip _|exact H.out.head _|exact(H.out.mode _).back _|exact(H.out.wait _)|exact H.out.drew.wait _|exact(H.out.wait _).drew|exact H.out.text _ (by assumption)|exact(H.out.text _ (by assumption)).mode _|exact(H.out.mode _).head _|exact(H.out.head _))|exact H.out|exact H.out.mode _|exact H.out.skip _) (by omega) (by omega))
 all_goals try (
  have HE:Hid (Calls Tryz.prog 121 #[.pointer (some ⟨E.sb,0,none⟩),.int .i64 3,.slice (some ⟨w1.heap.size,0,none⟩) 1 1] (w1.alloc (.cells #[.string m.name] 9)).drew fun r w'=>r= .returned (.bool (b.has 3 [m.name]))∧SM E ws c s b m w'):=Lib.hid (by
   have h0:=has_sm (scope:=3) (cur:= #[.string m.name]) (e:=9) (n:=1) (ca:=1) H.out.drew ⟨rfl,by rfl,by rfl,by simp[namesOf]⟩
   exact h0)
  have g1:(w1.alloc (.cells #[.string m.name] 9)).cell? ⟨E.mb,1,none⟩=some (.string m.name):=(H.out.alloc _).sx.mc.2.1
  have g2:(w1.alloc (.cells #[.string m.name] 9)).cell? ⟨E.bb,1,none⟩=some (.pointer (some ⟨E.sb,0,none⟩)):=(H.out.alloc _).sx.bc.2.1
  generalize hht:b.has 3 [m.name]=tt at HE
  go_region_law (first
   |(go_simp;go_at_call 121;refine HE.out.mono ?_
     rintro e w2 ⟨rfl,h1⟩
     (clear c0 c1 c2 d1 d3 f3;replace H:=Lib.hid h1;clear h1;obtain⟨c0,c1,c2, -, -⟩:=H.out.sx.mc;obtain⟨-,d1, -,d3, -, -, -, -, -, -, -⟩:=H.out.sx.bc;have f3:=H.out.sx.bf 3 (by omega))))
  all_goals
   clear HE g1 g2
   try simp only[Act.put,List.getElem_toArray,List.getElem_cons_succ,List.getElem_cons_zero,List.setIfInBounds_toArray,List.set_cons_zero,List.set_cons_succ]
   cases tt
   all_goals
    go_wp2_with ((first
     |(go_at_call 109;go_must (refine' tB (start_sm ?h ?_) ?_))
     |(go_at_call 108;go_must (refine' tB (end_sm ?h ?_) ?_))
     |(go_at_call 119;go_must (refine' (clear_sm ?h ?_).mono ?_))
     |(go_at_call 110;go_must (first|with_reducible refine' (insert0_sm ?h _ ?n).mono ?_|with_reducible refine' (insertm_sm ?h _ ?n ?r).mono ?_))
     |(go_at_call 121;go_must (refine' tB (has_sm ?h ?_) ?_))
     |(go_at_call 64;go_must (refine' (pop_sm ?h).mono ?_))
     |(go_at_call 73;go_must (refine' tB (inTable_sm ?h hc hu hw) ?_)));go_must ((case h=>with_reducible first|exact H.out|exact H.out.text _ (by assumption)|exact(H.out.text _ (by assumption)).mode _|exact H.out.mode _|exact H.out.head _|exact H.out.skip _|exact H.out.wait _|exact(H.out.mode _).back _|exact H.out.mname _ (by decide));(try case n=>first|decide|exact H.out.sx.mo.nlen);(try case r=>rfl);any_goals first|(rintro e w1 ⟨rfl,h1⟩;(try simp only[namesOf_mk,strOf,List.map_cons,List.map_nil,BuD.ends]at h1);clear c0 c1 c2 d1 d3 f3;replace H:=Lib.hid h1;clear h1;obtain⟨c0,c1,c2, -, -⟩:=H.out.sx.mc;obtain⟨-,d1, -,d3, -, -, -, -, -, -, -⟩:=H.out.sx.bc;have f3:=H.out.sx.bf 3 (by omega))|(intro t ht w1 h1;(try simp only[namesOf_mk,strOf,List.map_cons,List.map_nil,BuD.ends]at ht h1);cases t <;>((try simp only[ht,reduceIte,Bool.false_eq_true]at h1);clear c0 c1 c2 d1 d3 f3;replace H:=Lib.hid h1;clear h1;obtain⟨c0,c1,c2, -, -⟩:=H.out.sx.mc;obtain⟨-,d1, -,d3, -, -, -, -, -, -, -⟩:=H.out.sx.bc;have f3:=H.out.sx.bf 3 (by omega)))|exact⟨by first|with_reducible rfl|simp[World.setCell],by rfl,by rfl,by first|decide|simp[namesOf]⟩|omega|fail))
    all_goals
     (first|go_ret|refine bodyPost_ret (results_none rfl _ _ _) rfl ?_)
     have hv:=BuD.inRows.eq_1 b m
     simp only[*,bools,if_true,if_false,reduceIte,beq_self_eq_true,Int.reduceBEq]at hv
     rw[hv]
     refine⟨by first|rfl|(rw[ht];rfl),?_⟩
     exact SM.more (by first|(with_reducible first|exact H.out|exact H.out.mode _|exact H.out.skip _|exact H.out.head _|exact(H.out.mode _).back _|exact(H.out.wait _)|exact H.out.drew.wait _|exact(H.out.wait _).drew|exact H.out.text _ (by assumption)|exact(H.out.text _ (by assumption)).mode _|exact(H.out.mode _).head _|exact(H.out.head _))|exact H.out|exact H.out.mode _|exact H.out.skip _) (by omega) (by omega))
end
end
section
section
variable {E:BE} {ws w w':World} {c:Nat} {s:Int} {b b':BuD} {m m':BMark}
theorem wpAny_take2 {P:Program} {md:Region.Mode} {ops:Array Oper} {Q:Exit→Act→World→Prop} {i:Nat} {oi:Oper} {d:Option Nat} {v:Value} {fuel:Nat} {listed:Array Bool} {a:Act} {w:World} (hi:ops[i]?=some oi) (hd:oi.dst=d)
 (hs:Region.noSelect ops=true) (hf:Region.free md ops listed i=true) (hr:(Region.ready md ops listed).contains i=true)
 (hQ: ∀c a w,Q (.panic c) (a.put oi.dst v) w→Q (.panic c) a w) (hy:Yields P ops oi v a)
 (h:wpAny P md ops Q fuel (listed.setIfInBounds i true) (a.put d v) w):wpAny P md ops Q (fuel+1) listed a w :=
 wpAny_take hi hs hf hr hQ hy (hd▸h)
theorem wpAny_skip {P:Program} {md:Region.Mode} {ops:Array Oper} {Q:Exit→Act→World→Prop} {i:Nat} {oi:Oper} {fuel:Nat} {listed:Array Bool} {a:Act} {w:World} (hi:ops[i]?=some oi)
 (hs:Region.noSelect ops=true) (hf:Region.free md ops listed i=true) (hr:(Region.ready md ops listed).contains i=true)
 (hQ: ∀c a w,Q (.panic c) (a.put oi.dst undef) w→Q (.panic c) a w) (hy:Region.wanted oi (yielded ops a.tmps)=false) (hp:a.put oi.dst undef=a)
 (h:wpAny P md ops Q fuel (listed.setIfInBounds i true) a w):wpAny P md ops Q (fuel+1) listed a w :=
 wpAny_take hi hs hf hr hQ (Or.inr ⟨hy,rfl⟩) (hp.symm▸h)
theorem inRow_sm (h:SM E ws c s b m w) (hc:c≤100000) (hu:b.used+m.text.size≤9223372036854775807) (hw:b.wait.size+m.text.size≤9223372036854775807):Calls Tryz.prog 77 #[.pointer (some ⟨E.bb,0,none⟩),.pointer (some ⟨E.mb,0,none⟩)] w fun r w'=>r= .returned (.bool (b.inRow m).2.2)∧SM E ws (c+1) s (b.inRow m).1 (b.inRow m).2.1 w':=by
 have H:=Lib.hid h
 obtain⟨c0,c1,c2, -, -⟩:=H.out.sx.mc
 obtain⟨-,d1,d2,d3, -, -, -, -, -, -, -⟩:=H.out.sx.bc
 have f3:=H.out.sx.bf 3 (by omega)
 have hne: ¬E.mb=E.bb:=fun e=>H.out.sx.mo.ne e.symm
 have hne2: ¬E.bb=E.mb:=H.out.sx.mo.ne
 clear h
 go_enter Tryz.func77,Tryz.ntmps77
 go_wp2_with ((first
  |(go_at_call 109;go_must (refine' tB (start_sm ?h ?_) ?_))
  |(go_at_call 108;go_must (refine' tB (end_sm ?h ?_) ?_))
  |(go_at_call 124;go_must (refine' tB (rowed_sm ?h) ?_))
  |(go_at_call 119;go_must (refine' (clear_sm ?h ?_).mono ?_))
  |(go_at_call 110;go_must (first|with_reducible refine' (insert0_sm ?h _ ?n).mono ?_|with_reducible refine' (insertm_sm ?h _ ?n ?r).mono ?_))
  |(go_at_call 121;go_must (refine' tB (has_sm ?h ?_) ?_))
  |(go_at_call 64;go_must (refine' (pop_sm ?h).mono ?_))
  |(go_at_call 120;go_must (refine' (lmark_sm ?h ?_).mono ?_))
  |(go_at_call 73;go_must (refine' tB (inTable_sm ?h hc hu hw) ?_)));go_must ((case h=>with_reducible first|exact H.out|exact H.out.text _ (by assumption)|exact(H.out.text _ (by assumption)).mode _|exact H.out.mode _|exact H.out.head _|exact H.out.skip _|exact H.out.wait _|exact(H.out.mode _).back _|exact H.out.mname _ (by decide));(try case n=>first|decide|exact H.out.sx.mo.nlen);(try case r=>rfl);any_goals first|(rintro e w1 ⟨rfl,h1⟩;(try simp only[namesOf_mk,strOf,List.map_cons,List.map_nil,BuD.ends]at h1);clear c0 c1 c2 d1 d2 d3 f3;replace H:=Lib.hid h1;clear h1;obtain⟨c0,c1,c2, -, -⟩:=H.out.sx.mc;obtain⟨-,d1,d2,d3, -, -, -, -, -, -, -⟩:=H.out.sx.bc;have f3:=H.out.sx.bf 3 (by omega))|(intro t ht w1 h1;(try simp only[namesOf_mk,strOf,List.map_cons,List.map_nil,BuD.ends]at ht h1);cases t <;>((try simp only[ht,reduceIte,Bool.false_eq_true]at h1);clear c0 c1 c2 d1 d2 d3 f3;replace H:=Lib.hid h1;clear h1;obtain⟨c0,c1,c2, -, -⟩:=H.out.sx.mc;obtain⟨-,d1,d2,d3, -, -, -, -, -, -, -⟩:=H.out.sx.bc;have f3:=H.out.sx.bf 3 (by omega)))|exact⟨by first|with_reducible rfl|simp[World.setCell],by rfl,by rfl,by first|decide|simp[namesOf]⟩|omega|fail))
 case _=>(
  have HEn:Hid (Calls Tryz.prog 108 #[.pointer (some ⟨E.mb,0,none⟩),.slice (some ⟨w1.heap.size,0,none⟩) 3 3] (w1.alloc (.cells #[.string (⟨#[116,98,111,100,121]⟩:ByteArray),.string (⟨#[116,102,111,111,116]⟩:ByteArray),.string (⟨#[116,104,101,97,100]⟩:ByteArray)] 9)).drew fun r w'=>r= .returned (.bool (endF m [⟨#[116,98,111,100,121]⟩,⟨#[116,102,111,111,116]⟩,⟨#[116,104,101,97,100]⟩]))∧w'.cell? ⟨E.bb,1,none⟩=some (.pointer (some ⟨E.sb,0,none⟩))∧w'.cell? ⟨E.mb,1,none⟩=some (.string m.name)∧Hid (SM E ws c s b m w')):=Lib.hid (by
   have h0:=end_sm (cur:= #[.string (⟨#[116,98,111,100,121]⟩:ByteArray),.string (⟨#[116,102,111,111,116]⟩:ByteArray),.string (⟨#[116,104,101,97,100]⟩:ByteArray)]) (e:=9) (n:=3) (ca:=3) H.out.drew ⟨rfl,by rfl,by rfl,by decide⟩
   exact h0.mono fun r w' h=>⟨h.1,h.2.sx.bc.2.1,h.2.sx.mc.2.1,Lib.hid h.2⟩)
  have HS1:Hid ((w1.alloc (.cells #[.string (⟨#[116,98,111,100,121]⟩:ByteArray),.string (⟨#[116,102,111,111,116]⟩:ByteArray),.string (⟨#[116,104,101,97,100]⟩:ByteArray)] 9)).drew.cell? ⟨E.bb,1,none⟩=some (.pointer (some ⟨E.sb,0,none⟩))∧(w1.alloc (.cells #[.string (⟨#[116,98,111,100,121]⟩:ByteArray),.string (⟨#[116,102,111,111,116]⟩:ByteArray),.string (⟨#[116,104,101,97,100]⟩:ByteArray)] 9)).drew.cell? ⟨E.mb,1,none⟩=some (.string m.name)∧Hid (SM E ws c s b m (w1.alloc (.cells #[.string (⟨#[116,98,111,100,121]⟩:ByteArray),.string (⟨#[116,102,111,111,116]⟩:ByteArray),.string (⟨#[116,104,101,97,100]⟩:ByteArray)] 9)).drew)):=Lib.hid ⟨(H.out.alloc _).drew.sx.bc.2.1,(H.out.alloc _).drew.sx.mc.2.1,Lib.hid (H.out.alloc _).drew⟩
  have HHs:Hid (∀u,u.cell? ⟨E.bb,1,none⟩=some (.pointer (some ⟨E.sb,0,none⟩))∧u.cell? ⟨E.mb,1,none⟩=some (.string m.name)∧Hid (SM E ws c s b m u)→Calls Tryz.prog 121 #[.pointer (some ⟨E.sb,0,none⟩),.int .i64 3,.slice (some ⟨u.heap.size,0,none⟩) 1 1] (u.alloc (.cells #[.string m.name] 9)) fun r w'=>r= .returned (.bool (b.has 3 [m.name]))∧w'.cell? ⟨E.bb,1,none⟩=some (.pointer (some ⟨E.sb,0,none⟩))∧w'.cell? ⟨E.mb,1,none⟩=some (.string m.name)∧Hid (SM E ws c s b m w')):=Lib.hid fun u hu=>by
   have h0:=has_sm (scope:=3) (cur:= #[.string m.name]) (e:=9) (n:=1) (ca:=1) hu.2.2.out ⟨rfl,by rfl,by rfl,by simp[namesOf]⟩
   exact h0.mono fun r w' h=>⟨h.1,h.2.sx.bc.2.1,h.2.sx.mc.2.1,Lib.hid h.2⟩
  have HKA:Hid (∀u o,u.cell? ⟨E.bb,1,none⟩=some (.pointer (some ⟨E.sb,0,none⟩))∧u.cell? ⟨E.mb,1,none⟩=some (.string m.name)∧Hid (SM E ws c s b m u)→(u.alloc o).cell? ⟨E.bb,1,none⟩=some (.pointer (some ⟨E.sb,0,none⟩))∧(u.alloc o).cell? ⟨E.mb,1,none⟩=some (.string m.name)∧Hid (SM E ws c s b m (u.alloc o))):=Lib.hid fun u o hu=>⟨(hu.2.2.out.alloc o).sx.bc.2.1,(hu.2.2.out.alloc o).sx.mc.2.1,Lib.hid (hu.2.2.out.alloc o)⟩
  have HS0:Hid (w1.drew.cell? ⟨E.bb,1,none⟩=some (.pointer (some ⟨E.sb,0,none⟩))∧w1.drew.cell? ⟨E.mb,1,none⟩=some (.string m.name)∧Hid (SM E ws c s b m w1.drew)):=Lib.hid ⟨H.out.drew.sx.bc.2.1,H.out.drew.sx.mc.2.1,Lib.hid H.out.drew⟩
  generalize hte:endF m [⟨#[116,98,111,100,121]⟩,⟨#[116,102,111,111,116]⟩,⟨#[116,104,101,97,100]⟩]=te at HEn
  generalize hht:b.has 3 [m.name]=tt at HHs
  cases te
  case' false =>
   clear HHs HKA HS0 HS1
   refine wp_region_any (by kernel_rfl) ?_
   (try change wpAny _ _ _ _ _ _ _ (World.drew _))
   refine wpAny_take2 (i:=0) (v:= .pointer (some ⟨E.mb,0,none⟩)) rfl rfl (by kernel_rfl) (by kernel_rfl) (by kernel_rfl) (fun _ _ _ h=>h) (Or.inl ⟨by rfl,fun w=>by go_simp⟩) ?_
   (try simp only[Act.put,List.setIfInBounds_toArray,List.set_cons_zero,List.set_cons_succ])
   refine wpAny_ready (rs:= [1]) (by kernel_rfl) (by simp) ?_
   refine AllReady.cons rfl (fun K hK=> ?_) AllReady.nil
   go_simp
   refine hK _ _ ?_
   clear hK K
   (try simp only[Act.put,List.setIfInBounds_toArray,List.set_cons_zero,List.set_cons_succ])
   refine wpAny_ready (rs:= [2]) (by kernel_rfl) (by simp) ?_
   refine AllReady.cons rfl (fun K hK=> ?_) AllReady.nil
   go_simp
   go_at_call 108
   refine HEn.out.mono ?_
   rintro e w2 ⟨rfl,t1,t2,h1⟩
   try go_simp
   refine hK _ _ ?_
   clear hK K
   (try simp only[Act.put,List.setIfInBounds_toArray,List.set_cons_zero,List.set_cons_succ])
   refine wpAny_take2 (i:=3) (v:= .bool false) rfl rfl (by kernel_rfl) (by kernel_rfl) (by kernel_rfl) (fun _ _ _ h=>h) (Or.inl ⟨by rfl,fun w=>by go_simp⟩) ?_
   (try simp only[Act.put,List.setIfInBounds_toArray,List.set_cons_zero,List.set_cons_succ])
   refine wpAny_skip (i:=4) rfl (by kernel_rfl) (by kernel_rfl) (by kernel_rfl) (fun _ _ _ h=>h) (by rfl) (by rfl) ?_
   refine wpAny_skip (i:=5) rfl (by kernel_rfl) (by kernel_rfl) (by kernel_rfl) (fun _ _ _ h=>h) (by rfl) (by rfl) ?_
   refine wpAny_skip (i:=6) rfl (by kernel_rfl) (by kernel_rfl) (by kernel_rfl) (fun _ _ _ h=>h) (by rfl) (by rfl) ?_
   refine wpAny_skip (i:=7) rfl (by kernel_rfl) (by kernel_rfl) (by kernel_rfl) (fun _ _ _ h=>h) (by rfl) (by rfl) ?_
   refine wpAny_skip (i:=8) rfl (by kernel_rfl) (by kernel_rfl) (by kernel_rfl) (fun _ _ _ h=>h) (by rfl) (by rfl) ?_
   refine wpAny_skip (i:=9) rfl (by kernel_rfl) (by kernel_rfl) (by kernel_rfl) (fun _ _ _ h=>h) (by rfl) (by rfl) ?_
   refine wpAny_skip (i:=10) rfl (by kernel_rfl) (by kernel_rfl) (by kernel_rfl) (fun _ _ _ h=>h) (by rfl) (by rfl) ?_
   refine wpAny_skip (i:=11) rfl (by kernel_rfl) (by kernel_rfl) (by kernel_rfl) (fun _ _ _ h=>h) (by rfl) (by rfl) ?_
   refine wpAny_skip (i:=12) rfl (by kernel_rfl) (by kernel_rfl) (by kernel_rfl) (fun _ _ _ h=>h) (by rfl) (by rfl) ?_
   refine wpAny_skip (i:=13) rfl (by kernel_rfl) (by kernel_rfl) (by kernel_rfl) (fun _ _ _ h=>h) (by rfl) (by rfl) ?_
   refine wpAny_skip (i:=14) rfl (by kernel_rfl) (by kernel_rfl) (by kernel_rfl) (fun _ _ _ h=>h) (by rfl) (by rfl) ?_
   refine wpAny_take2 (i:=15) (v:= .bool false) rfl rfl (by kernel_rfl) (by kernel_rfl) (by kernel_rfl) (fun _ _ _ h=>h) (Or.inl ⟨by rfl,fun w=>by go_simp⟩) ?_
   (try simp only[Act.put,List.setIfInBounds_toArray,List.set_cons_zero,List.set_cons_succ])
   refine wpAny_take2 (i:=16) (v:= .bool false) rfl rfl (by kernel_rfl) (by kernel_rfl) (by kernel_rfl) (fun _ _ _ h=>h) (Or.inl ⟨by rfl,fun w=>by go_simp⟩) ?_
   (try simp only[Act.put,List.setIfInBounds_toArray,List.set_cons_zero,List.set_cons_succ])
   refine wpAny_done (by kernel_rfl) ?_ _
  case' true=>cases tt
  all_goals
   try (first|(go_region_held3 (fun u=>u.cell? ⟨E.bb,1,none⟩=some (.pointer (some ⟨E.sb,0,none⟩))∧u.cell? ⟨E.mb,1,none⟩=some (.string m.name)∧Hid (SM E ws c s b m u))
    (first|with_reducible exact HS0.out|with_reducible exact HS1.out|with_reducible exact HKA.out _ _ (by assumption)|exact⟨t1,t2,h1⟩)
    (first|(go_at_call 108;refine HEn.out.mono ?_;rintro e w2 ⟨rfl,t1,t2,h1⟩)|(go_at_call 121;refine(HHs.out _ ⟨t1,t2,h1⟩).mono ?_;rintro e w2 ⟨rfl,t1,t2,h1⟩)))|fail)
   all_goals
    try clear HKA HS0 HS1
    clear HEn
    replace H:=Lib.hid h1.out
    clear h1
    clear c0 c1 c2 d1 d2 d3 f3;obtain⟨c0,c1,c2, -, -⟩:=H.out.sx.mc;obtain⟨-,d1,d2,d3, -, -, -, -, -, -, -⟩:=H.out.sx.bc;have f3:=H.out.sx.bf 3 (by omega)
    try simp only[Act.put,List.getElem_toArray,List.getElem_cons_succ,List.getElem_cons_zero,List.setIfInBounds_toArray,List.set_cons_zero,List.set_cons_succ]
    go_wp2_with ((first
     |(go_at_call 109;go_must (refine' tB (start_sm ?h ?_) ?_))
     |(go_at_call 108;go_must (refine' tB (end_sm ?h ?_) ?_))
     |(go_at_call 124;go_must (refine' tB (rowed_sm ?h) ?_))
     |(go_at_call 119;go_must (refine' (clear_sm ?h ?_).mono ?_))
     |(go_at_call 110;go_must (first|with_reducible refine' (insert0_sm ?h _ ?n).mono ?_|with_reducible refine' (insertm_sm ?h _ ?n ?r).mono ?_))
     |(go_at_call 121;go_must (refine' tB (has_sm ?h ?_) ?_))
     |(go_at_call 64;go_must (refine' (pop_sm ?h).mono ?_))
     |(go_at_call 120;go_must (refine' (lmark_sm ?h ?_).mono ?_))
     |(go_at_call 73;go_must (refine' tB (inTable_sm ?h hc hu hw) ?_)));go_must ((case h=>with_reducible first|exact H.out|exact H.out.text _ (by assumption)|exact(H.out.text _ (by assumption)).mode _|exact H.out.mode _|exact H.out.head _|exact H.out.skip _|exact H.out.wait _|exact(H.out.mode _).back _|exact H.out.mname _ (by decide));(try case n=>first|decide|exact H.out.sx.mo.nlen);(try case r=>rfl);any_goals first|(rintro e w1 ⟨rfl,h1⟩;(try simp only[namesOf_mk,strOf,List.map_cons,List.map_nil,BuD.ends]at h1);clear c0 c1 c2 d1 d2 d3 f3;replace H:=Lib.hid h1;clear h1;obtain⟨c0,c1,c2, -, -⟩:=H.out.sx.mc;obtain⟨-,d1,d2,d3, -, -, -, -, -, -, -⟩:=H.out.sx.bc;have f3:=H.out.sx.bf 3 (by omega))|(intro t ht w1 h1;(try simp only[namesOf_mk,strOf,List.map_cons,List.map_nil,BuD.ends]at ht h1);cases t <;>((try simp only[ht,reduceIte,Bool.false_eq_true]at h1);clear c0 c1 c2 d1 d2 d3 f3;replace H:=Lib.hid h1;clear h1;obtain⟨c0,c1,c2, -, -⟩:=H.out.sx.mc;obtain⟨-,d1,d2,d3, -, -, -, -, -, -, -⟩:=H.out.sx.bc;have f3:=H.out.sx.bf 3 (by omega)))|exact⟨by first|with_reducible rfl|simp[World.setCell],by rfl,by rfl,by first|decide|simp[namesOf]⟩|omega|fail))
    all_goals
     (first|go_ret|refine bodyPost_ret (results_none rfl _ _ _) rfl ?_)
     have hv:=BuD.inRow.eq_1 b m
     simp only[*,bools,if_true,if_false,reduceIte,beq_self_eq_true,Int.reduceBEq]at hv
     rw[hv]
     refine⟨by first|rfl|(rw[ht];rfl),?_⟩
     exact SM.more (by first|(with_reducible first|exact H.out|exact H.out.mode _|exact H.out.skip _|exact H.out.head _|exact(H.out.mode _).back _|exact(H.out.wait _)|exact H.out.drew.wait _|exact(H.out.wait _).drew|exact H.out.text _ (by assumption)|exact(H.out.text _ (by assumption)).mode _|exact(H.out.mode _).head _|exact(H.out.head _))|exact H.out|exact H.out.mode _|exact H.out.skip _) (by omega) (by omega))
 case _=>(
  have HI:=Lib.hid (insertm_sm H.out.drew m.name H.out.sx.mo.nlen rfl)
  go_region_law (first
   |(go_simp;go_at_call 110;refine HI.out.mono ?_
     rintro e w2 ⟨rfl,h1⟩
     (clear c0 c1 c2 d1 d2 d3 f3;replace H:=Lib.hid h1;clear h1;obtain⟨c0,c1,c2, -, -⟩:=H.out.sx.mc;obtain⟨-,d1,d2,d3, -, -, -, -, -, -, -⟩:=H.out.sx.bc;have f3:=H.out.sx.bf 3 (by omega))))
  all_goals
   clear HI
   try simp only[Act.put,List.getElem_toArray,List.getElem_cons_succ,List.getElem_cons_zero,List.setIfInBounds_toArray,List.set_cons_zero,List.set_cons_succ]
   go_wp2_with ((first
    |(go_at_call 109;go_must (refine' tB (start_sm ?h ?_) ?_))
    |(go_at_call 108;go_must (refine' tB (end_sm ?h ?_) ?_))
    |(go_at_call 124;go_must (refine' tB (rowed_sm ?h) ?_))
    |(go_at_call 119;go_must (refine' (clear_sm ?h ?_).mono ?_))
    |(go_at_call 110;go_must (first|with_reducible refine' (insert0_sm ?h _ ?n).mono ?_|with_reducible refine' (insertm_sm ?h _ ?n ?r).mono ?_))
    |(go_at_call 121;go_must (refine' tB (has_sm ?h ?_) ?_))
    |(go_at_call 64;go_must (refine' (pop_sm ?h).mono ?_))
    |(go_at_call 120;go_must (refine' (lmark_sm ?h ?_).mono ?_))
    |(go_at_call 73;go_must (refine' tB (inTable_sm ?h hc hu hw) ?_)));go_must ((case h=>with_reducible first|exact H.out|exact H.out.text _ (by assumption)|exact(H.out.text _ (by assumption)).mode _|exact H.out.mode _|exact H.out.head _|exact H.out.skip _|exact H.out.wait _|exact(H.out.mode _).back _|exact H.out.mname _ (by decide));(try case n=>first|decide|exact H.out.sx.mo.nlen);(try case r=>rfl);any_goals first|(rintro e w1 ⟨rfl,h1⟩;(try simp only[namesOf_mk,strOf,List.map_cons,List.map_nil,BuD.ends]at h1);clear c0 c1 c2 d1 d2 d3 f3;replace H:=Lib.hid h1;clear h1;obtain⟨c0,c1,c2, -, -⟩:=H.out.sx.mc;obtain⟨-,d1,d2,d3, -, -, -, -, -, -, -⟩:=H.out.sx.bc;have f3:=H.out.sx.bf 3 (by omega))|(intro t ht w1 h1;(try simp only[namesOf_mk,strOf,List.map_cons,List.map_nil,BuD.ends]at ht h1);cases t <;>((try simp only[ht,reduceIte,Bool.false_eq_true]at h1);clear c0 c1 c2 d1 d2 d3 f3;replace H:=Lib.hid h1;clear h1;obtain⟨c0,c1,c2, -, -⟩:=H.out.sx.mc;obtain⟨-,d1,d2,d3, -, -, -, -, -, -, -⟩:=H.out.sx.bc;have f3:=H.out.sx.bf 3 (by omega)))|exact⟨by first|with_reducible rfl|simp[World.setCell],by rfl,by rfl,by first|decide|simp[namesOf]⟩|omega|fail))
  all_goals
   (first|go_ret|refine bodyPost_ret (results_none rfl _ _ _) rfl ?_)
   have hv:=BuD.inRow.eq_1 b m
   simp only[*,bools,if_true,if_false,reduceIte,beq_self_eq_true,Int.reduceBEq]at hv
   rw[hv]
   refine⟨by first|rfl|(rw[ht];rfl),?_⟩
   exact SM.more (by first|(with_reducible first|exact H.out|exact H.out.mode _|exact H.out.skip _|exact H.out.head _|exact(H.out.mode _).back _|exact(H.out.wait _)|exact H.out.drew.wait _|exact(H.out.wait _).drew|exact H.out.text _ (by assumption)|exact(H.out.text _ (by assumption)).mode _|exact(H.out.mode _).head _|exact(H.out.head _))|exact H.out|exact H.out.mode _|exact H.out.skip _) (by omega) (by omega))
end
end
section
section
variable {E:BE} {ws w w':World} {c:Nat} {s:Int} {b b':BuD} {m m':BMark}
theorem inCell_sm (h:SM E ws c s b m w) (hc:c≤100000) (hu:b.used+m.text.size≤9223372036854775807):Calls Tryz.prog 78 #[.pointer (some ⟨E.bb,0,none⟩),.pointer (some ⟨E.mb,0,none⟩)] w fun r w'=>r= .returned (.bool (b.inCell m).2.2)∧SM E ws (c+1) s (b.inCell m).1 (b.inCell m).2.1 w':=by
 have H:=Lib.hid h
 obtain⟨-,c1, -, -, -⟩:=H.out.sx.mc
 obtain⟨-,d1, -, -, -, -, -, -, -, -, -⟩:=H.out.sx.bc
 have hne: ¬E.mb=E.bb:=fun e=>H.out.sx.mo.ne e.symm
 have hne2: ¬E.bb=E.mb:=H.out.sx.mo.ne
 clear h
 go_enter Tryz.func78,Tryz.ntmps78
 go_wp2_with ((first
  |(go_at_call 108;go_must (refine' tB (end_sm ?h ?_) ?_))
  |(go_at_call 124;go_must (refine' tB (rowed_sm ?h) ?_))
  |(go_at_call 121;go_must (refine' tB (has_sm ?h ?_) ?_))
  |(go_at_call 128;go_must (refine' (leave_sm ?h ?_).mono ?_))
  |(go_at_call 71;go_must (refine' tB (inBody_sm ?h hc hu) ?_)));go_must ((case h=>with_reducible first|exact H.out|exact H.out.text _ (by assumption)|exact(H.out.text _ (by assumption)).mode _|exact H.out.mode _|exact H.out.head _|exact H.out.skip _|exact H.out.wait _|exact(H.out.mode _).back _|exact H.out.mname _ (by decide));any_goals first|(rintro e w1 ⟨rfl,h1⟩;(try simp only[namesOf_mk,strOf,List.map_cons,List.map_nil,BuD.ends]at h1);clear c1 d1;replace H:=Lib.hid h1;clear h1;obtain⟨-,c1, -, -, -⟩:=H.out.sx.mc;obtain⟨-,d1, -, -, -, -, -, -, -, -, -⟩:=H.out.sx.bc)|(intro t ht w1 h1;(try simp only[namesOf_mk,strOf,List.map_cons,List.map_nil,BuD.ends]at ht h1);cases t <;>((try simp only[ht,reduceIte,Bool.false_eq_true]at h1);clear c1 d1;replace H:=Lib.hid h1;clear h1;obtain⟨-,c1, -, -, -⟩:=H.out.sx.mc;obtain⟨-,d1, -, -, -, -, -, -, -, -, -⟩:=H.out.sx.bc))|exact⟨by first|with_reducible rfl|simp[World.setCell],by rfl,by rfl,by first|decide|simp[namesOf]⟩|omega|fail))
 all_goals try (
  (first|go_ret|refine bodyPost_ret (results_none rfl _ _ _) rfl ?_)
  have hv:=BuD.inCell.eq_1 b m
  simp only[*,bools,if_true,if_false,reduceIte,beq_self_eq_true,Int.reduceBEq]at hv
  rw[hv]
  refine⟨by first|rfl|(rw[ht];rfl),?_⟩
  exact SM.more (by first|(with_reducible first|exact H.out|exact H.out.mode _|exact H.out.skip _|exact H.out.head _|exact(H.out.mode _).back _|exact(H.out.wait _)|exact H.out.drew.wait _|exact(H.out.wait _).drew|exact H.out.text _ (by assumption)|exact(H.out.text _ (by assumption)).mode _|exact(H.out.mode _).head _|exact(H.out.head _))|exact H.out|exact H.out.mode _|exact H.out.skip _) (by omega) (by omega))
 all_goals try (
  have HE:Hid (Calls Tryz.prog 121 #[.pointer (some ⟨E.sb,0,none⟩),.int .i64 3,.slice (some ⟨w1.heap.size,0,none⟩) 1 1] (w1.alloc (.cells #[.string m.name] 9)).drew fun r w'=>r= .returned (.bool (b.has 3 [m.name]))∧SM E ws c s b m w'):=Lib.hid (by
   have h0:=has_sm (scope:=3) (cur:= #[.string m.name]) (e:=9) (n:=1) (ca:=1) H.out.drew ⟨rfl,by rfl,by rfl,by simp[namesOf]⟩
   exact h0)
  have g1:(w1.alloc (.cells #[.string m.name] 9)).cell? ⟨E.mb,1,none⟩=some (.string m.name):=(H.out.alloc _).sx.mc.2.1
  have g2:(w1.alloc (.cells #[.string m.name] 9)).cell? ⟨E.bb,1,none⟩=some (.pointer (some ⟨E.sb,0,none⟩)):=(H.out.alloc _).sx.bc.2.1
  generalize hht:b.has 3 [m.name]=tt at HE
  go_region_law (first
   |(go_simp;go_at_call 121;refine HE.out.mono ?_
     rintro e w2 ⟨rfl,h1⟩
     (clear c1 d1;replace H:=Lib.hid h1;clear h1;obtain⟨-,c1, -, -, -⟩:=H.out.sx.mc;obtain⟨-,d1, -, -, -, -, -, -, -, -, -⟩:=H.out.sx.bc)))
  all_goals
   clear HE g1 g2
   try simp only[Act.put,List.getElem_toArray,List.getElem_cons_succ,List.getElem_cons_zero,List.setIfInBounds_toArray,List.set_cons_zero,List.set_cons_succ]
   cases tt
   all_goals
    go_wp2_with ((first
     |(go_at_call 108;go_must (refine' tB (end_sm ?h ?_) ?_))
     |(go_at_call 124;go_must (refine' tB (rowed_sm ?h) ?_))
     |(go_at_call 121;go_must (refine' tB (has_sm ?h ?_) ?_))
     |(go_at_call 128;go_must (refine' (leave_sm ?h ?_).mono ?_))
     |(go_at_call 71;go_must (refine' tB (inBody_sm ?h hc hu) ?_)));go_must ((case h=>with_reducible first|exact H.out|exact H.out.text _ (by assumption)|exact(H.out.text _ (by assumption)).mode _|exact H.out.mode _|exact H.out.head _|exact H.out.skip _|exact H.out.wait _|exact(H.out.mode _).back _|exact H.out.mname _ (by decide));any_goals first|(rintro e w1 ⟨rfl,h1⟩;(try simp only[namesOf_mk,strOf,List.map_cons,List.map_nil,BuD.ends]at h1);clear c1 d1;replace H:=Lib.hid h1;clear h1;obtain⟨-,c1, -, -, -⟩:=H.out.sx.mc;obtain⟨-,d1, -, -, -, -, -, -, -, -, -⟩:=H.out.sx.bc)|(intro t ht w1 h1;(try simp only[namesOf_mk,strOf,List.map_cons,List.map_nil,BuD.ends]at ht h1);cases t <;>((try simp only[ht,reduceIte,Bool.false_eq_true]at h1);clear c1 d1;replace H:=Lib.hid h1;clear h1;obtain⟨-,c1, -, -, -⟩:=H.out.sx.mc;obtain⟨-,d1, -, -, -, -, -, -, -, -, -⟩:=H.out.sx.bc))|exact⟨by first|with_reducible rfl|simp[World.setCell],by rfl,by rfl,by first|decide|simp[namesOf]⟩|omega|fail))
    all_goals
     (first|go_ret|refine bodyPost_ret (results_none rfl _ _ _) rfl ?_)
     have hv:=BuD.inCell.eq_1 b m
     simp only[*,bools,if_true,if_false,reduceIte,beq_self_eq_true,Int.reduceBEq]at hv
     rw[hv]
     refine⟨by first|rfl|(rw[ht];rfl),?_⟩
     exact SM.more (by first|(with_reducible first|exact H.out|exact H.out.mode _|exact H.out.skip _|exact H.out.head _|exact(H.out.mode _).back _|exact(H.out.wait _)|exact H.out.drew.wait _|exact(H.out.wait _).drew|exact H.out.text _ (by assumption)|exact(H.out.text _ (by assumption)).mode _|exact(H.out.mode _).head _|exact(H.out.head _))|exact H.out|exact H.out.mode _|exact H.out.skip _) (by omega) (by omega))
end
end
end Go.Proofs.YtgepobccoffnaaaGreatDoor
