/- Texts joined for a claim: CuI, CuJ, CuK, CuL: plain laws and contracts. No conditions beyond those that each lemma types. -/
import Derived.Test.YtgepobccoffnaaaGreatDoorT20
set_option linter.unusedVariables false
set_option linter.unusedSimpArgs false
set_option maxRecDepth 100000
set_option maxHeartbeats 8000000
namespace Go.Proofs.YtgepobccoffnaaaGreatDoor
open Go.RowKit Mem
section
section
variable {E:BE} {ws w w':World} {c:Nat} {s:Int} {b b':BuD} {m m':BMark}
theorem inText_sm (h:SM E ws c s b m w) (hu:b.used+m.text.size≤9223372036854775807):Calls Tryz.prog 72 #[.pointer (some ⟨E.bb,0,none⟩),.pointer (some ⟨E.mb,0,none⟩)] w fun r w'=>r= .returned (.bool (b.inText m).2.2)∧SM E ws (c+1) s (b.inText m).1 (b.inText m).2.1 w':=by
 have H:=Lib.hid h
 obtain⟨c0, -, -, -,c4⟩:=H.out.sx.mc
 obtain⟨-,d1, -,d3,d4, -, -, -, -, -, -⟩:=H.out.sx.bc
 have f3:=H.out.sx.bf 3 (by omega)
 have hne: ¬E.mb=E.bb:=fun e=>H.out.sx.mo.ne e.symm
 have hne2: ¬E.bb=E.mb:=H.out.sx.mo.ne
 clear h
 go_enter Tryz.func72,Tryz.ntmps72
 go_wp2_with ((first
  |(go_at_call 60;go_must (refine' (text_sm ?h _ ?_).mono ?_))
  |(go_at_call 64;go_must (refine' (pop_sm ?h).mono ?_)));go_must ((case h=>with_reducible first|exact H.out|exact H.out.text _ (by assumption)|exact(H.out.text _ (by assumption)).mode _|exact H.out.mode _|exact H.out.head _|exact H.out.skip _|exact H.out.wait _|exact(H.out.mode _).back _|exact H.out.mname _ (by decide));any_goals first|(rintro e w1 ⟨rfl,h1⟩;(try simp only[namesOf_mk,strOf,List.map_cons,List.map_nil,BuD.ends]at h1);clear c0 c4 d1 d3 d4 f3;replace H:=Lib.hid h1;clear h1;obtain⟨c0, -, -, -,c4⟩:=H.out.sx.mc;obtain⟨-,d1, -,d3,d4, -, -, -, -, -, -⟩:=H.out.sx.bc;have f3:=H.out.sx.bf 3 (by omega))|exact⟨by first|with_reducible rfl|simp[World.setCell],by rfl,by rfl,by first|decide|simp[namesOf]⟩|omega|fail))
 all_goals try (exfalso;have q:=eq_of_beq (by assumption:(m.kind==1)=true);omega)
 all_goals try (exfalso;have q:=eq_of_beq (by assumption:(m.kind==2)=true);omega)
 all_goals try (exfalso;have q:=eq_of_beq (by assumption:(m.kind==3)=true);omega)
 all_goals try (exfalso;have q:=eq_of_beq (by assumption:(m.kind==6)=true);omega)
 all_goals
  try have e01:(m.kind==1)=true:=beq_iff_eq.2 (by assumption)
  try have e01:(m.kind==1)=false:=beq_eq_false_iff_ne.2 (by assumption)
  try have e02:(m.kind==2)=true:=beq_iff_eq.2 (by assumption)
  try have e02:(m.kind==2)=false:=beq_eq_false_iff_ne.2 (by assumption)
  try have e03:(m.kind==3)=true:=beq_iff_eq.2 (by assumption)
  try have e03:(m.kind==3)=false:=beq_eq_false_iff_ne.2 (by assumption)
  try have e06:(m.kind==6)=true:=beq_iff_eq.2 (by assumption)
  try have e06:(m.kind==6)=false:=beq_eq_false_iff_ne.2 (by assumption)
  go_ret
  have hv:=BuD.inText.eq_1 b m
  simp only[*,bools,if_true,if_false,reduceIte,beq_self_eq_true,Int.reduceBEq]at hv
  rw[hv]
  refine⟨by first|rfl|(rw[ht];rfl),?_⟩
  exact SM.more (by first|(with_reducible first|exact H.out|exact H.out.mode _|exact H.out.skip _|exact H.out.head _|exact(H.out.mode _).back _|exact(H.out.wait _)|exact H.out.drew.wait _|exact(H.out.wait _).drew|exact H.out.text _ (by assumption)|exact(H.out.text _ (by assumption)).mode _|exact(H.out.mode _).head _|exact(H.out.head _))|exact H.out|exact H.out.mode _|exact H.out.skip _) (by omega) (by omega)
theorem inHead_sm (h:SM E ws c s b m w) (hu:b.used+m.text.size≤9223372036854775807):Calls Tryz.prog 69 #[.pointer (some ⟨E.bb,0,none⟩),.pointer (some ⟨E.mb,0,none⟩)] w fun r w'=>r= .returned (.bool (b.inHead m).2.2)∧SM E ws (c+1) s (b.inHead m).1 (b.inHead m).2.1 w':=by
 have H:=Lib.hid h
 obtain⟨c0, -, -, -, -⟩:=H.out.sx.mc
 obtain⟨-,d1, -,d3, -, -, -, -, -, -, -⟩:=H.out.sx.bc
 have f3:=H.out.sx.bf 3 (by omega)
 have hne: ¬E.mb=E.bb:=fun e=>H.out.sx.mo.ne e.symm
 have hne2: ¬E.bb=E.mb:=H.out.sx.mo.ne
 clear h
 go_enter Tryz.func69,Tryz.ntmps69
 go_wp2_with ((first
  |(go_at_call 111;go_must (refine' tB (blank_sm ?h hu) ?_))
  |(go_at_call 112;go_must (refine' tB (heads_sm ?h) ?_))
  |(go_at_call 109;go_must (refine' tB (start_sm ?h ?_) ?_))
  |(go_at_call 108;go_must (refine' tB (end_sm ?h ?_) ?_))
  |(go_at_call 64;go_must (refine' (pop_sm ?h).mono ?_)));go_must ((case h=>with_reducible first|exact H.out|exact H.out.text _ (by assumption)|exact(H.out.text _ (by assumption)).mode _|exact H.out.mode _|exact H.out.head _|exact H.out.skip _|exact H.out.wait _|exact(H.out.mode _).back _|exact H.out.mname _ (by decide));any_goals first|(rintro e w1 ⟨rfl,h1⟩;(try simp only[namesOf_mk,strOf,List.map_cons,List.map_nil,BuD.ends]at h1);clear c0 d1 d3 f3;replace H:=Lib.hid h1;clear h1;obtain⟨c0, -, -, -, -⟩:=H.out.sx.mc;obtain⟨-,d1, -,d3, -, -, -, -, -, -, -⟩:=H.out.sx.bc;have f3:=H.out.sx.bf 3 (by omega))|(intro t ht w1 h1;(try simp only[namesOf_mk,strOf,List.map_cons,List.map_nil,BuD.ends]at ht h1);cases t <;>((try simp only[ht,reduceIte,Bool.false_eq_true]at h1);clear c0 d1 d3 f3;replace H:=Lib.hid h1;clear h1;obtain⟨c0, -, -, -, -⟩:=H.out.sx.mc;obtain⟨-,d1, -,d3, -, -, -, -, -, -, -⟩:=H.out.sx.bc;have f3:=H.out.sx.bf 3 (by omega)))|exact⟨by first|with_reducible rfl|simp[World.setCell],by rfl,by rfl,by first|decide|simp[namesOf]⟩|omega|fail))
 all_goals try (exfalso;have q:=eq_of_beq (by assumption:((BuD.blankM m).kind==1)=true);omega)
 all_goals try (exfalso;have q:=eq_of_beq (by assumption:((BuD.blankM m).kind==2)=true);omega)
 all_goals try (exfalso;have q:=eq_of_beq (by assumption:((BuD.blankM m).kind==3)=true);omega)
 all_goals try (exfalso;have q:=eq_of_beq (by assumption:((BuD.blankM m).kind==6)=true);omega)
 all_goals
  try have e01:((BuD.blankM m).kind==1)=true:=beq_iff_eq.2 (by assumption)
  try have e01:((BuD.blankM m).kind==1)=false:=beq_eq_false_iff_ne.2 (by assumption)
  try have e02:((BuD.blankM m).kind==2)=true:=beq_iff_eq.2 (by assumption)
  try have e02:((BuD.blankM m).kind==2)=false:=beq_eq_false_iff_ne.2 (by assumption)
  try have e03:((BuD.blankM m).kind==3)=true:=beq_iff_eq.2 (by assumption)
  try have e03:((BuD.blankM m).kind==3)=false:=beq_eq_false_iff_ne.2 (by assumption)
  try have e06:((BuD.blankM m).kind==6)=true:=beq_iff_eq.2 (by assumption)
  try have e06:((BuD.blankM m).kind==6)=false:=beq_eq_false_iff_ne.2 (by assumption)
  go_ret
  have hv:=BuD.inHead.eq_1 b m
  simp only[*,bools,if_true,if_false,reduceIte,beq_self_eq_true,Int.reduceBEq]at hv
  rw[hv]
  refine⟨by first|rfl|(rw[ht];rfl),?_⟩
  exact SM.more (by first|(with_reducible first|exact H.out|exact H.out.mode _|exact H.out.skip _|exact H.out.head _|exact(H.out.mode _).back _|exact(H.out.wait _)|exact H.out.drew.wait _|exact(H.out.wait _).drew|exact H.out.text _ (by assumption)|exact(H.out.text _ (by assumption)).mode _|exact(H.out.mode _).head _|exact(H.out.head _))|exact H.out|exact H.out.mode _|exact H.out.skip _) (by omega) (by omega)
end
end
section
section
variable {E:BE} {ws w w':World} {c:Nat} {s:Int} {b b':BuD} {m m':BMark}
theorem inStart_sm (h:SM E ws c s b m w):Calls Tryz.prog 67 #[.pointer (some ⟨E.bb,0,none⟩),.pointer (some ⟨E.mb,0,none⟩)] w fun r w'=>r= .returned (.bool (b.inStart m).2.2)∧SM E ws (c+1) s (b.inStart m).1 (b.inStart m).2.1 w':=by
 have H:=Lib.hid h
 obtain⟨c0, -,c2, -,c4⟩:=H.out.sx.mc
 obtain⟨-, -, -,d3, -, -, -, -, -, -, -⟩:=H.out.sx.bc
 have q4:=H.out.sx.mf.2
 have f3:=H.out.sx.bf 3 (by omega)
 have hne: ¬E.mb=E.bb:=fun e=>H.out.sx.mo.ne e.symm
 have hne2: ¬E.bb=E.mb:=H.out.sx.mo.ne
 clear h
 go_enter Tryz.func67,Tryz.ntmps67
 go_wp2_with (first
  |((first
   |(go_at_call 109;go_must (refine' tB (start_sm ?h ?_) ?_))
   |(go_at_call 108;go_must (refine' tB (end_sm ?h ?_) ?_))
   |(go_at_call 110;go_must (first|with_reducible refine' (insert0_sm ?h _ ?n).mono ?_|with_reducible refine' (insertm_sm ?h _ ?n ?r).mono ?_)));go_must ((case h=>with_reducible first|exact H.out|exact H.out.text _ (by assumption)|exact(H.out.text _ (by assumption)).mode _|exact H.out.mode _|exact H.out.head _|exact H.out.skip _|exact H.out.wait _|exact(H.out.mode _).back _|exact H.out.mname _ (by decide));(try case n=>first|decide|exact H.out.sx.mo.nlen);(try case r=>rfl);any_goals first|(rintro e w1 ⟨rfl,h1⟩;(try simp only[namesOf_mk,strOf,List.map_cons,List.map_nil,BuD.ends]at h1);clear c0 c2 c4 q4 d3 f3;replace H:=Lib.hid h1;clear h1;obtain⟨c0, -,c2, -,c4⟩:=H.out.sx.mc;obtain⟨-, -, -,d3, -, -, -, -, -, -, -⟩:=H.out.sx.bc;have q4:=H.out.sx.mf.2;have f3:=H.out.sx.bf 3 (by omega))|(intro t ht w1 h1;(try simp only[namesOf_mk,strOf,List.map_cons,List.map_nil,BuD.ends]at ht h1);cases t <;>((try simp only[ht,reduceIte,Bool.false_eq_true]at h1);clear c0 c2 c4 q4 d3 f3;replace H:=Lib.hid h1;clear h1;obtain⟨c0, -,c2, -,c4⟩:=H.out.sx.mc;obtain⟨-, -, -,d3, -, -, -, -, -, -, -⟩:=H.out.sx.bc;have q4:=H.out.sx.mf.2;have f3:=H.out.sx.bf 3 (by omega)))|exact⟨by first|with_reducible rfl|simp[World.setCell],by rfl,by rfl,by first|decide|simp[namesOf]⟩|omega|fail))
  |(go_at_call 107;go_must (refine(spaces_any _ _ H.out.sx.mo.tlen).mono ?_;rintro e w1 ⟨rfl,hb⟩;have h1:=H.out.world hb;clear hb;have hz:=restF_le m.text;generalize hr:restF m.text=rr at hz ⊢;generalize ha:aheadF m.text=aa;clear c0 c2 c4 q4 d3 f3;replace H:=Lib.hid h1;clear h1;obtain⟨c0, -,c2, -,c4⟩:=H.out.sx.mc;obtain⟨-, -, -,d3, -, -, -, -, -, -, -⟩:=H.out.sx.bc;have q4:=H.out.sx.mf.2;have f3:=H.out.sx.bf 3 (by omega))))
 all_goals try (exfalso;have q:=eq_of_beq (by assumption:(m.kind==1)=true);omega)
 all_goals try (exfalso;have q:=eq_of_beq (by assumption:(m.kind==2)=true);omega)
 all_goals try (exfalso;have q:=eq_of_beq (by assumption:(m.kind==3)=true);omega)
 all_goals try (exfalso;have q:=eq_of_beq (by assumption:(m.kind==6)=true);omega)
 all_goals
  try have e01:(m.kind==1)=true:=beq_iff_eq.2 (by assumption)
  try have e01:(m.kind==1)=false:=beq_eq_false_iff_ne.2 (by assumption)
  try have e02:(m.kind==2)=true:=beq_iff_eq.2 (by assumption)
  try have e02:(m.kind==2)=false:=beq_eq_false_iff_ne.2 (by assumption)
  try have e03:(m.kind==3)=true:=beq_iff_eq.2 (by assumption)
  try have e03:(m.kind==3)=false:=beq_eq_false_iff_ne.2 (by assumption)
  try have e06:(m.kind==6)=true:=beq_iff_eq.2 (by assumption)
  try have e06:(m.kind==6)=false:=beq_eq_false_iff_ne.2 (by assumption)
  go_ret
  have hv:=BuD.inStart.eq_1 b m
  simp only[*,BuD.blankM,BuD.blankT,bools,if_true,if_false,reduceIte,beq_self_eq_true,Int.reduceBEq]at hv
  rw[hv]
  refine⟨by first|rfl|(rw[ht];rfl),?_⟩
  exact SM.more (by first|(with_reducible first|exact H.out|exact H.out.mode _|exact H.out.skip _|exact H.out.head _|exact(H.out.mode _).back _|exact(H.out.wait _)|exact H.out.drew.wait _|exact(H.out.wait _).drew|exact H.out.text _ (by assumption)|exact(H.out.text _ (by assumption)).mode _|exact(H.out.mode _).head _|exact(H.out.head _))|exact H.out|exact H.out.mode _|exact H.out.skip _) (by omega) (by omega)
theorem inAhead_sm (h:SM E ws c s b m w):Calls Tryz.prog 68 #[.pointer (some ⟨E.bb,0,none⟩),.pointer (some ⟨E.mb,0,none⟩)] w fun r w'=>r= .returned (.bool (b.inAhead m).2.2)∧SM E ws (c+1) s (b.inAhead m).1 (b.inAhead m).2.1 w':=by
 have H:=Lib.hid h
 obtain⟨c0, -,c2, -,c4⟩:=H.out.sx.mc
 obtain⟨-, -, -,d3, -,d5, -, -, -, -, -⟩:=H.out.sx.bc
 have q4:=H.out.sx.mf.2
 have f3:=H.out.sx.bf 3 (by omega)
 have f5:=H.out.sx.bf 5 (by omega)
 have hne: ¬E.mb=E.bb:=fun e=>H.out.sx.mo.ne e.symm
 have hne2: ¬E.bb=E.mb:=H.out.sx.mo.ne
 clear h
 go_enter Tryz.func68,Tryz.ntmps68
 go_wp2_with (first
  |((first
   |(go_at_call 109;go_must (refine' tB (start_sm ?h ?_) ?_))
   |(go_at_call 108;go_must (refine' tB (end_sm ?h ?_) ?_))
   |(go_at_call 110;go_must (first|with_reducible refine' (insert0_sm ?h _ ?n).mono ?_|with_reducible refine' (insertm_sm ?h _ ?n ?r).mono ?_)));go_must ((case h=>with_reducible first|exact H.out|exact H.out.text _ (by assumption)|exact(H.out.text _ (by assumption)).mode _|exact H.out.mode _|exact H.out.head _|exact H.out.skip _|exact H.out.wait _|exact(H.out.mode _).back _|exact H.out.mname _ (by decide));(try case n=>first|decide|exact H.out.sx.mo.nlen);(try case r=>rfl);any_goals first|(rintro e w1 ⟨rfl,h1⟩;(try simp only[namesOf_mk,strOf,List.map_cons,List.map_nil,BuD.ends]at h1);clear c0 c2 c4 q4 d3 f3 d5 f5;replace H:=Lib.hid h1;clear h1;obtain⟨c0, -,c2, -,c4⟩:=H.out.sx.mc;obtain⟨-, -, -,d3, -,d5, -, -, -, -, -⟩:=H.out.sx.bc;have q4:=H.out.sx.mf.2;have f3:=H.out.sx.bf 3 (by omega);have f5:=H.out.sx.bf 5 (by omega))|(intro t ht w1 h1;(try simp only[namesOf_mk,strOf,List.map_cons,List.map_nil,BuD.ends]at ht h1);cases t <;>((try simp only[ht,reduceIte,Bool.false_eq_true]at h1);clear c0 c2 c4 q4 d3 f3 d5 f5;replace H:=Lib.hid h1;clear h1;obtain⟨c0, -,c2, -,c4⟩:=H.out.sx.mc;obtain⟨-, -, -,d3, -,d5, -, -, -, -, -⟩:=H.out.sx.bc;have q4:=H.out.sx.mf.2;have f3:=H.out.sx.bf 3 (by omega);have f5:=H.out.sx.bf 5 (by omega)))|exact⟨by first|with_reducible rfl|simp[World.setCell],by rfl,by rfl,by first|decide|simp[namesOf]⟩|omega|fail))
  |(go_at_call 107;go_must (refine(spaces_any _ _ H.out.sx.mo.tlen).mono ?_;rintro e w1 ⟨rfl,hb⟩;have h1:=H.out.world hb;clear hb;have hz:=restF_le m.text;generalize hr:restF m.text=rr at hz ⊢;generalize ha:aheadF m.text=aa;clear c0 c2 c4 q4 d3 f3 d5 f5;replace H:=Lib.hid h1;clear h1;obtain⟨c0, -,c2, -,c4⟩:=H.out.sx.mc;obtain⟨-, -, -,d3, -,d5, -, -, -, -, -⟩:=H.out.sx.bc;have q4:=H.out.sx.mf.2;have f3:=H.out.sx.bf 3 (by omega);have f5:=H.out.sx.bf 5 (by omega))))
 all_goals try (exfalso;have q:=eq_of_beq (by assumption:(m.kind==1)=true);omega)
 all_goals try (exfalso;have q:=eq_of_beq (by assumption:(m.kind==2)=true);omega)
 all_goals try (exfalso;have q:=eq_of_beq (by assumption:(m.kind==3)=true);omega)
 all_goals try (exfalso;have q:=eq_of_beq (by assumption:(m.kind==6)=true);omega)
 all_goals
  try have e01:(m.kind==1)=true:=beq_iff_eq.2 (by assumption)
  try have e01:(m.kind==1)=false:=beq_eq_false_iff_ne.2 (by assumption)
  try have e02:(m.kind==2)=true:=beq_iff_eq.2 (by assumption)
  try have e02:(m.kind==2)=false:=beq_eq_false_iff_ne.2 (by assumption)
  try have e03:(m.kind==3)=true:=beq_iff_eq.2 (by assumption)
  try have e03:(m.kind==3)=false:=beq_eq_false_iff_ne.2 (by assumption)
  try have e06:(m.kind==6)=true:=beq_iff_eq.2 (by assumption)
  try have e06:(m.kind==6)=false:=beq_eq_false_iff_ne.2 (by assumption)
  go_ret
  have hv:=BuD.inAhead.eq_1 b m
  simp only[*,BuD.blankM,BuD.blankT,BuD.headed,bools,if_true,if_false,reduceIte,beq_self_eq_true,Int.reduceBEq]at hv
  rw[hv]
  refine⟨by first|rfl|(rw[ht];rfl),?_⟩
  exact SM.more (by first|(with_reducible first|exact H.out|exact H.out.mode _|exact H.out.skip _|exact H.out.head _|exact(H.out.mode _).back _|exact(H.out.wait _)|exact H.out.drew.wait _|exact(H.out.wait _).drew|exact H.out.text _ (by assumption)|exact(H.out.text _ (by assumption)).mode _|exact(H.out.mode _).head _|exact(H.out.head _))|exact H.out|exact H.out.mode _|exact H.out.skip _) (by omega) (by omega)
end
end
section
section
variable {E:BE} {ws w w':World} {c:Nat} {s:Int} {b b':BuD} {m m':BMark}
theorem rm_last (l:List Int) (n:Int):rmF (l++ [n]) n=l:=by
 unfold rmF dropF
 rw[rfind_snoc,if_pos rfl,if_pos (by omega),Int.toNat_natCast,List.eraseIdx_append_of_length_le (Nat.le_refl _)]
 simp
theorem rm_two (l:List Int) (n x:Int):rmF (l++ [n]++ [x]) n=l++ [x]:=by
 by_cases hx:x=n
 ·subst hx
  rw[rm_last]
 ·unfold rmF dropF
  rw[rfind_snoc,if_neg hx,rfind_snoc,if_pos rfl,if_pos (by omega),Int.toNat_natCast,List.append_assoc,List.eraseIdx_append_of_length_le (Nat.le_refl _)]
  simp
theorem Ok.behind0 (h:Ok c s b) (n:Int) (name:ByteArray) {attrs:List Pair} (ha:Fits name attrs) (l':List Int)
 (h1:((b.S.T.nodes.length:Int)-1<b.S.T.most→l'.Sublist (b.S.l++ [(b.S.T.nodes.length:Int)]))) (h2:(¬(b.S.T.nodes.length:Int)-1<b.S.T.most→l'.Sublist b.S.l)):Ok c (s-1) (((b.push n).ins name attrs).stk l'):=by
 have e:((b.push n).ins name attrs).S=⟨(insertL b.S.T (b.S.l++ [n]) b.on 0 name attrs).1,(insertL b.S.T (b.S.l++ [n]) b.on 0 name attrs).2.1,b.S.ent⟩:=BuD.keep_S _ _
 have e2:(((b.push n).ins name attrs).stk l').S=⟨(insertL b.S.T (b.S.l++ [n]) b.on 0 name attrs).1,l',b.S.ent⟩:=by
  show(⟨_,l',_⟩:AS)=_
  rw[e]
 have hmor:=insertL_mor b.S.T (b.S.l++ [n]) b.on 0 name attrs
 refine⟨?_,?_,?_,?_,fun he=> ?_,?_⟩
 ·rw[e2]
  by_cases hm:(b.S.T.nodes.length:Int)-1<b.S.T.most
  ·have hf:=h.fi.ins (n:=(b.S.T.nodes.length:Int)) rfl hmor (insertL_new (l:=b.S.l++ [n]) (on:=b.on) (sp:=0) (nm:=name) (at':=attrs) h.n1 hm) b.S.l.length
   rw[←append_insAt]at hf
   exact hf.sub (h1 hm) (List.Sublist.refl _)
  ·exact(h.fi.grow hmor).sub (h2 hm) (List.Sublist.refl _)
 ·rw[e2];exact Nat.le_trans h.n1 hmor.1
 ·rw[e2];exact insertL_lm h.lm _ _ _ _ _
 ·rw[e2];exact h.hard
 ·obtain⟨q1,q2⟩:=BuD.keep_err (b:= {b.push n with S:=⟨(insertL b.S.T (b.S.l++ [n]) b.on 0 name attrs).1,(insertL b.S.T (b.S.l++ [n]) b.on 0 name attrs).2.1,b.S.ent⟩}) (e:=(insertL b.S.T (b.S.l++ [n]) b.on 0 name attrs).2.2.2) he
  rw[e2]
  by_cases hm:(b.S.T.nodes.length:Int)-1<b.S.T.most
  ·have:=h.soft q2
   have h3:=(insertL_yes hm (b.S.l++ [n]) b.on 0 name attrs).2.2
   show(b.S.ent.count (-1):Int)≤((insertL b.S.T (b.S.l++ [n]) b.on 0 name attrs).1.nodes.length:Int)+(s-1)
   rw[h3]
   omega
  ·rw[insertL_no hm]at q1
   exact absurd (show(43:Int)=0 from q1) (by decide)
 ·rw[e2];exact insertL_at h.at' _ _ _ _ ha
theorem ins_l (b:BuD) (n:Int) (name:ByteArray) (attrs:List Pair):((b.push n).ins name attrs).S.l=if(b.S.T.nodes.length:Int)-1<b.S.T.most then b.S.l++ [n]++ [(b.S.T.nodes.length:Int)]else b.S.l++ [n]:=by
 have e:((b.push n).ins name attrs).S=⟨(insertL b.S.T (b.S.l++ [n]) b.on 0 name attrs).1,(insertL b.S.T (b.S.l++ [n]) b.on 0 name attrs).2.1,b.S.ent⟩:=BuD.keep_S _ _
 rw[e]
 by_cases hm:(b.S.T.nodes.length:Int)-1<b.S.T.most
 ·rw[if_pos hm];exact(insertL_yes hm (b.S.l++ [n]) b.on 0 name attrs).1
 ·rw[if_neg hm,insertL_no hm]
theorem Ok.behind (h:Ok c s b) (hm:Fits m.name m.attrs) (n:Int):Ok c s (((b.push n).heads m).1.sremove n):=by
 have hl:=ins_l b n m.name m.attrs
 unfold BuD.heads
 split
 ·refine((h.behind0 n m.name hm (rmF (((b.push n).ins m.name m.attrs).S.l.dropLast) n) (fun h1=> ?_) (fun h1=> ?_)).of rfl id).more (Nat.le_refl _) (by omega)
  ·rw[hl,if_pos h1,List.dropLast_concat,rm_last];exact List.sublist_append_left _ _
  ·rw[hl,if_neg h1,List.dropLast_concat];exact rmF_sub _ _
 ·split
  ·refine Ok.more (c:=c) (s:=s-1) ((h.behind0 n m.name hm (rmF ((b.push n).ins m.name m.attrs).S.l n) (fun h1=> ?_) (fun h1=> ?_)).of rfl id) (Nat.le_refl _) (by omega)
   ·rw[hl,if_pos h1,rm_two];exact List.Sublist.refl _
   ·rw[hl,if_neg h1,rm_last];exact List.Sublist.refl _
  ·split
   ·refine Ok.more (c:=c) (s:=s-1) ((h.behind0 n m.name hm (rmF ((b.push n).ins m.name m.attrs).S.l n) (fun h1=> ?_) (fun h1=> ?_)).of rfl id) (Nat.le_refl _) (by omega)
    ·rw[hl,if_pos h1,rm_two];exact List.Sublist.refl _
    ·rw[hl,if_neg h1,rm_last];exact List.Sublist.refl _
   ·have e:(rmF (b.S.l++ [n]) n).Sublist b.S.l:=by rw[rm_last];exact List.Sublist.refl _
    exact(h.stk e).of rfl id
theorem heads_head (b:BuD) (m:BMark):(b.heads m).1.head=b.head:=by
 have h1: ∀nm at',(b.ins nm at').head=b.head:=fun nm at'=>(BuD.keep_all _ _).2.2.2.1
 unfold BuD.heads
 split
 ·exact h1 _ _
 ·split
  ·exact h1 _ _
  ·split
   ·exact h1 _ _
   ·rfl
theorem inBehind_sm (h:SM E ws c s b m w) (hu:b.used+m.text.size≤9223372036854775807):Calls Tryz.prog 70 #[.pointer (some ⟨E.bb,0,none⟩),.pointer (some ⟨E.mb,0,none⟩)] w fun r w'=>r= .returned (.bool (b.inBehind m).2.2)∧SM E ws (c+1) s (b.inBehind m).1 (b.inBehind m).2.1 w':=by
 have H:=Lib.hid h
 obtain⟨c0, -,c2, -, -⟩:=H.out.sx.mc
 obtain⟨-,d1, -,d3, -,d5, -, -, -, -, -⟩:=H.out.sx.bc
 have f3:=H.out.sx.bf 3 (by omega)
 have hne: ¬E.mb=E.bb:=fun e=>H.out.sx.mo.ne e.symm
 have hne2: ¬E.bb=E.mb:=H.out.sx.mo.ne
 clear h
 go_enter Tryz.func70,Tryz.ntmps70
 go_wp2_with ((first
  |(go_at_call 111;go_must (refine' tB (blank_sm ?h hu) ?_))
  |(go_at_call 109;go_must (refine' tB (start_sm ?h ?_) ?_))
  |(go_at_call 108;go_must (refine' tB (end_sm ?h ?_) ?_))
  |(go_at_call 110;go_must (first|with_reducible refine' (insert0_sm ?h _ ?n).mono ?_|with_reducible refine' (insertm_sm ?h _ ?n ?r).mono ?_)));go_must ((case h=>with_reducible first|exact H.out|exact H.out.text _ (by assumption)|exact(H.out.text _ (by assumption)).mode _|exact H.out.mode _|exact H.out.head _|exact H.out.skip _|exact H.out.wait _|exact(H.out.mode _).back _|exact H.out.mname _ (by decide));(try case n=>first|decide|exact H.out.sx.mo.nlen);(try case r=>rfl);any_goals first|(rintro e w1 ⟨rfl,h1⟩;(try simp only[namesOf_mk,strOf,List.map_cons,List.map_nil,BuD.ends]at h1);clear c0 c2 d1 d3 d5 f3;replace H:=Lib.hid h1;clear h1;obtain⟨c0, -,c2, -, -⟩:=H.out.sx.mc;obtain⟨-,d1, -,d3, -,d5, -, -, -, -, -⟩:=H.out.sx.bc;have f3:=H.out.sx.bf 3 (by omega))|(intro t ht w1 h1;(try simp only[namesOf_mk,strOf,List.map_cons,List.map_nil,BuD.ends]at ht h1);cases t <;>((try simp only[ht,reduceIte,Bool.false_eq_true]at h1);clear c0 c2 d1 d3 d5 f3;replace H:=Lib.hid h1;clear h1;obtain⟨c0, -,c2, -, -⟩:=H.out.sx.mc;obtain⟨-,d1, -,d3, -,d5, -, -, -, -, -⟩:=H.out.sx.bc;have f3:=H.out.sx.bf 3 (by omega)))|exact⟨by first|with_reducible rfl|simp[World.setCell],by rfl,by rfl,by first|decide|simp[namesOf]⟩|omega|fail))
 all_goals try (
  try have e01:((BuD.blankM m).kind==1)=true:=beq_iff_eq.2 (by assumption)
  try have e01:((BuD.blankM m).kind==1)=false:=beq_eq_false_iff_ne.2 (by assumption)
  try have e02:((BuD.blankM m).kind==2)=true:=beq_iff_eq.2 (by assumption)
  try have e02:((BuD.blankM m).kind==2)=false:=beq_eq_false_iff_ne.2 (by assumption)
  try have e03:((BuD.blankM m).kind==3)=true:=beq_iff_eq.2 (by assumption)
  try have e03:((BuD.blankM m).kind==3)=false:=beq_eq_false_iff_ne.2 (by assumption)
  try have e06:((BuD.blankM m).kind==6)=true:=beq_iff_eq.2 (by assumption)
  try have e06:((BuD.blankM m).kind==6)=false:=beq_eq_false_iff_ne.2 (by assumption)
  go_ret
  have hv:=BuD.inBehind.eq_1 b m
  simp only[*,bools,if_true,if_false,reduceIte,beq_self_eq_true,Int.reduceBEq]at hv
  rw[hv]
  refine⟨by first|rfl|(rw[ht];rfl),?_⟩
  exact SM.more (by first|(with_reducible first|exact H.out|exact H.out.mode _|exact H.out.skip _|exact H.out.head _|exact(H.out.mode _).back _|exact(H.out.wait _)|exact H.out.drew.wait _|exact(H.out.wait _).drew|exact H.out.text _ (by assumption)|exact(H.out.text _ (by assumption)).mode _|exact(H.out.mode _).head _|exact(H.out.head _))|exact H.out|exact H.out.mode _|exact H.out.skip _) (by omega) (by omega))
 case _ =>
  have hl1:(b.blankB m).S.l.length<1000000:=by have:=H.out.ok.len;omega
  have hl2:((b.blankB m).push (b.blankB m).head).S.l.length<1000000:=by show((b.blankB m).S.l++ [(b.blankB m).head]).length<1000000;rw[List.length_append,List.length_singleton];have:=H.out.ok.len;omega
  have HO:=Lib.hid (H.out.ok.behind (m:=BuD.blankM m) H.out.sx.mo.fits (b.blankB m).head)
  have HP:=Lib.hid (push_sx (H.out.sx.world (Below.refl w1.heap.size w1).drew) hl1 (b.blankB m).head)
  have HHD:=Lib.hid (heads_head ((b.blankB m).push (b.blankB m).head) (BuD.blankM m))
  clear c0 c2 d3 f3
  have p1:=d1
  have p5:=d5
  clear d1 d5
  go_region_law (first
   |(go_simp;go_at_call 113;refine HP.out.mono ?_
     rintro e w2 ⟨rfl,h2⟩
     have H2:=Lib.hid h2
     clear h2))
  all_goals
   try simp only[Act.put,List.getElem_toArray,List.getElem_cons_succ,List.getElem_cons_zero,List.setIfInBounds_toArray,List.set_cons_zero,List.set_cons_succ]
   go_wp2_with (go_at_call 112;go_must (refine(heads_sx H2.out hl2).mono ?_;rintro e w3 ⟨rfl,h3⟩;have H3:=Lib.hid h3;clear h3))
   obtain⟨-,d1, -, -, -,d5, -⟩:=H3.out.bc
   rw[HHD.out]at d5
   have d5':w3.cell? ⟨E.bb,5,none⟩=some (.int .i64 (b.blankB m).head):=d5
   clear d5
   have HQ:=Lib.hid (sremove_sx (H3.out.world (Below.refl w3.heap.size w3).drew) (b.blankB m).head)
   go_region_law (first
    |(go_simp;go_at_call 114;refine HQ.out.mono ?_
      rintro e w4 ⟨rfl,h4⟩
      have H4:=Lib.hid h4
      clear h4))
   all_goals
    try simp only[Act.put,List.getElem_toArray,List.getElem_cons_succ,List.getElem_cons_zero,List.setIfInBounds_toArray,List.set_cons_zero,List.set_cons_succ]
    go_wp2_with fail
    go_ret
    have hv:=BuD.inBehind.eq_1 b m
    simp only[*,bools,if_true,if_false,reduceIte,beq_self_eq_true,Int.reduceBEq]at hv
    rw[hv]
    exact⟨rfl,SM.more ⟨H4.out,HO.out⟩ (by omega) (by omega)⟩
end
end
section
section
variable {E:BE} {ws w w':World} {c:Nat} {s:Int} {b b':BuD} {m m':BMark}
theorem SM.drew (h:SM E ws c s b m w):SM E ws c s b m w.drew:=h.world (Below.refl w.heap.size w).drew
theorem itemR_step (names:List ByteArray) (b:BuD) (l:List Int) (k:Nat) (h:k<l.length):BuD.itemR names b (l.take (k+1)).reverse =
 if(spaceQ b.S.T l[k]==0)&&oneF names (nameQ b.S.T l[k])then(b.imply (nameQ b.S.T l[k])).until' [nameQ b.S.T l[k]]
 else if specialF (spaceQ b.S.T l[k]) (nameQ b.S.T l[k])&& !((spaceQ b.S.T l[k]==0)&&oneF [⟨#[97,100,100,114,101,115,115]⟩,⟨#[100,105,118]⟩,⟨#[112]⟩] (nameQ b.S.T l[k]))then b
 else BuD.itemR names b (l.take k).reverse:=by
 rw[List.take_succ_eq_append_getElem h,List.reverse_append,List.reverse_singleton,List.singleton_append,BuD.itemR]
theorem item_sm (h:SM E ws c s b m w) {g:Nat} {cur:Array Value} {e:TypeId} {n ca:Nat} (L:Lay g w cur n) :
 Calls Tryz.prog 206 #[.pointer (some ⟨E.bb,0,none⟩),.slice (some ⟨g,0,none⟩) n ca] (w.alloc (.cells cur e)) fun r w'=>r= .returned (.tuple #[])∧SM E ws c s (b.item (namesOf cur)) m w':=by
 obtain⟨hg,hc,hn,hl⟩:=L
 subst hg
 have HN:=Lib.hid (names_at (w:=w) (e:=e) hc)
 have H:=Lib.hid (h.alloc (.cells cur e))
 generalize namesOf cur=names at *
 generalize w.alloc (.cells cur e)=wa at *
 generalize (some ⟨w.heap.size,0,none⟩:Option Addr)=ad at *
 have hlen:=H.out.ok.len.1
 obtain⟨-,d1, -⟩:=H.out.sx.bc
 have HAll:=Lib.hid (all_sm H.out)
 obtain⟨l,hL⟩: ∃l,l=b.S.l:=⟨_,rfl⟩
 have HV:Hid (b.item names=BuD.itemR names b (l.take l.length).reverse):=Lib.hid (by rw[List.take_of_length_le (Nat.le_refl _),hL];rfl)
 rw[←hL]at hlen HAll
 clear h hc hL
 subst hn
 go_enter Tryz.func206,Tryz.ntmps206
 go_wp2_with (go_at_call 105;go_must (refine HAll.out.mono ?_;rintro e w1 ⟨v,rfl,ho,hb,h1⟩;obtain⟨va,vc,rfl,hv1,hv2,hv3,hat⟩:=own_at ho;have H1:=Lib.hid h1;have HA:=Lib.hid hat;have HN1:=Lib.hid (HN.out.below hb);clear ho hb h1 hat hv3))
 go_loopw [5] (fun i wr=> ∃k:Nat,k≤l.length∧i= .int .i64 ((k:Int)-1)∧Hid (SM E ws c s b m wr)∧Hid (Below w1.heap.size w1 wr)∧Hid (b.item names=BuD.itemR names b (l.take k).reverse)) (fun i _=>(intOf i+1).toNat)
 case atStart=>exact⟨l.length,Nat.le_refl _,rfl,H1,Lib.hid (Below.refl _ _),HV⟩
 case round =>
  obtain⟨k,hk,rfl,HR,HB,HVr⟩:=hrel
  cases k with
  |zero =>
   go_wp2_with fail
   go_end0
   rw[HVr.out]
   exact⟨rfl,HR.out⟩
  |succ k =>
   have hlt:k<l.length:=by omega
   obtain⟨bb,o,rfl⟩:=HA.out.some_of (by intro h;have:=congrArg List.length h;rw[intsV_length,List.length_nil]at this;omega)
   have hx:=cell_later HB.out (HA.out.get (intsV_get l k hlt))
   have e1:((k+1:Nat):Int)-1=(k:Int):=by omega
   rw[e1]
   obtain⟨d0, -⟩:=HR.out.sx.bc
   have HST:=Lib.hid (itemR_step names b l k hlt)
   obtain⟨x,hxx⟩: ∃x,x=l[k]:=⟨_,rfl⟩
   rw[←hxx]at hx HST
   have HW:=Lib.hid (what_sm (HR.out.drew) x)
   clear hxx
   go_wp2_with fail
   go_region_law (first
    |(go_simp;go_at_call 49;refine HW.out.mono ?_
      rintro e w2 ⟨v,rfl, -,hb2,h2⟩
      have H2:=Lib.hid h2
      have HB2:=Lib.hid (HB.out.drew.trans (hb2.mono HB.out.drew.size))
      clear h2 hb2))
   all_goals
    try simp only[Act.put,List.getElem_toArray,List.getElem_cons_succ,List.getElem_cons_zero,List.setIfInBounds_toArray,List.set_cons_zero,List.set_cons_succ]
    clear HW
    generalize spaceQ b.S.T x=xs at *
    generalize nameQ b.S.T x=xn at *
    have HN2:=Lib.hid (HN1.out.below HB2.out)
    have HO:=Lib.hid (one_any xn names ad ca w2 (by unfold maxLen;omega) HN2.out)
    have HSp:Hid (∀u,Calls Tryz.prog 211 #[.int .i64 xs,.string xn] u fun e w'=>e= .returned (.bool (specialF xs xn))∧u=w'):=Lib.hid fun u=>Special_any xs xn u
    generalize specialF xs xn=t3 at *
    generalize oneF names xn=t at *
    obtain⟨-,d1', -⟩:=H2.out.sx.bc
    by_cases hx0:xs=0
    ·subst hx0
     have hst:=HST.out
     simp only[beq_self_eq_true,Bool.true_and]at hst
     clear HST
     cases t
     ·cases t3
      ·go_wp2_with (first
        |(go_at_call 158;go_must (with_reducible refine HO.out.mono ?_;rintro e w3 ⟨rfl,rfl⟩))
        |(go_at_call 211;go_must (with_reducible refine(HSp.out _).mono ?_;rintro e w4 ⟨rfl,rfl⟩)))
       go_roundw
       case rel=>exact⟨k,by omega,by go_num,H2,HB2,Lib.hid (by rw[HVr.out,hst];simp)⟩
       case measure=>simp[intOf]
      ·go_wp2_with (first
        |(go_at_call 158;go_must (first
           |(with_reducible refine HO.out.mono ?_;rintro e w3 ⟨rfl,rfl⟩)
           |(refine(one_any xn [⟨#[97,100,100,114,101,115,115]⟩,⟨#[100,105,118]⟩,⟨#[112]⟩] _ _ _ (by decide) (at_alloc rfl rfl)).mono ?_;rintro e w3 ⟨rfl,rfl⟩;generalize oneF [⟨#[97,100,100,114,101,115,115]⟩,⟨#[100,105,118]⟩,⟨#[112]⟩] xn=t2 at *;cases t2)))
        |(go_at_call 211;go_must (with_reducible refine(HSp.out _).mono ?_;rintro e w4 ⟨rfl,rfl⟩)))
       ·first|go_end0|refine bodyPost_ret (results_none rfl _ _ _) rfl ?_
        rw[HVr.out,hst]
        exact⟨by first|rfl|trivial,H2.out.alloc _⟩
       ·go_roundw
        case rel=>exact⟨k,by omega,by go_num,Lib.hid (H2.out.alloc _),Lib.hid (HB2.out.alloc HB2.out.size _),Lib.hid (by rw[HVr.out,hst];simp)⟩
        case measure=>simp[intOf]
     ·go_wp2_with (first
       |(go_at_call 158;go_must (with_reducible refine HO.out.mono ?_;rintro e w3 ⟨rfl,rfl⟩))
       |(go_at_call 125;go_must (refine(imply_sm H2.out xn).mono ?_;rintro e w5 ⟨rfl,h5⟩;obtain⟨-,d5, -⟩:=h5.sx.bc;have H5:=Lib.hid h5;clear h5))
       |(go_at_call 122;go_must (refine(until_sm H5.out ⟨rfl,by rfl,by rfl,by simp[namesOf]⟩).mono ?_;rintro e w6 ⟨rfl,h6⟩;simp only[namesOf_mk,strOf,List.map_cons,List.map_nil]at h6;have H6:=Lib.hid h6;clear h6)))
      first|go_end0|refine bodyPost_ret (results_none rfl _ _ _) rfl ?_
      rw[HVr.out,hst,if_pos trivial]
      exact⟨rfl,H6.out⟩
    ·have hx1:(xs==0)=false:=beq_eq_false_iff_ne.2 hx0
     clear hx0
     have hst:=HST.out
     simp only[hx1,Bool.false_and,Bool.not_false,Bool.and_true,Bool.false_eq_true,if_false]at hst
     clear HST
     cases t3
     ·go_wp2_with (first
       |(go_at_call 211;go_must (with_reducible refine(HSp.out _).mono ?_;rintro e w4 ⟨rfl,rfl⟩)))
      go_roundw
      case rel=>exact⟨k,by omega,by go_num,H2,HB2,Lib.hid (by rw[HVr.out,hst];simp)⟩
      case measure=>simp[intOf]
     ·go_wp2_with (first
       |(go_at_call 211;go_must (with_reducible refine(HSp.out _).mono ?_;rintro e w4 ⟨rfl,rfl⟩)))
      first|go_end0|refine bodyPost_ret (results_none rfl _ _ _) rfl ?_
      rw[HVr.out,hst]
      exact⟨by first|rfl|trivial,H2.out⟩
theorem modeR_step (T:TreeD) (l:List Int) (k:Nat) (h:k<l.length):BuD.modeR T (l.take (k+1)).reverse=BuD.modeR T (l[k]::(l.take k).reverse):=by
 rw[List.take_succ_eq_append_getElem h,List.reverse_append,List.reverse_singleton,List.singleton_append]
theorem reset_sm (h:SM E ws c s b m w):Calls Tryz.prog 123 #[.pointer (some ⟨E.bb,0,none⟩)] w fun r w'=>r= .returned (.tuple #[])∧SM E ws c s b.reset m w':=by
 have H:=Lib.hid h
 have hlen:=H.out.ok.len.1
 have hlt0:=H.out.sx.bm.row.lt
 obtain⟨-,d1, -⟩:=H.out.sx.bc
 have HAll:=Lib.hid (all_sm H.out)
 obtain⟨l,hL⟩: ∃l,l=b.S.l:=⟨_,rfl⟩
 have HV:Hid (BuD.modeR b.S.T b.S.l.reverse=BuD.modeR b.S.T (l.take l.length).reverse):=Lib.hid (by rw[List.take_of_length_le (Nat.le_refl _),hL])
 rw[←hL]at hlen HAll
 clear h hL
 go_enter Tryz.func123,Tryz.ntmps123
 go_wp2_with (go_at_call 105;go_must (refine HAll.out.mono ?_;rintro e w1 ⟨v,rfl,ho,hb,h1⟩;obtain⟨va,vc,rfl,hv1,hv2,hv3,hat⟩:=own_at ho;obtain⟨-, -, -,d3, -⟩:=h1.sx.bc;have f3:=h1.sx.bf 3 (by omega);have H1:=Lib.hid (h1.mode 4);have HA:=Lib.hid (AtF.of_new (F:=fun k=>k=E.bb) hat (fun b' o' s' e' (hx:b'=E.bb)=>by have:=(ho.lt b' (by rw[e'];rfl)).1;omega));have HK:=Lib.hid (Keeps.set (F:=fun k=>k=E.bb) (Keeps.refl _ w1) (p:=⟨E.bb,3,none⟩) (.inl rfl) (.int .i64 4));clear ho hb h1 hat hv3))
 go_loopw [3] (fun i wr=> ∃k:Nat,k≤l.length∧i= .int .i64 ((k:Int)-1)∧Hid (SM E ws c s (b.goto 4) m wr)∧Hid (Keeps (fun k=>k=E.bb) w1 wr)∧Hid (BuD.modeR b.S.T b.S.l.reverse=BuD.modeR b.S.T (l.take k).reverse)) (fun i _=>(intOf i+1).toNat)
 case atStart=>exact⟨l.length,Nat.le_refl _,rfl,H1,HK,HV⟩
 case round =>
  obtain⟨k,hk,rfl,HR,HB,HVr⟩:=hrel
  cases k with
  |zero =>
   go_wp2_with fail
   go_end0
   unfold BuD.reset
   rw[HVr.out]
   exact⟨rfl,HR.out⟩
  |succ k =>
   have hlt:k<l.length:=by omega
   obtain⟨bb,o,rfl⟩:=HA.out.at.some_of (by intro h;have:=congrArg List.length h;rw[intsV_length,List.length_nil]at this;omega)
   have hx:=(HA.out.kept HB.out).at.get (intsV_get l k hlt)
   have e1:((k+1:Nat):Int)-1=(k:Int):=by omega
   rw[e1]
   obtain⟨d0, -⟩:=HR.out.sx.bc
   have hst:=modeR_step b.S.T l k hlt
   obtain⟨x,hxx⟩: ∃x,x=l[k]:=⟨_,rfl⟩
   rw[←hxx]at hx hst
   rw[BuD.modeR]at hst
   have HST:=Lib.hid hst
   have HW:=Lib.hid (what_sm (HR.out.drew) x)
   clear hxx hst d3 f3
   go_wp2_with fail
   go_region_law (first
    |(go_simp;go_at_call 49;refine HW.out.mono ?_
      rintro e w2 ⟨v,rfl, -,hb2,h2⟩
      have H2:=Lib.hid h2
      have HB2:=Lib.hid (HB.out.drew.trans (Keeps.ofBelow hb2))
      clear h2 hb2))
   all_goals
    try simp only[Act.put,List.getElem_toArray,List.getElem_cons_succ,List.getElem_cons_zero,List.setIfInBounds_toArray,List.set_cons_zero,List.set_cons_succ]
    clear HW
    generalize hxs:spaceQ (b.goto 4).S.T x=xs at *
    generalize hxn:nameQ (b.goto 4).S.T x=xn at *
    replace hxs:spaceQ b.S.T x=xs:=hxs
    replace hxn:nameQ b.S.T x=xn:=hxn
    rw[hxs,hxn]at HST
    clear hxs hxn
    obtain⟨-, -, -,d3, -⟩:=H2.out.sx.bc
    have f3:=H2.out.sx.bf 3 (by omega)
    by_cases hx0:xs=0
    ·subst hx0
     go_wp2_with fail
     all_goals try (first|exact clash (x:=xn.toList) (l:=([116,100]:List UInt8)) (by assumption) (by assumption)|exact clash (x:=xn.toList) (l:=([116,104]:List UInt8)) (by assumption) (by assumption)|exact clash (x:=xn.toList) (l:=([116,114]:List UInt8)) (by assumption) (by assumption)|exact clash (x:=xn.toList) (l:=([116,98,111,100,121]:List UInt8)) (by assumption) (by assumption)|exact clash (x:=xn.toList) (l:=([116,104,101,97,100]:List UInt8)) (by assumption) (by assumption)|exact clash (x:=xn.toList) (l:=([116,102,111,111,116]:List UInt8)) (by assumption) (by assumption)|exact clash (x:=xn.toList) (l:=([99,97,112,116,105,111,110]:List UInt8)) (by assumption) (by assumption)|exact clash (x:=xn.toList) (l:=([99,111,108,103,114,111,117,112]:List UInt8)) (by assumption) (by assumption)|exact clash (x:=xn.toList) (l:=([116,97,98,108,101]:List UInt8)) (by assumption) (by assumption)|exact clash (x:=xn.toList) (l:=([98,111,100,121]:List UInt8)) (by assumption) (by assumption))
     all_goals
      have hst:=HST.out
      simp only[*,ne_eq,not_true_eq_false,if_false,if_true,Bool.or_true,Bool.true_or,Bool.or_false,Bool.or_self,Bool.false_eq_true]at hst
      first
       |(first|go_end0|refine bodyPost_ret (results_none rfl _ _ _) rfl ?_
         unfold BuD.reset
         rw[HVr.out,hst]
         first|exact⟨rfl,H2.out.mode _⟩|exact⟨rfl,H2.out⟩)
       |(go_roundw
         case rel=>exact⟨k,by omega,by go_num,H2,HB2,Lib.hid (by rw[HVr.out,hst])⟩
         case measure=>simp[intOf])
    ·have hx1:(xs !=0)=true:=by simpa using hx0
     have hst:=HST.out
     rw[if_pos hx0]at hst
     clear hx0
     go_wp2_with fail
     go_roundw
     case rel=>exact⟨k,by omega,by go_num,H2,HB2,Lib.hid (by rw[HVr.out,hst])⟩
     case measure=>simp[intOf]
end
end
end Go.Proofs.YtgepobccoffnaaaGreatDoor
