/- Texts joined for a claim: CuO, CuR, BuMp, CuQ, CuS, CuTa: plain laws and contracts. No conditions beyond those that each lemma types. -/
import Derived.Test.YtgepobccoffnaaaGreatDoorT22
import Derived.Test.YtgepobccoffnaaaGreatDoorT19
import Derived.WideMake
set_option linter.unusedVariables false
set_option linter.unusedSimpArgs false
set_option maxRecDepth 100000
set_option maxHeartbeats 8000000
namespace Go.Proofs.YtgepobccoffnaaaGreatDoor
open Go.RowKit Mem
section
section
variable {E:BE} {ws w w':World} {c:Nat} {s:Int} {b b':BuD} {m m':BMark}
theorem large_fits: ∀(l:List ByteArray) (name:ByteArray),(∀x∈l,x.size≤maxLen)→name.size≤maxLen→(large l name).size≤maxLen
 | [],_,_,h=>h
 |x::r,name,hl,h=>by
  rw[large]
  split
  ·exact hl x (.head _)
  ·exact large_fits r name (fun y hy=>hl y (.tail _ hy)) h
theorem svg_fits:(svgNames.all fun x=>decide (x.size≤maxLen))=true:=by kernel_rfl
theorem nameF_fits (sp:Int) {name:ByteArray} (h:name.size≤maxLen):(nameF sp name).size≤maxLen:=by
 unfold nameF
 split
 ·exact large_fits _ _ (fun x hx=>by simpa using List.all_eq_true.1 svg_fits x hx) h
 ·exact h
theorem attrsF_short (sp:Int) {l:List Pair} (h: ∀p∈l,Shorts p): ∀p∈attrsF sp l,Shorts p:=fun p hp=>by
 unfold attrsF at hp
 obtain⟨q,hq,rfl⟩:=List.mem_map.1 hp
 exact h q hq
theorem alien_sm (h:SM E ws c s b m w) (sp:Int):Calls Tryz.prog 65 #[.pointer (some ⟨E.bb,0,none⟩),.pointer (some ⟨E.mb,0,none⟩),.int .i64 sp] w fun r w'=>r= .returned (.tuple #[])∧SM E ws c s (b.alien m sp) m w':=by
 have HK:Hid (Ok c s (b.alien m sp)):=Lib.hid (by
  have h1:=(h.ok.insSp sp (nameF sp m.name) ⟨nameF_fits sp h.sx.mo.nlen,attrsF_short sp h.sx.mo.ash⟩).more (Nat.le_refl _) (show s-1≤s by omega)
  unfold BuD.alien
  simp only
  split
  ·exact h1.pop
  ·exact h1)
 have HV:Hid (b.alien m sp=if m.self then(BuD.keep {b with S:=⟨(insertL b.S.T b.S.l b.on sp (nameF sp m.name) (attrsF sp m.attrs)).1,(insertL b.S.T b.S.l b.on sp (nameF sp m.name) (attrsF sp m.attrs)).2.1,b.S.ent⟩} (insertL b.S.T b.S.l b.on sp (nameF sp m.name) (attrsF sp m.attrs)).2.2.2).pop else BuD.keep {b with S:=⟨(insertL b.S.T b.S.l b.on sp (nameF sp m.name) (attrsF sp m.attrs)).1,(insertL b.S.T b.S.l b.on sp (nameF sp m.name) (attrsF sp m.attrs)).2.1,b.S.ent⟩} (insertL b.S.T b.S.l b.on sp (nameF sp m.name) (attrsF sp m.attrs)).2.2.2):=Lib.hid rfl
 have hll:=h.ok.len.1
 have hal:(attrsF sp m.attrs).length=m.attrs.length:=by unfold attrsF;rw[List.length_map]
 have HI:Hid (∀u,SX E ws b m u→ ∀(va:Option Addr) (vc:Nat),(va=none→vc=0)→At u va (pairsV (attrsF sp m.attrs))→Calls Tryz.prog 102 #[.pointer (some ⟨E.lb,0,none⟩),.int .i64 sp,.string (nameF sp m.name),.slice va m.attrs.length vc] u fun r w'=>r= .returned (.tuple #[.int .i64 (insertL b.S.T b.S.l b.on sp (nameF sp m.name) (attrsF sp m.attrs)).2.2.1,.int .i64 (insertL b.S.T b.S.l b.on sp (nameF sp m.name) (attrsF sp m.attrs)).2.2.2])∧SX E ws {b with S:=⟨(insertL b.S.T b.S.l b.on sp (nameF sp m.name) (attrsF sp m.attrs)).1,(insertL b.S.T b.S.l b.on sp (nameF sp m.name) (attrsF sp m.attrs)).2.1,b.S.ent⟩} m w'):=Lib.hid fun u hu va vc hv ha =>
  (Insert_li hu.bm.li (by omega) sp (nameF sp m.name) (attrsF sp m.attrs) m.attrs.length va vc hal.symm hv (by rw[hal];exact hu.mo.alen) ha).mono fun _ _ ⟨hr,hl,hk⟩=>⟨hr,hu.call (b':= {b with S:=⟨(insertL b.S.T b.S.l b.on sp (nameF sp m.name) (attrsF sp m.attrs)).1,(insertL b.S.T b.S.l b.on sp (nameF sp m.name) (attrsF sp m.attrs)).2.1,b.S.ent⟩}) hl hk rfl⟩
 have HNm:Hid (∀u,Calls Tryz.prog 103 #[.int .i64 sp,.string m.name] u fun e w'=>e= .returned (.string (nameF sp m.name))∧Below u.heap.size u w'):=Lib.hid fun u=>name_any sp m.name u
 have HAt:Hid (∀u,SX E ws b m u→Calls Tryz.prog 104 #[.int .i64 sp,.slice E.a m.attrs.length E.ac] u fun e w'=> ∃va vc,e= .returned (.slice va m.attrs.length vc)∧(va=none→vc=0)∧At w' va (pairsV (attrsF sp m.attrs))∧Below u.heap.size u w'):=Lib.hid fun u hu =>
  (attrs_any sp m.attrs E.a E.ac u (by have:=hu.mo.alen;omega) hu.at).mono fun _ _ ⟨v,hr,ho,hb⟩=>by
    obtain⟨va,vc,rfl,_,_,hn,hat⟩:=own_at ho
    exact⟨va,vc,hr,hn,hat,hb⟩
 obtain⟨-,c1,c2,c3, -⟩:=h.sx.mc
 obtain⟨-, -,d2, -⟩:=h.sx.bc
 have H:=Lib.hid h.sx.mo.ne
 have HS:=Lib.hid (h.sx.world (Below.refl w.heap.size w).drew)
 clear h hll hal
 generalize insertL b.S.T b.S.l b.on sp (nameF sp m.name) (attrsF sp m.attrs)=q at *
 obtain⟨U,l2,x,er⟩:=q
 dsimp only at HI HV
 generalize nameF sp m.name=nm at *
 generalize attrsF sp m.attrs=ats at *
 go_enter Tryz.func65,Tryz.ntmps65
 go_wp2_with fail
 go_region_law (first
  |(go_simp;go_at_call 103;refine(HNm.out _).mono ?_
    rintro e w2 ⟨rfl,hb⟩
    replace HS:=Lib.hid (HS.out.world hb)
    try replace HA:=Lib.hid (HA.out.below hb)
    clear hb c1 c2 c3 d2
    obtain⟨-,c1,c2,c3, -⟩:=HS.out.mc
    obtain⟨-, -,d2, -⟩:=HS.out.bc)
  |(go_simp;go_at_call 104;refine(HAt.out _ HS.out).mono ?_
    rintro e w3 ⟨va,vc,rfl,hn,hat,hb⟩
    replace HS:=Lib.hid (HS.out.world hb)
    have HA:=Lib.hid hat
    have HN:=Lib.hid hn
    clear hn hat hb c1 c2 c3 d2
    obtain⟨-,c1,c2,c3, -⟩:=HS.out.mc
    obtain⟨-, -,d2, -⟩:=HS.out.bc)
  |(go_simp;go_at_call 102;refine(HI.out _ HS.out _ _ HN.out HA.out).mono ?_
    rintro e w4 ⟨rfl,h4⟩
    have H4:=Lib.hid h4
    clear h4))
 all_goals
  try simp only[Act.put,List.getElem_toArray,List.getElem_cons_succ,List.getElem_cons_zero,List.setIfInBounds_toArray,List.set_cons_zero,List.set_cons_succ]
  clear c1 c2 c3 d2
  obtain⟨-, -, -,c3, -⟩:=H4.out.mc
  obtain⟨-,d1, -⟩:=H4.out.bc
  have HMS:Hid (m.self=m.self):=Lib.hid rfl
  generalize hsf:m.self=sf at c3 HV HMS
  by_cases he:er=0
  ·subst he
   rw[BuD.keep_zero]at HV
   cases sf
   ·go_wp2_with fail
    go_end0
    refine⟨rfl,?_,HK.out⟩
    rw[HV.out]
    exact H4.out
   ·go_wp2_with (go_at_call 64;go_must (refine(pop_sx H4.out).mono ?_;rintro e w5 ⟨rfl,h5⟩;have H5:=Lib.hid h5;clear h5))
    go_end0
    refine⟨rfl,?_,HK.out⟩
    rw[HV.out]
    exact H5.out
  ·have he':(er !=0)=true:=by simpa using he
   have HF:=Lib.hid (fail_sx H4.out er)
   have HVF:Hid (BuD.keep {b with S:=⟨U,l2,b.S.ent⟩} er=BuD.fail {b with S:=⟨U,l2,b.S.ent⟩} er):=Lib.hid (by rw[BuD.keep,if_neg he])
   rw[HVF.out]at HV
   clear he HVF
   cases sf
   ·go_wp2_with (go_at_call 34;go_must (refine HF.out.mono ?_;rintro e w5 ⟨rfl,h5⟩;obtain⟨-, -, -,g3, -⟩:=h5.mc;rw[hsf]at g3;have H5:=Lib.hid h5;clear h5))
    go_end0
    refine⟨rfl,?_,HK.out⟩
    rw[HV.out]
    exact H5.out
   ·go_wp2_with (first
     |(go_at_call 34;go_must (refine HF.out.mono ?_;rintro e w5 ⟨rfl,h5⟩;obtain⟨-, -, -,g3, -⟩:=h5.mc;rw[hsf]at g3;obtain⟨-,g1, -⟩:=h5.bc;have H5:=Lib.hid h5;clear h5))
     |(go_at_call 64;go_must (refine(pop_sx H5.out).mono ?_;rintro e w6 ⟨rfl,h6⟩;have H6:=Lib.hid h6;clear h6)))
    go_end0
    refine⟨rfl,?_,HK.out⟩
    rw[HV.out]
    exact H6.out
end
end
section
section
variable {E:BE} {ws w w':World} {c:Nat} {s:Int} {b b':BuD} {m m':BMark}
theorem closes_sm (h:SM E ws c s b m w) (hc:c≤100000):Calls Tryz.prog 117 #[.pointer (some ⟨E.bb,0,none⟩),.pointer (some ⟨E.mb,0,none⟩)] w fun r w'=>r= .returned (.bool (b.closes m).2)∧SM E ws c s (b.closes m).1 m w':=by
 have H:=Lib.hid h
 obtain⟨-,c1, -, -, -⟩:=H.out.sx.mc
 obtain⟨-,d1,d2,d3, -, -, -, -, -, -,d10⟩:=H.out.sx.bc
 have f3:=H.out.sx.bf 3 (by omega)
 have hne: ¬E.mb=E.bb:=fun e=>H.out.sx.mo.ne e.symm
 have hne2: ¬E.bb=E.mb:=H.out.sx.mo.ne
 clear h
 go_enter Tryz.func117,Tryz.ntmps117
 go_wp2_with ((first
  |(go_at_call 158;go_must (refine' tB (one_sm ?h ?_) ?_))
  |(go_at_call 121;go_must (refine' tB (has_sm ?h ?_) ?_))
  |(go_at_call 110;go_must (first|with_reducible refine' (insert0_sm ?h _ ?n).mono ?_|with_reducible refine' (insertm_sm ?h _ ?n ?r).mono ?_))
  |(go_at_call 173;go_must (refine' (paragraph_sm ?h).mono ?_))
  |(go_at_call 163;go_must (refine' tB (block_sm ?h _) ?_))
  |(go_at_call 174;go_must (refine' tB (ends_sm ?h ?_) ?_))
  |(go_at_call 164;go_must (refine' tB (heading_sm ?h _) ?_))
  |(go_at_call 170;go_must (refine' tB (formed_sm ?h _) ?_))
  |(go_at_call 167;go_must (refine' tB (adopt_sm ?h ?_ _) ?_))
  |(go_at_call 175;go_must (refine' (other_sm ?h _).mono ?_))
  |(go_at_call 126;go_must (refine' (lclear_sm ?h).mono ?_))
  |(go_at_call 115;go_must (refine' (restore_sm ?h ?_).mono ?_))
  |(go_at_call 127;go_must (first|with_reducible refine' (single0_sm ?h _ ?n).mono ?_|with_reducible refine' (singlem_sm ?h _ ?n ?r).mono ?_)));go_must ((case h=>with_reducible first|exact H.out|exact H.out.text _ (by assumption)|exact(H.out.text _ (by assumption)).mode _|exact H.out.mode _|exact H.out.head _|exact H.out.skip _|exact H.out.wait _|exact(H.out.mode _).back _|exact H.out.mname _ (by decide));(try case n=>first|decide|exact H.out.sx.mo.nlen);(try case r=>rfl);any_goals first|(rintro e w1 ⟨rfl,h1⟩;(try simp only[namesOf_mk,strOf,List.map_cons,List.map_nil,BuD.ends]at h1);clear c1 d1 d2 d3 f3 d10;replace H:=Lib.hid h1;clear h1;obtain⟨-,c1, -, -, -⟩:=H.out.sx.mc;obtain⟨-,d1,d2,d3, -, -, -, -, -, -,d10⟩:=H.out.sx.bc;have f3:=H.out.sx.bf 3 (by omega))|(intro t ht w1 h1;(try simp only[namesOf_mk,strOf,List.map_cons,List.map_nil,BuD.ends]at ht h1);cases t <;>((try simp only[ht,reduceIte,Bool.false_eq_true]at h1);clear c1 d1 d2 d3 f3 d10;replace H:=Lib.hid h1;clear h1;obtain⟨-,c1, -, -, -⟩:=H.out.sx.mc;obtain⟨-,d1,d2,d3, -, -, -, -, -, -,d10⟩:=H.out.sx.bc;have f3:=H.out.sx.bf 3 (by omega)))|exact⟨by first|with_reducible rfl|simp[World.setCell],by rfl,by rfl,by first|decide|simp[namesOf]⟩|omega|fail))
 all_goals try (first|exact clash (x:=m.name.toList) (l:=([97]:List UInt8)) (by assumption) (by assumption)|exact clash (x:=m.name.toList) (l:=([110,111,98,114]:List UInt8)) (by assumption) (by assumption))
 all_goals try (
  try have e0:((b.adopt m.name).err==0)=true:=beq_iff_eq.2 (by assumption)
  try have e0:((b.adopt m.name).err==0)=false:=beq_eq_false_iff_ne.2 (by assumption)
  (first|go_ret|refine bodyPost_ret (results_none rfl _ _ _) rfl ?_)
  have hv:=BuD.closes.eq_1 b m
  simp only[*,BuD.ends,headN,bools,if_true,if_false,reduceIte,beq_self_eq_true,Int.reduceBEq]at hv
  rw[hv]
  refine⟨by first|rfl|(rw[ht];rfl),?_⟩
  exact SM.more (by first|(with_reducible first|exact H.out|exact H.out.mode _|exact H.out.skip _|exact H.out.head _|exact(H.out.mode _).back _|exact(H.out.wait _)|exact H.out.drew.wait _|exact(H.out.wait _).drew|exact H.out.text _ (by assumption)|exact(H.out.text _ (by assumption)).mode _|exact(H.out.mode _).head _|exact(H.out.head _))|exact H.out|exact H.out.mode _|exact H.out.skip _) (by omega) (by omega))
 case _ =>
  have HE:Hid (Calls Tryz.prog 174 #[.pointer (some ⟨E.bb,0,none⟩),.int .i64 0,.string m.name,.slice (some ⟨w1.heap.size,0,none⟩) 1 1] (w1.alloc (.cells #[.string m.name] 9)).drew fun r w'=>r= .returned (.bool (b.has 0 [m.name]))∧SM E ws c s (b.ends 0 m.name [m.name]) m w'):=Lib.hid (by
   have h0:=ends_sm (scope:=0) (but:=m.name) (cur:= #[.string m.name]) (e:=9) (n:=1) (ca:=1) H.out.drew ⟨rfl,by rfl,by rfl,by simp[namesOf]⟩
   exact h0)
  have g1:(w1.alloc (.cells #[.string m.name] 9)).cell? ⟨E.mb,1,none⟩=some (.string m.name):=(H.out.alloc _).sx.mc.2.1
  go_region_law (first
   |(go_simp;go_at_call 174;refine HE.out.mono ?_
     rintro e w2 ⟨rfl,h1⟩
     (replace H:=Lib.hid h1;clear h1)))
  all_goals
   try simp only[Act.put,List.getElem_toArray,List.getElem_cons_succ,List.getElem_cons_zero,List.setIfInBounds_toArray,List.set_cons_zero,List.set_cons_succ]
   go_wp2_with fail
   (first|go_ret|refine bodyPost_ret (results_none rfl _ _ _) rfl ?_)
   have hv:=BuD.closes.eq_1 b m
   simp only[*,headN,bools,if_true,if_false,reduceIte,beq_self_eq_true,Int.reduceBEq]at hv
   rw[hv]
   refine⟨by first|rfl|(rw[ht];rfl),?_⟩
   exact SM.more (by first|(with_reducible first|exact H.out|exact H.out.mode _|exact H.out.skip _|exact H.out.head _|exact(H.out.mode _).back _|exact(H.out.wait _)|exact H.out.drew.wait _|exact(H.out.wait _).drew|exact H.out.text _ (by assumption)|exact(H.out.text _ (by assumption)).mode _|exact(H.out.mode _).head _|exact(H.out.head _))|exact H.out|exact H.out.mode _|exact H.out.skip _) (by omega) (by omega)
end
end
section
section
variable {P:Program} {w:World}
def mapW (w:World) (r:Nat) (es:Array MapEntry) (clock:Nat):World:= {w with heap:=w.heap.setIfInBounds r (.map es clock)}
theorem mapW_at {r:Nat} (h:r<w.heap.size) (es:Array MapEntry) (clock:Nat):(mapW w r es clock).heap[r]?=some (.map es clock):=by simp[mapW,h]
theorem mapW_below {r:Nat} {w0:World} {B:Nat} (h:Below B w0 w) (hr:B≤r) (es:Array MapEntry) (clock:Nat):Below B w0 (mapW w r es clock):=by
 refine⟨h.os,h.tape,h.output,?_,fun k hk=> ?_⟩
 ·have:=h.size;simpa[mapW] using this
 ·rw[←h.block k hk]
  have hne:r≠k:=by omega
  simp[mapW,hne]
theorem map_first {T kt et:TypeId} {r clock:Nat} (s:ByteArray) (val:Value) (hm:P.underlying T=some (.map kt et)) (hk:P.underlying kt=some .string) (hb:w.heap[r]?=some (.map #[] clock)) :
 (Instr.mapUpdate T (.map (some r)) (.string s) val).run P w= .ok () (mapW w r #[{key:= .string s,val:=val,born:=clock}] (clock+1)):=run_mapUpdate_first w T kt et r clock s val hm hk hb
theorem map_next {T kt et:TypeId} {r clock:Nat} {s1:ByteArray} {v1:Value} {b1:Nat} (s:ByteArray) (val:Value) (hm:P.underlying T=some (.map kt et)) (hk:P.underlying kt=some .string) (hne:(s==s1)=false) (hb:w.heap[r]?=some (.map #[{key:= .string s1,val:=v1,born:=b1}] clock)) :
 (Instr.mapUpdate T (.map (some r)) (.string s) val).run P w= .ok () (mapW w r #[{key:= .string s1,val:=v1,born:=b1},{key:= .string s,val:=val,born:=clock}] (clock+1)):=by
 have hf:Instr.findNow .string (.string s) [({key:= .string s1,val:=v1,born:=b1}:MapEntry)] 0=some none:=by simp[Instr.findNow,Instr.sameNow,hne]
 have hc:(Instr.checkKey false 10000 kt (.string s)).run P w= .ok () w:=MapKept.run_checkKey (k:= .string s) hk (by simp[MapKept.IsKey]) false 9999
 simp[Instr.mapUpdate,run_underlying hm,MapKept.run_getObj_map hb,hc,MapKept.run_findKey hk hf,MapKept.run_setObj_map _ hb,Result.andThen,mapW]
theorem map_ask {T kt et:TypeId} {r clock:Nat} {s1 s2:ByteArray} {v1 v2 v:Value} {b1 b2 i:Nat} (s:ByteArray) (hm:P.underlying T=some (.map kt et)) (hk:P.underlying kt=some .string) (hb:w.heap[r]?=some (.map #[{key:= .string s1,val:=v1,born:=b1},{key:= .string s2,val:=v2,born:=b2}] clock))
 (hf:Instr.findNow .string (.string s) [({key:= .string s1,val:=v1,born:=b1}:MapEntry),{key:= .string s2,val:=v2,born:=b2}] 0=some (some (i,v))) :
 (Instr.lookup T (.map (some r)) (.string s) false).run P w= .ok v w:=by
 have hc:(Instr.checkKey false 10000 kt (.string s)).run P w= .ok () w:=MapKept.run_checkKey (k:= .string s) hk (by simp[MapKept.IsKey]) false 9999
 simp[Instr.lookup,run_underlying hm,MapKept.run_getObj_map hb,hc,MapKept.run_findKey hk hf,Result.andThen]
end
end
section
section
variable {E:BE} {ws w w':World} {c:Nat} {s:Int} {b b':BuD} {m m':BMark}
theorem opens_sm (h:SM E ws c s b m w) (hc:c≤100000):Calls Tryz.prog 116 #[.pointer (some ⟨E.bb,0,none⟩),.pointer (some ⟨E.mb,0,none⟩)] w fun r w'=>r= .returned (.tuple #[])∧SM E ws (c+1) s (b.opens m).1 (b.opens m).2 w':=by
 have H:=Lib.hid h
 obtain⟨-,c1,c2, -, -⟩:=H.out.sx.mc
 obtain⟨-,d1,d2, -, -, -, -, -, -, -, -⟩:=H.out.sx.bc
 have q1:=H.out.sx.mf.1
 have hne: ¬E.mb=E.bb:=fun e=>H.out.sx.mo.ne e.symm
 have hne2: ¬E.bb=E.mb:=H.out.sx.mo.ne
 clear h
 have hmm:= @run_makeMap Tryz.prog
 go_enter Tryz.func116,Tryz.ntmps116
 go_wp2_with (first
  |((first
   |(go_at_call 158;go_must (refine' tB (one_sm ?h ?_) ?_))
   |(go_at_call 112;go_must (refine' tB (heads_sm ?h) ?_))
   |(go_at_call 163;go_must (refine' tB (block_sm ?h _) ?_))
   |(go_at_call 164;go_must (refine' tB (heading_sm ?h _) ?_))
   |(go_at_call 165;go_must (refine' (blocks_sm ?h ?_).mono ?_))
   |(go_at_call 169;go_must (refine' (forms_sm ?h ?_).mono ?_))
   |(go_at_call 170;go_must (refine' tB (formed_sm ?h _) ?_))
   |(go_at_call 115;go_must (refine' (restore_sm ?h ?_).mono ?_))
   |(go_at_call 121;go_must (refine' tB (has_sm ?h ?_) ?_))
   |(go_at_call 171;go_must (refine' (verbatim_sm ?h ?_).mono ?_))
   |(go_at_call 172;go_must (refine' (phrases_sm ?h ?_).mono ?_))
   |(go_at_call 168;go_must (refine' (lremove_sm ?h _).mono ?_))
   |(go_at_call 114;go_must (refine' (sremove_sm ?h _).mono ?_))
   |(go_at_call 167;go_must (refine' (adopt_sm ?h ?_ _).mono ?_)));go_must ((case h=>with_reducible first|exact H.out|exact H.out.text _ (by assumption)|exact(H.out.text _ (by assumption)).mode _|exact H.out.mode _|exact H.out.head _|exact H.out.skip _|exact H.out.wait _|exact(H.out.mode _).back _|exact H.out.mname _ (by decide));any_goals first|(rintro e w1 ⟨rfl,h1⟩;(try simp only[namesOf_mk,strOf,List.map_cons,List.map_nil,BuD.ends]at h1);clear c1 c2 d1 d2 q1;replace H:=Lib.hid h1;clear h1;obtain⟨-,c1,c2, -, -⟩:=H.out.sx.mc;obtain⟨-,d1,d2, -, -, -, -, -, -, -, -⟩:=H.out.sx.bc;have q1:=H.out.sx.mf.1)|(intro t ht w1 h1;(try simp only[namesOf_mk,strOf,List.map_cons,List.map_nil,BuD.ends]at ht h1);cases t <;>((try simp only[ht,reduceIte,Bool.false_eq_true]at h1);clear c1 c2 d1 d2 q1;replace H:=Lib.hid h1;clear h1;obtain⟨-,c1,c2, -, -⟩:=H.out.sx.mc;obtain⟨-,d1,d2, -, -, -, -, -, -, -, -⟩:=H.out.sx.bc;have q1:=H.out.sx.mf.1))|exact⟨by first|with_reducible rfl|simp[World.setCell],by rfl,by rfl,by first|decide|simp[namesOf]⟩|omega|fail))
  |(go_at_call 166;go_must (refine(find_sm (by with_reducible first|exact H.out|exact H.out.text _ (by assumption)|exact(H.out.text _ (by assumption)).mode _|exact H.out.mode _|exact H.out.head _|exact H.out.skip _|exact H.out.wait _|exact(H.out.mode _).back _|exact H.out.mname _ (by decide)) _).mono ?_;rintro e w1 ⟨rfl,h1⟩;generalize ht:BuD.find _ _=n0;clear c1 c2 d1 d2 q1;replace H:=Lib.hid h1;clear h1;obtain⟨-,c1,c2, -, -⟩:=H.out.sx.mc;obtain⟨-,d1,d2, -, -, -, -, -, -, -, -⟩:=H.out.sx.bc;have q1:=H.out.sx.mf.1;rcases Decidable.em (n0=0)with hn0|hn0 <;>(first|subst hn0|(have hn1:(n0 !=0)=true:=bne_iff_ne.2 hn0)))))
 all_goals try (
  (first|go_end0|refine bodyPost_ret (results_none rfl _ _ _) rfl ?_)
  have hv:=BuD.opens.eq_1 b m
  simp only[*,bools,if_true,if_false,reduceIte,beq_self_eq_true,Int.reduceBEq]at hv
  rw[hv]
  refine⟨by first|rfl|(rw[ht];rfl),?_⟩
  exact SM.more (by first|(with_reducible first|exact H.out|exact H.out.mode _|exact H.out.skip _|exact H.out.head _|exact(H.out.mode _).back _|exact(H.out.wait _)|exact H.out.drew.wait _|exact(H.out.wait _).drew|exact H.out.text _ (by assumption)|exact(H.out.text _ (by assumption)).mode _|exact(H.out.mode _).head _|exact(H.out.head _))|exact H.out|exact H.out.mode _|exact H.out.skip _) (by omega) (by omega))
 all_goals try (
  go_region_law (first
   |(go_simp;go_at_call 127;(first|with_reducible refine(singlem_sm H.out.drew _ H.out.sx.mo.nlen (by rfl)).mono ?_|with_reducible refine(singlem_sm (H.out.mname _ (by decide)).drew _ (by decide) (by rfl)).mono ?_)
     rintro e w2 ⟨rfl,h1⟩
     (replace H:=Lib.hid h1;clear h1)))
  all_goals
   try simp only[Act.put,List.getElem_toArray,List.getElem_cons_succ,List.getElem_cons_zero,List.setIfInBounds_toArray,List.set_cons_zero,List.set_cons_succ]
   go_wp2_with fail
   (first|go_end0|refine bodyPost_ret (results_none rfl _ _ _) rfl ?_)
   have hv:=BuD.opens.eq_1 b m
   simp only[*,bools,if_true,if_false,reduceIte,beq_self_eq_true,Int.reduceBEq]at hv
   rw[hv]
   refine⟨by first|rfl|(rw[ht];rfl),?_⟩
   exact SM.more (by first|(with_reducible first|exact H.out|exact H.out.mode _|exact H.out.skip _|exact H.out.head _|exact(H.out.mode _).back _|exact(H.out.wait _)|exact H.out.drew.wait _|exact(H.out.wait _).drew|exact H.out.text _ (by assumption)|exact(H.out.text _ (by assumption)).mode _|exact(H.out.mode _).head _|exact(H.out.head _))|exact H.out|exact H.out.mode _|exact H.out.skip _) (by omega) (by omega))
 case _ =>
  have hsz:w1.heap.size<(w1.alloc (.map #[] 0)).heap.size:=by simp
  obtain⟨W2,e2⟩: ∃W,W=mapW (w1.alloc (.map #[] 0)) w1.heap.size #[{key:= .string (⟨#[115,118,103]⟩:ByteArray),val:= .int .i64 1,born:=0}] 1:=⟨_,rfl⟩
  have hu1:(Instr.mapUpdate 178 (.map (some w1.heap.size)) (.string (⟨#[115,118,103]⟩:ByteArray)) (.int .i64 1)).run Tryz.prog (w1.alloc (.map #[] 0))= .ok () W2:=by rw[e2];exact map_first _ _ Tryz.underlying178 Tryz.underlying9 (heap_alloc_new _ _)
  have hb2:W2.heap[w1.heap.size]?=some (.map #[{key:= .string (⟨#[115,118,103]⟩:ByteArray),val:= .int .i64 1,born:=0}] 1):=by rw[e2];exact mapW_at hsz _ _
  have hB2:Below w1.heap.size w1 W2:=by rw[e2];exact mapW_below ((Below.refl _ w1).alloc (Nat.le_refl _) _) (Nat.le_refl _) _ _
  have hz2:w1.heap.size<W2.heap.size:=by rw[e2];simp[mapW]
  clear e2 hsz
  obtain⟨W3,e3⟩: ∃W,W=mapW W2 w1.heap.size #[{key:= .string (⟨#[115,118,103]⟩:ByteArray),val:= .int .i64 1,born:=0},{key:= .string (⟨#[109,97,116,104]⟩:ByteArray),val:= .int .i64 2,born:=1}] 2:=⟨_,rfl⟩
  have hu2:(Instr.mapUpdate 178 (.map (some w1.heap.size)) (.string (⟨#[109,97,116,104]⟩:ByteArray)) (.int .i64 2)).run Tryz.prog W2= .ok () W3:=by rw[e3];exact map_next _ _ Tryz.underlying178 Tryz.underlying9 (by decide) hb2
  have hb3:W3.heap[w1.heap.size]?=some (.map #[{key:= .string (⟨#[115,118,103]⟩:ByteArray),val:= .int .i64 1,born:=0},{key:= .string (⟨#[109,97,116,104]⟩:ByteArray),val:= .int .i64 2,born:=1}] 2):=by rw[e3];exact mapW_at hz2 _ _
  have hB3:Below w1.heap.size w1 W3:=by rw[e3];exact mapW_below hB2 (Nat.le_refl _) _ _
  clear e3 hb2 hB2 hz2
  have g1:=cell_later hB3 c1
  have H3:=Lib.hid (H.out.world hB3)
  clear c1 c2 d1 d2 q1
  have hnm:m.name=(⟨#[115,118,103]⟩:ByteArray)∨m.name=(⟨#[109,97,116,104]⟩:ByteArray):=by
   have h0:oneF [⟨#[115,118,103]⟩,⟨#[109,97,116,104]⟩] m.name=true:=by assumption
   unfold oneF at h0
   rw[Bool.and_eq_true]at h0
   have h1:=h0.1
   rw[isW_cons,isW_cons]at h1
   simp only[isW,List.any_nil,Bool.or_false,Bool.or_eq_true]at h1
   rcases h1 with h1|h1
   ·exact .inl (beqT h1)
   ·exact .inr (beqT h1)
  have hv:=BuD.opens.eq_1 b m
  simp only[*,if_true,if_false,reduceIte,Bool.false_eq_true,Bool.or_self,Bool.or_false]at hv
  have HV:=Lib.hid hv
  rcases hnm with hn|hn
  ·have hlk:(Instr.lookup 178 (.map (some w1.heap.size)) (.string m.name) false).run Tryz.prog W3= .ok (.int .i64 1) W3:=map_ask m.name Tryz.underlying178 Tryz.underlying9 hb3 (i:=0) (by rw[hn];rfl)
   have HA:=Lib.hid (alien_sm H3.out 1)
   have hsv:(m.name.toList==([115,118,103]:List UInt8))=true:=by rw[hn];kernel_rfl
   have HSV:=Lib.hid hsv
   clear hb3 hB3 hv hn hsv
   rw[hu1]
   go_simp
   go_wp2_with (go_at_call 65;go_must (refine HA.out.mono ?_;rintro e w4 ⟨rfl,h4⟩;have H4:=Lib.hid h4;clear h4))
   first|go_end0|refine bodyPost_ret (results_none rfl _ _ _) rfl ?_
   rw[HV.out,HSV.out]
   exact⟨rfl,H4.out.more (by omega) (by omega)⟩
  ·have hlk:(Instr.lookup 178 (.map (some w1.heap.size)) (.string m.name) false).run Tryz.prog W3= .ok (.int .i64 2) W3:=map_ask m.name Tryz.underlying178 Tryz.underlying9 hb3 (i:=1) (by rw[hn];rfl)
   have HA:=Lib.hid (alien_sm H3.out 2)
   have hsv:(m.name.toList==([115,118,103]:List UInt8))=false:=by rw[hn];kernel_rfl
   have HSV:=Lib.hid hsv
   clear hb3 hB3 hv hn hsv
   rw[hu1]
   go_simp
   go_wp2_with (go_at_call 65;go_must (refine HA.out.mono ?_;rintro e w4 ⟨rfl,h4⟩;have H4:=Lib.hid h4;clear h4))
   first|go_end0|refine bodyPost_ret (results_none rfl _ _ _) rfl ?_
   rw[HV.out,HSV.out]
   exact⟨rfl,H4.out.more (by omega) (by omega)⟩
end
end
section
section
variable {E:BE} {ws w w':World} {c:Nat} {s:Int} {b b':BuD} {m m':BMark}
theorem inBody_sm (h:SM E ws c s b m w) (hc:c≤100000) (hu:b.used+m.text.size≤9223372036854775807):Calls Tryz.prog 71 #[.pointer (some ⟨E.bb,0,none⟩),.pointer (some ⟨E.mb,0,none⟩)] w fun r w'=>r= .returned (.bool (b.inBody m).2.2)∧SM E ws (c+1) s (b.inBody m).1 (b.inBody m).2.1 w':=by
 have H:=Lib.hid h
 obtain⟨c0, -, -, -,c4⟩:=H.out.sx.mc
 have HR:Hid (b.restore.used=b.used):=Lib.hid (BuD.keep_all _ _).2.2.2.2.2.2.2.2
 have hur:b.restore.used+m.text.size≤9223372036854775807:=by rw[HR.out];exact hu
 clear h hu
 have HV:=Lib.hid (BuD.inBody.eq_1 b m)
 obtain⟨k,hk⟩: ∃k,k=m.kind:=⟨_,rfl⟩
 rw[←hk]at c0 HV
 clear hk
 by_cases k1:k=1
 ·subst k1
  go_enter Tryz.func71,Tryz.ntmps71
  go_wp2_with (first
   |(go_at_call 115;go_must (refine(restore_sm H.out hc).mono ?_;rintro e w1 ⟨rfl,h1⟩;obtain⟨-, -, -, -,e4⟩:=h1.sx.mc;have H1:=Lib.hid h1;clear h1))
   |(go_at_call 60;go_must (refine(text_sm H1.out m.text hur).mono ?_;rintro e w2 ⟨rfl,h2⟩;have H2:=Lib.hid h2;clear h2)))
  go_ret
  rw[HV.out]
  simp only[beq_self_eq_true,if_true]
  exact⟨rfl,H2.out.more (by omega) (by omega)⟩
 ·by_cases k2:k=2
  ·subst k2
   go_enter Tryz.func71,Tryz.ntmps71
   go_wp2_with (first
    |(go_at_call 116;go_must (refine(opens_sm H.out hc).mono ?_;rintro e w1 ⟨rfl,h1⟩;have H1:=Lib.hid h1;clear h1)))
   go_ret
   rw[HV.out]
   exact⟨rfl,H1.out⟩
  ·by_cases k3:k=3
   ·subst k3
    go_enter Tryz.func71,Tryz.ntmps71
    go_wp2_with (first
     |(go_at_call 117;go_must (refine(closes_sm H.out hc).mono ?_;rintro e w1 ⟨rfl,h1⟩;have H1:=Lib.hid h1;clear h1)))
    first|go_ret|refine bodyPost_ret (results_none rfl _ _ _) rfl ?_
    rw[HV.out]
    exact⟨rfl,H1.out.more (by omega) (by omega)⟩
   ·have k1':(k==1)=false:=beq_eq_false_iff_ne.2 k1
    have k2':(k==2)=false:=beq_eq_false_iff_ne.2 k2
    have k3':(k==3)=false:=beq_eq_false_iff_ne.2 k3
    clear k1 k2 k3
    go_enter Tryz.func71,Tryz.ntmps71
    go_wp2_with fail
    go_ret
    rw[HV.out]
    simp only[k1',k2',k3',Bool.false_eq_true,if_false]
    exact⟨rfl,H.out.more (by omega) (by omega)⟩
def BE.mark (E:BE) (g:Nat):BE:= {E.lay g with mb:=g,a:=none,ac:=0}
theorem SM.other (h:SM E ws c s b m w) (kind:Int) (t:ByteArray) (ht:t.size≤4611686018427387904) {e:TypeId} :
 SM (E.mark w.heap.size) (w.alloc (.cells #[.int .i64 kind,.string ⟨#[]⟩,.slice none 0 0,.bool false,.string t] e)) c s b ⟨kind,⟨#[]⟩,[],false,t⟩ (w.alloc (.cells #[.int .i64 kind,.string ⟨#[]⟩,.slice none 0 0,.bool false,.string t] e)):=by
 have hb:=h.sx.bm.row.lt
 have h':=h.lay (.cells #[.int .i64 kind,.string ⟨#[]⟩,.slice none 0 0,.bool false,.string t] e)
 obtain⟨⟨⟨h1,h2,h3,h4⟩,hmo,h5⟩,ho⟩:=h'
 refine⟨⟨⟨h1,h2,h3,h4⟩,⟨Row.alloc w _ e,.inr rfl,?_,?_,?_,fun _=>rfl,by simp,fun p hp=>absurd hp (by simp),ht,(by show(⟨#[]⟩:ByteArray).size≤maxLen;decide)⟩,Keeps.refl _ _⟩,ho⟩
 ·exact h.sx.bm.li.below.size
 ·show E.bb≠w.heap.size
  omega
 ·intro j u hj
  simp[pairsV]at hj
theorem SM.back2 {c':Nat} {s':Int} {m2:BMark} {o:Obj} (h0:SM E ws c s b' m w) (h:SM (E.mark w.heap.size) (w.alloc o) c' s' b m2 w'):SM E ws c' s' b m w':=by
 obtain⟨⟨⟨h1,h2,h3,h4⟩,hmo,h5⟩,ho⟩:=h
 have hm:=h0.sx.mo.row.lt
 have hk:Keeps (fun k=>Own E.w0 E.ex k∨k=E.bb) w w':=((Keeps.refl (fun k=>Own E.w0 E.ex k∨k=E.bb) w).alloc o).trans (h5.mono fun k _ hx=>by
  rcases hx with hx|hx|hx
  ·exact .inl ⟨hx.1,fun he=>hx.2 (.inl he)⟩
  ·exact .inr hx
  ·have hg:k=w.heap.size:=hx
   subst hg
   exact .inl ⟨h0.sx.bm.li.below.size,fun he=>absurd (h0.sx.bm.li.exlt _ he) (Nat.lt_irrefl _)⟩)
 have hko:Keeps (OM E) w w':=hk.mono fun _ _ hx=>hx.imp id .inl
 obtain⟨k1,k2,k3,k4,k5,k6,k7,k8,k9,kA⟩:=h0.sx.mo
 refine⟨⟨⟨h1.less fun k hx=> .inl hx,h2,h0.sx.bm.exb,h4⟩,⟨k1.kept (hk.block _ hm fun hx=> ?_),k2,k3,k4,k5.kept hko,k6,k7,k8,k9,kA⟩,h0.sx.keep.trans hko⟩,ho⟩
 rcases hx with hx|hx
 ·exact hx.2 k2
 ·exact k4 hx.symm
theorem astray_sm (h:SM E ws c s b m w) (hc:c≤100000) (hu:b.used+m.text.size≤9223372036854775807):Calls Tryz.prog 61 #[.pointer (some ⟨E.bb,0,none⟩),.pointer (some ⟨E.mb,0,none⟩)] w fun r w'=>r= .returned (.bool (b.astray m).2.2)∧SM E ws (c+1) s (b.astray m).1 (b.astray m).2.1 w':=by
 have H:=Lib.hid h
 obtain⟨-, -,d2, -⟩:=H.out.sx.bc
 have HV:=Lib.hid (BuD.astray.eq_1 b m)
 clear h
 go_enter Tryz.func61,Tryz.ntmps61
 go_wp2_with (go_at_call 99;go_must (refine(foster_sm H.out true).mono ?_;rintro e w1 ⟨rfl,h1⟩;have H1:=Lib.hid h1;have HB:=Lib.hid (inBody_sm h1 hc hu);clear h1))
 generalize BuD.inBody {b with on:=true} m=q at *
 refine HB.out.mono ?_
 rintro e w2 ⟨rfl,h2⟩
 obtain⟨-, -,g2, -⟩:=h2.sx.bc
 have H2:=Lib.hid h2
 clear h2
 dsimp only
 go_wp2_with (go_at_call 99;go_must (refine(foster_sm H2.out false).mono ?_;rintro e w3 ⟨rfl,h3⟩;have H3:=Lib.hid h3;clear h3))
 go_ret
 rw[HV.out]
 exact⟨rfl,H3.out⟩
theorem dropWhile_nil {p:UInt8→Bool}: ∀l:List UInt8,l.dropWhile p= []↔ ∀x∈l,p x=true
 | []=>by simp
 |a::r=>by
  rw[List.dropWhile_cons]
  cases h:p a
  ·simp[h]
  ·simp[h,dropWhile_nil r]
theorem trim_empty (s:ByteArray):(⟨(Lib.trimS s.data.toList [9,10,12,13,32]).toArray⟩:ByteArray).toList.isEmpty=(restF s).toList.isEmpty:=by
 have h1:(⟨(Lib.trimS s.data.toList [9,10,12,13,32]).toArray⟩:ByteArray).toList=Lib.trimS s.data.toList [9,10,12,13,32]:=by rw[ByteArray.toList_eq]
 have h2:(restF s).toList=s.data.toList.dropWhile isSp:=by unfold restF mkB;rw[ByteArray.toList_eq,ByteArray.toList_eq]
 rw[h1,h2]
 have h3:Lib.trimS s.data.toList [9,10,12,13,32]= []↔s.data.toList.dropWhile isSp= []:=by
  unfold Lib.trimS Lib.trimLeftS Lib.trimRightS
  rw[dropWhile_nil,dropWhile_nil]
  constructor
  ·intro h x hx
   have h4:=List.takeWhile_append_dropWhile (p:=fun c=>([9,10,12,13,32]:List UInt8).contains c) (l:=s.data.toList.reverse)
   have h5:x∈s.data.toList.reverse:=List.mem_reverse.2 hx
   rw[←h4]at h5
   rcases List.mem_append.1 h5 with h5|h5
   ·exact List.all_eq_true.1 (List.all_takeWhile (p:=fun c=>([9,10,12,13,32]:List UInt8).contains c) (l:=s.data.toList.reverse)) x h5
   ·exact h x (List.mem_reverse.2 h5)
  ·intro h x hx
   exact h x (List.mem_reverse.1 ((List.dropWhile_sublist _).subset (List.mem_reverse.1 hx)))
 rw[Bool.eq_iff_iff,List.isEmpty_iff,List.isEmpty_iff]
 exact h3
theorem flush_sm (h:SM E ws c s b m w) (hc:c≤100000) (hu:b.used+b.wait.size≤4611686018427387904):Calls Tryz.prog 44 #[.pointer (some ⟨E.bb,0,none⟩)] w fun r w'=>r= .returned (.tuple #[])∧SM E ws (c+1) s b.flush m w':=by
 have H:=Lib.hid h
 obtain⟨-, -, -, -, -, -,d6, -⟩:=H.out.sx.bc
 have f6:=H.out.sx.bf 6 (by omega)
 have HV:=Lib.hid (BuD.flush.eq_1 b)
 have HW:=Lib.hid (h.wait ⟨#[]⟩)
 have HT:=Lib.hid (trim_any b.wait (w.setCell ⟨E.bb,6,none⟩ (.string ⟨#[]⟩)) (by omega))
 have HE:=Lib.hid (trim_empty b.wait)
 clear h
 generalize hwt:b.wait=wt at *
 generalize (⟨(Lib.trimS wt.data.toList [9,10,12,13,32]).toArray⟩:ByteArray)=tr at *
 have HE2:Hid (tr.toList.isEmpty=(restF wt).toList.isEmpty):=HE
 generalize restF wt=rs at *
 go_enter Tryz.func44,Tryz.ntmps44
 go_wp2_with (first
  |(go_at_call 59;go_must (refine HT.out.mono ?_;rintro e w1 ⟨rfl,hb⟩;have H1:=Lib.hid (HW.out.world hb);clear hb))
  |(go_at_call 60;go_must (refine(text_sm H1.out wt (by show b.used+wt.size≤_;omega)).mono ?_;rintro e w2 ⟨rfl,h2⟩;have H2:=Lib.hid h2;clear h2))
  |(go_at_call 61;go_must (refine(astray_sm (H1.out.other 1 wt (by omega)) hc (by show b.used+wt.size≤_;omega)).mono ?_;rintro e w2 ⟨rfl,h2⟩;have H2:=Lib.hid (H1.out.back2 h2);clear h2)))
 all_goals
  first|go_end0|refine bodyPost_ret (results_none rfl _ _ _) rfl ?_
  have hv:=HV.out
  have he:=HE2.out
  rw[←he]at hv
  simp only[*,if_true,if_false,Bool.false_eq_true]at hv
  rw[hv]
  refine⟨rfl,?_⟩
  first|exact HW.out.more (by omega) (by omega)|exact H2.out.more (by omega) (by omega)
end
end
section
section
variable {E:BE} {ws w w':World} {c:Nat} {s:Int} {b b':BuD} {m m':BMark}
theorem inCaption_sm (h:SM E ws c s b m w) (hc:c≤100000) (hu:b.used+m.text.size≤9223372036854775807):Calls Tryz.prog 74 #[.pointer (some ⟨E.bb,0,none⟩),.pointer (some ⟨E.mb,0,none⟩)] w fun r w'=>r= .returned (.bool (b.inCaption m).2.2)∧SM E ws (c+1) s (b.inCaption m).1 (b.inCaption m).2.1 w':=by
 have H:=Lib.hid h
 obtain⟨c0, -, -, -, -⟩:=H.out.sx.mc
 obtain⟨-,d1,d2,d3, -, -, -, -, -, -, -⟩:=H.out.sx.bc
 have f3:=H.out.sx.bf 3 (by omega)
 have hne: ¬E.mb=E.bb:=fun e=>H.out.sx.mo.ne e.symm
 have hne2: ¬E.bb=E.mb:=H.out.sx.mo.ne
 clear h
 go_enter Tryz.func74,Tryz.ntmps74
 go_wp2_with ((first
  |(go_at_call 108;go_must (refine' tB (end_sm ?h ?_) ?_))
  |(go_at_call 124;go_must (refine' tB (rowed_sm ?h) ?_))
  |(go_at_call 121;go_must (refine' tB (has_sm ?h ?_) ?_))
  |(go_at_call 125;go_must (refine' (imply_sm ?h _).mono ?_))
  |(go_at_call 122;go_must (refine' (until_sm ?h ?_).mono ?_))
  |(go_at_call 126;go_must (refine' (lclear_sm ?h).mono ?_))
  |(go_at_call 71;go_must (refine' tB (inBody_sm ?h hc hu) ?_)));go_must ((case h=>with_reducible first|exact H.out|exact H.out.text _ (by assumption)|exact(H.out.text _ (by assumption)).mode _|exact H.out.mode _|exact H.out.head _|exact H.out.skip _|exact H.out.wait _|exact(H.out.mode _).back _|exact H.out.mname _ (by decide));any_goals first|(rintro e w1 ⟨rfl,h1⟩;(try simp only[namesOf_mk,strOf,List.map_cons,List.map_nil,BuD.ends]at h1);clear c0 d1 d2 d3 f3;replace H:=Lib.hid h1;clear h1;obtain⟨c0, -, -, -, -⟩:=H.out.sx.mc;obtain⟨-,d1,d2,d3, -, -, -, -, -, -, -⟩:=H.out.sx.bc;have f3:=H.out.sx.bf 3 (by omega))|(intro t ht w1 h1;(try simp only[namesOf_mk,strOf,List.map_cons,List.map_nil,BuD.ends]at ht h1);cases t <;>((try simp only[ht,reduceIte,Bool.false_eq_true]at h1);clear c0 d1 d2 d3 f3;replace H:=Lib.hid h1;clear h1;obtain⟨c0, -, -, -, -⟩:=H.out.sx.mc;obtain⟨-,d1,d2,d3, -, -, -, -, -, -, -⟩:=H.out.sx.bc;have f3:=H.out.sx.bf 3 (by omega)))|exact⟨by first|with_reducible rfl|simp[World.setCell],by rfl,by rfl,by first|decide|simp[namesOf]⟩|omega|fail))
 all_goals
  (first|go_ret|refine bodyPost_ret (results_none rfl _ _ _) rfl ?_)
  have hv:=BuD.inCaption.eq_1 b m
  simp only[*,bools,if_true,if_false,reduceIte,beq_self_eq_true,Int.reduceBEq]at hv
  rw[hv]
  refine⟨by first|rfl|(rw[ht];rfl),?_⟩
  exact SM.more (by first|(with_reducible first|exact H.out|exact H.out.mode _|exact H.out.skip _|exact H.out.head _|exact(H.out.mode _).back _|exact(H.out.wait _)|exact H.out.drew.wait _|exact(H.out.wait _).drew|exact H.out.text _ (by assumption)|exact(H.out.text _ (by assumption)).mode _|exact(H.out.mode _).head _|exact(H.out.head _))|exact H.out|exact H.out.mode _|exact H.out.skip _) (by omega) (by omega)
theorem inColumns_sm (h:SM E ws c s b m w) (hc:c≤100000) (hu:b.used+m.text.size≤9223372036854775807):Calls Tryz.prog 75 #[.pointer (some ⟨E.bb,0,none⟩),.pointer (some ⟨E.mb,0,none⟩)] w fun r w'=>r= .returned (.bool (b.inColumns m).2.2)∧SM E ws (c+1) s (b.inColumns m).1 (b.inColumns m).2.1 w':=by
 have H:=Lib.hid h
 obtain⟨c0, -,c2, -, -⟩:=H.out.sx.mc
 obtain⟨-,d1, -,d3, -, -, -, -, -, -, -⟩:=H.out.sx.bc
 have f3:=H.out.sx.bf 3 (by omega)
 have hne: ¬E.mb=E.bb:=fun e=>H.out.sx.mo.ne e.symm
 have hne2: ¬E.bb=E.mb:=H.out.sx.mo.ne
 clear h
 go_enter Tryz.func75,Tryz.ntmps75
 go_wp2_with ((first
  |(go_at_call 111;go_must (refine' tB (blank_sm ?h hu) ?_))
  |(go_at_call 109;go_must (refine' tB (start_sm ?h ?_) ?_))
  |(go_at_call 108;go_must (refine' tB (end_sm ?h ?_) ?_))
  |(go_at_call 127;go_must (first|with_reducible refine' (single0_sm ?h _ ?n).mono ?_|with_reducible refine' (singlem_sm ?h _ ?n ?r).mono ?_))
  |(go_at_call 118;go_must (refine' tB (at_sm ?h ?_) ?_))
  |(go_at_call 64;go_must (refine' (pop_sm ?h).mono ?_)));go_must ((case h=>with_reducible first|exact H.out|exact H.out.text _ (by assumption)|exact(H.out.text _ (by assumption)).mode _|exact H.out.mode _|exact H.out.head _|exact H.out.skip _|exact H.out.wait _|exact(H.out.mode _).back _|exact H.out.mname _ (by decide));(try case n=>first|decide|exact H.out.sx.mo.nlen);(try case r=>rfl);any_goals first|(rintro e w1 ⟨rfl,h1⟩;(try simp only[namesOf_mk,strOf,List.map_cons,List.map_nil,BuD.ends]at h1);clear c0 c2 d1 d3 f3;replace H:=Lib.hid h1;clear h1;obtain⟨c0, -,c2, -, -⟩:=H.out.sx.mc;obtain⟨-,d1, -,d3, -, -, -, -, -, -, -⟩:=H.out.sx.bc;have f3:=H.out.sx.bf 3 (by omega))|(intro t ht w1 h1;(try simp only[namesOf_mk,strOf,List.map_cons,List.map_nil,BuD.ends]at ht h1);cases t <;>((try simp only[ht,reduceIte,Bool.false_eq_true]at h1);clear c0 c2 d1 d3 f3;replace H:=Lib.hid h1;clear h1;obtain⟨c0, -,c2, -, -⟩:=H.out.sx.mc;obtain⟨-,d1, -,d3, -, -, -, -, -, -, -⟩:=H.out.sx.bc;have f3:=H.out.sx.bf 3 (by omega)))|exact⟨by first|with_reducible rfl|simp[World.setCell],by rfl,by rfl,by first|decide|simp[namesOf]⟩|omega|fail))
 all_goals try (exfalso;have q:=eq_of_beq (by assumption:((BuD.blankM m).kind==1)=true);omega)
 all_goals try (exfalso;have q:=eq_of_beq (by assumption:((BuD.blankM m).kind==2)=true);omega)
 all_goals try (exfalso;have q:=eq_of_beq (by assumption:((BuD.blankM m).kind==3)=true);omega)
 all_goals try (exfalso;have q:=eq_of_beq (by assumption:((BuD.blankM m).kind==6)=true);omega)
 all_goals
  try have e01:((BuD.blankM m).kind==1)=true:=beq_iff_eq.2 (by assumption)
  try have e01:((BuD.blankM m).kind==1)=false:=beq_eq_false_iff_ne.2 (by assumption)
  try have e02:((BuD.blankM m).kind==2)=true:=beq_iff_eq.2 (by assumption)
  try have e02:((BuD.blankM m).kind==2)=false:=beq_eq_false_iff_ne.2 (by assumption)
  try have e03:((BuD.blankM m).kind==3)=true:=beq_iff_eq.2 (by assumption)
  try have e03:((BuD.blankM m).kind==3)=false:=beq_eq_false_iff_ne.2 (by assumption)
  try have e06:((BuD.blankM m).kind==6)=true:=beq_iff_eq.2 (by assumption)
  try have e06:((BuD.blankM m).kind==6)=false:=beq_eq_false_iff_ne.2 (by assumption)
  (first|go_ret|refine bodyPost_ret (results_none rfl _ _ _) rfl ?_)
  have hv:=BuD.inColumns.eq_1 b m
  simp only[*,bools,if_true,if_false,reduceIte,beq_self_eq_true,Int.reduceBEq]at hv
  rw[hv]
  refine⟨by first|rfl|(rw[ht];rfl),?_⟩
  exact SM.more (by first|(with_reducible first|exact H.out|exact H.out.mode _|exact H.out.skip _|exact H.out.head _|exact(H.out.mode _).back _|exact(H.out.wait _)|exact H.out.drew.wait _|exact(H.out.wait _).drew|exact H.out.text _ (by assumption)|exact(H.out.text _ (by assumption)).mode _|exact(H.out.mode _).head _|exact(H.out.head _))|exact H.out|exact H.out.mode _|exact H.out.skip _) (by omega) (by omega)
end
end
end Go.Proofs.YtgepobccoffnaaaGreatDoor
