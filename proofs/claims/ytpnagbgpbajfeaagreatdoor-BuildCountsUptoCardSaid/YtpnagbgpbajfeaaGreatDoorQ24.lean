/- Texts joined for a claim: CuF, CuG, CuH, CuI, CuJ: plain laws and contracts. No conditions beyond those that each lemma types. -/
import Derived.Test.YtpnagbgpbajfeaaGreatDoorQ23
set_option linter.unusedVariables false
set_option linter.unusedSimpArgs false
set_option maxRecDepth 100000
set_option maxHeartbeats 8000000
namespace Go.Proofs.YtpnagbgpbajfeaaGreatDoor
open Go.RowKit Mem
section
section
variable {E:BE} {ws w w':World} {c:Nat} {s:Int} {b b':BuD} {m m':BMark}
theorem single_sm (h:SM E ws c s b m w) (name:ByteArray) (attrs:List Pair) (n:Nat) (a:Option Addr) (ca:Nat) (hn:n=attrs.length) (hc:a=none→ca=0) (hlen:attrs.length≤1048576) (ha:At w a (pairsV attrs)) (hs:Fits name attrs) :
 Calls Tryz.prog 122 #[.pointer (some ⟨E.bb,0,none⟩),.string name,.slice a n ca] w fun r w'=>r= .returned (.tuple #[])∧SM E ws c (s-1) (b.single name attrs) m w':=by
 have HI:=Lib.hid (insert_sm h name attrs n a ca hn hc hlen ha hs)
 have HN:Hid ((b.ins name attrs).pop=b.single name attrs):=Lib.hid rfl
 clear h ha hc hn
 generalize b.insN name attrs=x at *
 generalize b.ins name attrs=bi at *
 go_enter Tryz.func122,Tryz.ntmps122
 go_wp2_with (first
  |(go_at_call 105;go_must (refine HI.out.mono ?_;rintro e w1 ⟨rfl,h1⟩;obtain⟨-,d1, -⟩:=h1.sx.bc;have H1:=Lib.hid h1;clear h1))
  |(go_at_call 59;go_must (refine(pop_sm H1.out).mono ?_;rintro e w2 ⟨rfl,h2⟩;have H2:=Lib.hid h2;clear h2)))
 go_end0
 rw[←HN.out]
 exact⟨rfl,H2.out⟩
theorem single0_sm (h:SM E ws c s b m w) (name:ByteArray) (hn:name.size≤maxLen):Calls Tryz.prog 122 #[.pointer (some ⟨E.bb,0,none⟩),.string name,.slice none 0 0] w fun r w'=>r= .returned (.tuple #[])∧SM E ws c (s-1) (b.single name []) m w' :=
 single_sm h name [] 0 none 0 rfl (fun _=>rfl) (by simp) (At.nil _ _) (fits_none hn)
theorem singlem_sm (h:SM E ws c s b m w) (name:ByteArray) (hnm:name.size≤maxLen) {n:Nat} (hn:n=m.attrs.length):Calls Tryz.prog 122 #[.pointer (some ⟨E.bb,0,none⟩),.string name,.slice E.a n E.ac] w fun r w'=>r= .returned (.tuple #[])∧SM E ws c (s-1) (b.single name m.attrs) m w' :=
 single_sm h name m.attrs _ _ _ hn h.sx.mo.nil h.sx.mo.alen h.sx.at ⟨hnm,h.sx.mo.ash⟩
theorem insertm_sx (h:SX E ws b m w) (hl:b.S.l.length<1000000) (name:ByteArray):Calls Tryz.prog 105 #[.pointer (some ⟨E.bb,0,none⟩),.string name,.slice E.a m.attrs.length E.ac] w fun r w'=>r= .returned (.int .i64 (b.insN name m.attrs))∧SX E ws (b.ins name m.attrs) m w' :=
 insert_sx h hl name m.attrs _ _ _ rfl h.mo.nil h.mo.alen h.at
theorem raws_sx (h:SX E ws b m w) (hl:b.S.l.length<1000000) (mode:Int):Calls Tryz.prog 154 #[.pointer (some ⟨E.bb,0,none⟩),.pointer (some ⟨E.mb,0,none⟩),.int .i64 mode] w fun r w'=>r= .returned (.tuple #[])∧SX E ws (b.raws m mode) m w':=by
 obtain⟨-,c1,c2, -⟩:=h.mc
 have HI:=Lib.hid (insertm_sx (h.world (Below.refl w.heap.size w).drew) hl m.name)
 have HN:Hid (b.raws m mode= {b.ins m.name m.attrs with raw:=mode,name:=m.name,back:=(b.ins m.name m.attrs).mode,mode:=5}):=Lib.hid rfl
 clear h
 generalize b.insN m.name m.attrs=x at *
 generalize b.ins m.name m.attrs=bi at *
 go_enter Tryz.func154,Tryz.ntmps154
 go_wp2_with fail
 go_region_law (first
  |(go_simp;go_at_call 105;refine HI.out.mono ?_
    rintro e w2 ⟨rfl,h2⟩
    have H2:=Lib.hid h2
    obtain⟨-,e1, -⟩:=h2.mc
    obtain⟨-, -, -,d3,d4, -, -, -,d8,d9, -⟩:=h2.bc
    have f3:=h2.bf 3 (by omega)
    have f4:=h2.bf 4 (by omega)
    have f8:=h2.bf 8 (by omega)
    have f9:=h2.bf 9 (by omega)
    clear h2))
 all_goals
  try simp only[Act.put,List.getElem_toArray,List.getElem_cons_succ,List.getElem_cons_zero,List.setIfInBounds_toArray,List.set_cons_zero,List.set_cons_succ]
  go_wp2_with fail
  go_end0
  rw[HN.out]
  exact⟨rfl,(((H2.out.raw mode).name m.name).back bi.mode).mode 5⟩
theorem blank_sm (h:SM E ws c s b m w) (hu:b.used+m.text.size≤9223372036854775807):Calls Tryz.prog 106 #[.pointer (some ⟨E.bb,0,none⟩),.pointer (some ⟨E.mb,0,none⟩)] w fun r w'=>r= .returned (.bool (BuD.blankT m))∧SM E ws c s (b.blankB m) (BuD.blankM m) w':=by
 obtain⟨k,nm,ats,sf,tx⟩:=m
 have hu':b.used+tx.size≤9223372036854775807:=hu
 obtain⟨c0, -, -, -,c4⟩:=h.sx.mc
 have HB:Hid (b.blankB ⟨k,nm,ats,sf,tx⟩=if k==1 then(if(aheadF tx).toList.isEmpty then b else b.putText (aheadF tx))else b):=Lib.hid rfl
 have HM:Hid (BuD.blankM ⟨k,nm,ats,sf,tx⟩=if k==1 then⟨k,nm,ats,sf,restF tx⟩else⟨k,nm,ats,sf,tx⟩):=Lib.hid rfl
 have HT:Hid (BuD.blankT ⟨k,nm,ats,sf,tx⟩=((k==1)&&(restF tx).toList.isEmpty)):=Lib.hid rfl
 have HS:=Lib.hid h
 have HSp:=Lib.hid (spaces_any tx w h.sx.mo.tlen)
 have hsz:=spaces_size tx
 clear h hu
 dsimp only at c0 c4
 by_cases h1:k=1
 ·subst h1
  rw[if_pos (by rfl)]at HB HM
  generalize aheadF tx=a at *
  generalize restF tx=r at *
  go_enter Tryz.func106,Tryz.ntmps106
  go_wp2_with (first
   |(go_at_call 102;go_must (refine HSp.out.mono ?_;rintro e w1 ⟨rfl,hb⟩;have H1:=Lib.hid (HS.out.world hb);obtain⟨-,q4⟩:=H1.out.sx.mf;obtain⟨-, -, -, -,e4⟩:=H1.out.sx.mc;have H2:=Lib.hid (H1.out.text r (show r.size≤tx.size by omega));clear hb))
   |(go_at_call 55;go_must (refine(text_sm H2.out a (by omega)).mono ?_;rintro e w3 ⟨rfl,h3⟩;have H3:=Lib.hid h3;clear h3)))
  ·go_ret
   rw[HB.out,HM.out,HT.out]
   have e0:a.toList.isEmpty=false:=by simpa using (by assumption:(!a.toList.isEmpty)=true)
   rw[e0]
   exact⟨rfl,H3.out⟩
  ·go_ret
   rw[HB.out,HM.out,HT.out]
   have e0:a.toList.isEmpty=true:=by simpa using (by assumption:(!a.toList.isEmpty)=false)
   rw[e0]
   exact⟨rfl,H2.out⟩
 ·rw[if_neg (by simpa using h1)]at HB HM
  have hk':(k !=1)=true:=by simpa using h1
  have HK':Hid ((k==1)=false):=Lib.hid (by simpa using h1)
  clear h1
  go_enter Tryz.func106,Tryz.ntmps106
  go_wp2_with fail
  go_ret
  rw[HB.out,HM.out,HT.out,HK'.out]
  exact⟨rfl,HS.out⟩
end
end
section
section
variable {E:BE} {ws w w':World} {c:Nat} {s:Int} {b b':BuD} {m m':BMark}
theorem tB {P:Program} {f:FuncId} {a:Array Value} {w:World} {x:Bool} {S:World→Prop} {K:Ending→World→Prop} (h:Calls P f a w fun r w'=>r= .returned (.bool x)∧S w') (hK: ∀t,x=t→ ∀w',S w'→K (.returned (.bool t)) w'):Calls P f a w K :=
 h.mono fun _ _ ⟨h1,h2⟩=>h1▸hK x rfl _ h2
theorem bools:(∀b,(true&&b)=b)∧(∀b,(false&&b)=false)∧(∀b,(b&&true)=b)∧(∀b,(b&&false)=false)∧(∀b,(b||true)=true)∧(∀b,(true||b)=true)∧(∀b,(b||false)=b)∧(∀b,(false||b)=b)∧(∀b,(b&&b)=b)∧(∀b,(b||b)=b)∧(!true)=false∧(!false)=true∧(false=true)=False:=by simp
theorem block_sm (h:SM E ws c s b m w) (x:ByteArray):Calls Tryz.prog 158 #[.string x] w fun r w'=>r= .returned (.bool (blockB x))∧SM E ws c s b m w':=(block_any x w).mono fun _ _ ⟨hr,hb⟩=>⟨hr,h.world hb⟩
theorem heading_sm (h:SM E ws c s b m w) (x:ByteArray):Calls Tryz.prog 159 #[.string x] w fun r w'=>r= .returned (.bool (headingB x))∧SM E ws c s b m w':=(heading_any x w).mono fun _ _ ⟨hr,hb⟩=>⟨hr,h.world hb⟩
theorem formed_sm (h:SM E ws c s b m w) (x:ByteArray):Calls Tryz.prog 165 #[.string x] w fun r w'=>r= .returned (.bool (formedB x))∧SM E ws c s b m w':=(formed_any x w).mono fun _ _ ⟨hr,hb⟩=>⟨hr,h.world hb⟩
theorem namesOf_mk (l:List Value):namesOf l.toArray=l.map strOf:=by unfold namesOf;rw[List.toList_toArray]
theorem heads_sx (h:SX E ws b m w) (hl:b.S.l.length<1000000):Calls Tryz.prog 107 #[.pointer (some ⟨E.bb,0,none⟩),.pointer (some ⟨E.mb,0,none⟩)] w fun r w'=>r= .returned (.bool (b.heads m).2)∧SX E ws (b.heads m).1 m w':=by
 have H:=Lib.hid h
 obtain⟨-,c1,c2, -⟩:=H.out.mc
 clear h
 go_enter Tryz.func107,Tryz.ntmps107
 go_wp2_with (first
  |(go_at_call 104;go_must (refine(start_sx H.out ⟨rfl,by rfl,by rfl,by decide⟩).mono ?_;rintro e w1 ⟨rfl,h1⟩;generalize ht:startF m _=t;simp only[namesOf_mk,strOf,List.map_cons,List.map_nil]at ht;clear c1 c2;replace H:=Lib.hid h1;clear h1;obtain⟨-,c1,c2, -⟩:=H.out.mc))
  |(go_at_call 154;go_must (refine(raws_sx H.out hl _).mono ?_;rintro e w1 ⟨rfl,h1⟩;replace H:=Lib.hid h1;clear h1)))
 case _ =>
  have HI:=Lib.hid (insertm_sx (H.out.world (Below.refl w1.heap.size w1).drew) hl m.name)
  go_region_law (first
   |(go_simp;go_at_call 105;refine HI.out.mono ?_
     rintro e w2 ⟨rfl,h2⟩
     have H2:=Lib.hid h2
     obtain⟨-,d1, -⟩:=h2.bc
     clear h2))
  all_goals
   try simp only[Act.put,List.getElem_toArray,List.getElem_cons_succ,List.getElem_cons_zero,List.setIfInBounds_toArray,List.set_cons_zero,List.set_cons_succ]
   go_wp2_with (go_at_call 59;go_must (refine(pop_sx H2.out).mono ?_;rintro e w3 ⟨rfl,h3⟩;have H3:=Lib.hid h3;clear h3))
   go_ret
   have hv:=BuD.heads.eq_1 b m
   simp only[*,bools,if_true,if_false,reduceIte,beq_self_eq_true,Int.reduceBEq]at hv
   rw[hv]
   exact⟨rfl,H3.out⟩
 all_goals
  go_ret
  have hv:=BuD.heads.eq_1 b m
  simp only[*,bools,if_true,if_false,reduceIte,beq_self_eq_true,Int.reduceBEq]at hv
  rw[hv]
  exact⟨rfl,H.out⟩
theorem heads_no (h:(b.heads m).2=false):(b.heads m).1=b:=by
 unfold BuD.heads at h ⊢
 split at h
 ·cases h
 ·split at h
  ·cases h
  ·split at h
   ·cases h
   ·simp[*]
theorem Ok.raws (h:Ok c s b) (hm:Fits m.name m.attrs) (mode:Int):Ok c (s-1) (b.raws m mode):=(h.ins m.name hm).of rfl id
theorem Ok.heads (h:Ok c s b) (hm:Fits m.name m.attrs):Ok c s (b.heads m).1:=by
 unfold BuD.heads
 split
 ·exact(h.ins m.name hm).pop.more (Nat.le_refl _) (by omega)
 ·split
  ·exact(h.raws hm 1).more (Nat.le_refl _) (by omega)
  ·split
   ·exact(h.raws hm 2).more (Nat.le_refl _) (by omega)
   ·exact h
theorem raws_sm (h:SM E ws c s b m w) (mode:Int):Calls Tryz.prog 154 #[.pointer (some ⟨E.bb,0,none⟩),.pointer (some ⟨E.mb,0,none⟩),.int .i64 mode] w fun r w'=>r= .returned (.tuple #[])∧SM E ws c (s-1) (b.raws m mode) m w' :=
 (raws_sx h.sx (by have:=h.ok.len;omega) mode).mono fun _ _ ⟨hr,hw⟩=>⟨hr,hw,h.ok.raws h.sx.mo.fits mode⟩
theorem heads_sm (h:SM E ws c s b m w):Calls Tryz.prog 107 #[.pointer (some ⟨E.bb,0,none⟩),.pointer (some ⟨E.mb,0,none⟩)] w fun r w'=>r= .returned (.bool (b.heads m).2)∧SM E ws c s (if(b.heads m).2 then(b.heads m).1 else b) m w' :=
 (heads_sx h.sx (by have:=h.ok.len;omega)).mono fun _ _ ⟨hr,hw⟩=>⟨hr,by
   cases ht:(b.heads m).2
   ·rw[heads_no ht]at hw
    exact⟨hw,h.ok⟩
   ·exact⟨hw,h.ok.heads h.sx.mo.fits⟩⟩
theorem paragraph_sm (h:SM E ws c s b m w):Calls Tryz.prog 168 #[.pointer (some ⟨E.bb,0,none⟩)] w fun r w'=>r= .returned (.tuple #[])∧SM E ws c s b.paragraph m w':=by
 have H:=Lib.hid h
 obtain⟨-,d1, -, -, -, -, -, -, -, -, -⟩:=H.out.sx.bc
 clear h
 go_enter Tryz.func168,Tryz.ntmps168
 go_wp2_with ((first
  |(go_at_call 116;go_must (refine' tB (has_sm ?h ?_) ?_))
  |(go_at_call 120;go_must (refine' (imply_sm ?h _).mono ?_))
  |(go_at_call 117;go_must (refine' (until_sm ?h ?_).mono ?_)));go_must ((case h=>with_reducible first|exact H.out|exact H.out.text _ (by assumption)|exact(H.out.text _ (by assumption)).mode _|exact H.out.mode _|exact H.out.head _|exact H.out.skip _|exact H.out.wait _|exact(H.out.mode _).back _|exact H.out.mname _ (by decide));any_goals first|(rintro e w1 ⟨rfl,h1⟩;(try simp only[namesOf_mk,strOf,List.map_cons,List.map_nil,BuD.ends]at h1);clear d1;replace H:=Lib.hid h1;clear h1;obtain⟨-,d1, -, -, -, -, -, -, -, -, -⟩:=H.out.sx.bc)|(intro t ht w1 h1;(try simp only[namesOf_mk,strOf,List.map_cons,List.map_nil,BuD.ends]at ht h1);cases t <;>((try simp only[ht,reduceIte,Bool.false_eq_true]at h1);clear d1;replace H:=Lib.hid h1;clear h1;obtain⟨-,d1, -, -, -, -, -, -, -, -, -⟩:=H.out.sx.bc))|exact⟨by first|with_reducible rfl|simp[World.setCell],by rfl,by rfl,by first|decide|simp[namesOf]⟩|omega|fail))
 all_goals
  go_end0
  have hv:=BuD.paragraph.eq_1 b
  simp only[*,bools,if_true,if_false,reduceIte,beq_self_eq_true,Int.reduceBEq]at hv
  rw[hv]
  refine⟨by first|rfl|(rw[ht];rfl),?_⟩
  first|(with_reducible first|exact H.out|exact H.out.mode _|exact H.out.skip _|exact H.out.head _|exact(H.out.mode _).back _|exact(H.out.wait _)|exact H.out.drew.wait _|exact(H.out.wait _).drew|exact H.out.text _ (by assumption)|exact(H.out.text _ (by assumption)).mode _|exact(H.out.mode _).head _|exact(H.out.head _))|exact H.out|exact H.out.mode _|exact H.out.skip _
end
end
section
section
variable {E:BE} {ws w w':World} {c:Nat} {s:Int} {b b':BuD} {m m':BMark}
theorem names_om (h:SX E ws b m w) {cur:Array Value} {e:TypeId} (hc:strsV (namesOf cur)=cur.toList):AtF (OM (E.lay w.heap.size)) (w.alloc (.cells cur e)) (some ⟨w.heap.size,0,none⟩) (strsV (namesOf cur)) :=
 AtF.of_new (names_at hc) fun b' o' s' e' hx=>by
  have h1:=h.bm.row.lt
  have h2:=h.mo.row.lt
  cases e'
  rcases hx with hx|hx|hx
  ·exact hx.2 (.inr rfl)
  ·have:w.heap.size=E.bb:=hx
   omega
  ·have:w.heap.size=E.mb:=hx
   omega
theorem ends_sm (h:SM E ws c s b m w) {g:Nat} {scope:Int} {but:ByteArray} {cur:Array Value} {e:TypeId} {n ca:Nat} (L:Lay g w cur n) :
 Calls Tryz.prog 169 #[.pointer (some ⟨E.bb,0,none⟩),.int .i64 scope,.string but,.slice (some ⟨g,0,none⟩) n ca] (w.alloc (.cells cur e)) fun r w'=>r= .returned (.bool (b.has scope (namesOf cur)))∧SM E ws c s (b.ends scope but (namesOf cur)) m w':=by
 obtain⟨hg,hc,hn,hl⟩:=L
 subst hg
 have HL:=Lib.hid (h.lay (.cells cur e))
 have HN:=Lib.hid (names_om (e:=e) h.sx hc)
 have HB:Hid (∀b' w',SM (E.lay w.heap.size) (w.alloc (.cells cur e)) c s b' m w'→SM E ws c s b' m w'):=Lib.hid fun b' w' h'=>h.less h' rfl
 have HV:Hid (b.ends scope but (namesOf cur)=if b.has scope (namesOf cur)then(b.imply but).until' (namesOf cur)else b):=Lib.hid rfl
 have d1:(w.alloc (.cells cur e)).cell? ⟨E.bb,1,none⟩=some (.pointer (some ⟨E.sb,0,none⟩)):=HL.out.sx.bc.2.1
 clear h hc
 generalize namesOf cur=names at *
 generalize w.alloc (.cells cur e)=wa at *
 generalize hE:E.lay w.heap.size=E' at *
 have HI:Hid (E'.bb=E.bb∧E'.sb=E.sb∧ ∀k,Own E'.w0 E'.ex k→OM E' k):=Lib.hid ⟨by rw[←hE];rfl,by rw[←hE];rfl,fun k hk=> .inl hk⟩
 clear hE
 generalize (some ⟨w.heap.size,0,none⟩:Option Addr)=ad at *
 obtain⟨t,ht⟩: ∃t,t=b.has scope names:=⟨_,rfl⟩
 have HT:=Lib.hid (has_at HL.out.sx scope names ad n ca hn HN.out.at hl)
 rw[HI.out.2.1,←ht]at HT
 rw[←ht]at HV ⊢
 clear ht
 have HM:Hid (∀w1,SM E' wa c s b m w1→Calls Tryz.prog 120 #[.pointer (some ⟨E.sb,0,none⟩),.string but] w1 fun r w'=>r= .returned (.tuple #[])∧SM E' wa c s (b.imply but) m w'):=Lib.hid fun w1 h1=>by
  have:=imply_sm h1 but
  rw[HI.out.2.1]at this
  exact this
 have HU:Hid (∀w1,SM E' wa c s (b.imply but) m w1→Calls Tryz.prog 117 #[.pointer (some ⟨E.sb,0,none⟩),.slice ad n ca] w1 fun r w'=>r= .returned (.tuple #[])∧SM E' wa c s ((b.imply but).until' names) m w'):=Lib.hid fun w1 h1=>by
  have:=until_at h1 names ad n ca hn ((HN.out.kept h1.sx.keep).other fun k _ hk=>HI.out.2.2 k hk) hl
  rw[HI.out.2.1]at this
  exact this
 have HC:Hid (∀w1,SM E' wa c s (b.imply but) m w1→w1.cell? ⟨E.bb,1,none⟩=some (.pointer (some ⟨E.sb,0,none⟩))):=Lib.hid fun w1 h1=>by
  have:=h1.sx.bc.2.1
  rw[HI.out.1,HI.out.2.1]at this
  exact this
 have HC0:Hid (∀w1,SM E' wa c s b m w1→w1.cell? ⟨E.bb,1,none⟩=some (.pointer (some ⟨E.sb,0,none⟩))):=Lib.hid fun w1 h1=>by
  have:=h1.sx.bc.2.1
  rw[HI.out.1,HI.out.2.1]at this
  exact this
 clear hn
 cases t
 ·go_enter Tryz.func169,Tryz.ntmps169
  go_wp2_with (go_at_call 116;go_must (refine HT.out.mono ?_;rintro e w1 ⟨rfl,hb⟩;have H1:=Lib.hid (HL.out.world hb);have e1:=HC0.out _ H1.out;clear hb))
  go_ret
  rw[HV.out]
  simp only[Bool.false_eq_true,if_false]
  exact⟨rfl,HB.out _ _ H1.out⟩
 ·go_enter Tryz.func169,Tryz.ntmps169
  go_wp2_with (first
   |(go_at_call 116;go_must (refine HT.out.mono ?_;rintro e w1 ⟨rfl,hb⟩;have H1:=Lib.hid (HL.out.world hb);have e1:=HC0.out _ H1.out;clear hb))
   |(go_at_call 120;go_must (refine(HM.out _ H1.out).mono ?_;rintro e w2 ⟨rfl,h2⟩;have g1:=HC.out _ h2;have H2:=Lib.hid h2;clear h2))
   |(go_at_call 117;go_must (refine(HU.out _ H2.out).mono ?_;rintro e w3 ⟨rfl,h3⟩;have H3:=Lib.hid h3;clear h3)))
  go_ret
  rw[HV.out]
  simp only[if_true]
  exact⟨rfl,HB.out _ _ H3.out⟩
theorem leave_sm (h:SM E ws c s b m w) {g:Nat} {cur:Array Value} {e:TypeId} {n ca:Nat} (L:Lay g w cur n) :
 Calls Tryz.prog 123 #[.pointer (some ⟨E.bb,0,none⟩),.slice (some ⟨g,0,none⟩) n ca] (w.alloc (.cells cur e)) fun r w'=>r= .returned (.tuple #[])∧SM E ws c s (b.leave (namesOf cur)) m w':=by
 obtain⟨hg,hc,hn,hl⟩:=L
 subst hg
 have HL:=Lib.hid (h.lay (.cells cur e))
 have HN:=Lib.hid (names_om (e:=e) h.sx hc)
 have HB:Hid (∀b' w',SM (E.lay w.heap.size) (w.alloc (.cells cur e)) c s b' m w'→SM E ws c s b' m w'):=Lib.hid fun b' w' h'=>h.less h' rfl
 have d1:(w.alloc (.cells cur e)).cell? ⟨E.bb,1,none⟩=some (.pointer (some ⟨E.sb,0,none⟩)):=HL.out.sx.bc.2.1
 clear h hc
 generalize namesOf cur=names at *
 generalize w.alloc (.cells cur e)=wa at *
 generalize hE:E.lay w.heap.size=E' at *
 have HI:Hid (E'.bb=E.bb∧E'.sb=E.sb∧E'.lb=E.lb∧ ∀k,Own E'.w0 E'.ex k→OM E' k):=Lib.hid ⟨by rw[←hE];rfl,by rw[←hE];rfl,by rw[←hE];rfl,fun k hk=> .inl hk⟩
 clear hE
 generalize (some ⟨w.heap.size,0,none⟩:Option Addr)=ad at *
 have HM:Hid (∀w1,SM E' wa c s b m w1→Calls Tryz.prog 120 #[.pointer (some ⟨E.sb,0,none⟩),.string ⟨#[]⟩] w1 fun r w'=>r= .returned (.tuple #[])∧SM E' wa c s (b.imply ⟨#[]⟩) m w'):=Lib.hid fun w1 h1=>by
  have:=imply_sm h1 ⟨#[]⟩
  rw[HI.out.2.1]at this
  exact this
 have HU:Hid (∀b1 w1,SM E' wa c s b1 m w1→Calls Tryz.prog 117 #[.pointer (some ⟨E.sb,0,none⟩),.slice ad n ca] w1 fun r w'=>r= .returned (.tuple #[])∧SM E' wa c s (b1.until' names) m w'):=Lib.hid fun b1 w1 h1=>by
  have:=until_at h1 names ad n ca hn ((HN.out.kept h1.sx.keep).other fun k _ hk=>HI.out.2.2.2 k hk) hl
  rw[HI.out.2.1]at this
  exact this
 have HK:Hid (∀b1 w1,SM E' wa c s b1 m w1→Calls Tryz.prog 121 #[.pointer (some ⟨E.lb,0,none⟩)] w1 fun r w'=>r= .returned (.tuple #[])∧SM E' wa c s b1.lclear m w'):=Lib.hid fun b1 w1 h1=>by
  have:=lclear_sm h1
  rw[HI.out.2.2.1]at this
  exact this
 have HC:Hid (∀b1 w1,SM E' wa c s b1 m w1→w1.cell? ⟨E.bb,1,none⟩=some (.pointer (some ⟨E.sb,0,none⟩))∧w1.cell? ⟨E.bb,2,none⟩=some (.pointer (some ⟨E.lb,0,none⟩))∧w1.cell? ⟨E.bb,3,none⟩=some (.int .i64 b1.mode)∧w1.frozen? ⟨E.bb,3,none⟩=false):=Lib.hid fun b1 w1 h1=>by
  obtain⟨-,q1,q2,q3, -⟩:=h1.sx.bc
  have q4:=h1.sx.bf 3 (by omega)
  rw[HI.out.1]at q1 q2 q3 q4
  rw[HI.out.2.1]at q1
  rw[HI.out.2.2.1]at q2
  exact⟨q1,q2,q3,q4⟩
 have HE:Hid (∀b1 w1,SM E ws c s b1 m w1→SM E ws c s (b1.goto 10) m (w1.setCell ⟨E.bb,3,none⟩ (.int .i64 10))):=Lib.hid fun b1 w1 h1=>h1.mode 10
 clear hn
 go_enter Tryz.func123,Tryz.ntmps123
 go_wp2_with (first
  |(go_at_call 120;go_must (refine(HM.out _ HL.out).mono ?_;rintro e w2 ⟨rfl,h2⟩;obtain⟨g1, -⟩:=HC.out _ _ h2;have H2:=Lib.hid h2;clear h2))
  |(go_at_call 117;go_must (refine(HU.out _ _ H2.out).mono ?_;rintro e w3 ⟨rfl,h3⟩;obtain⟨-,g2, -⟩:=HC.out _ _ h3;have H3:=Lib.hid h3;clear h3))
  |(go_at_call 121;go_must (refine(HK.out _ _ H3.out).mono ?_;rintro e w4 ⟨rfl,h4⟩;obtain⟨-, -,g3,g4⟩:=HC.out _ _ h4;have H4:=Lib.hid h4;clear h4)))
 go_end0
 exact⟨rfl,HE.out _ _ (HB.out _ _ H4.out)⟩
end
end
section
section
variable {E:BE} {ws w w':World} {c:Nat} {s:Int} {b b':BuD} {m m':BMark}
theorem inText_sm (h:SM E ws c s b m w) (hu:b.used+m.text.size≤9223372036854775807):Calls Tryz.prog 67 #[.pointer (some ⟨E.bb,0,none⟩),.pointer (some ⟨E.mb,0,none⟩)] w fun r w'=>r= .returned (.bool (b.inText m).2.2)∧SM E ws (c+1) s (b.inText m).1 (b.inText m).2.1 w':=by
 have H:=Lib.hid h
 obtain⟨c0, -, -, -,c4⟩:=H.out.sx.mc
 obtain⟨-,d1, -,d3,d4, -, -, -, -, -, -⟩:=H.out.sx.bc
 have f3:=H.out.sx.bf 3 (by omega)
 have hne: ¬E.mb=E.bb:=fun e=>H.out.sx.mo.ne e.symm
 have hne2: ¬E.bb=E.mb:=H.out.sx.mo.ne
 clear h
 go_enter Tryz.func67,Tryz.ntmps67
 go_wp2_with ((first
  |(go_at_call 55;go_must (refine' (text_sm ?h _ ?_).mono ?_))
  |(go_at_call 59;go_must (refine' (pop_sm ?h).mono ?_)));go_must ((case h=>with_reducible first|exact H.out|exact H.out.text _ (by assumption)|exact(H.out.text _ (by assumption)).mode _|exact H.out.mode _|exact H.out.head _|exact H.out.skip _|exact H.out.wait _|exact(H.out.mode _).back _|exact H.out.mname _ (by decide));any_goals first|(rintro e w1 ⟨rfl,h1⟩;(try simp only[namesOf_mk,strOf,List.map_cons,List.map_nil,BuD.ends]at h1);clear c0 c4 d1 d3 d4 f3;replace H:=Lib.hid h1;clear h1;obtain⟨c0, -, -, -,c4⟩:=H.out.sx.mc;obtain⟨-,d1, -,d3,d4, -, -, -, -, -, -⟩:=H.out.sx.bc;have f3:=H.out.sx.bf 3 (by omega))|exact⟨by first|with_reducible rfl|simp[World.setCell],by rfl,by rfl,by first|decide|simp[namesOf]⟩|omega|fail))
 all_goals try (exfalso;have q:=eq_of_beq (by assumption:(m.kind==1)=true);omega)
 all_goals try (exfalso;have q:=eq_of_beq (by assumption:(m.kind==2)=true);omega)
 all_goals try (exfalso;have q:=eq_of_beq (by assumption:(m.kind==3)=true);omega)
 all_goals try (exfalso;have q:=eq_of_beq (by assumption:(m.kind==6)=true);omega)
 all_goals
  try have e01:(m.kind==1)=true:=beq_iff_eq.2 (by assumption)
  try have e01:(m.kind==1)=false:=beq_eq_false_iff_ne.2 (by assumption)
  try have e02:(m.kind==2)=true:=beq_iff_eq.2 (by assumption)
  try have e02:(m.kind==2)=false:=beq_eq_false_iff_ne.2 (by assumption)
  try have e03:(m.kind==3)=true:=beq_iff_eq.2 (by assumption)
  try have e03:(m.kind==3)=false:=beq_eq_false_iff_ne.2 (by assumption)
  try have e06:(m.kind==6)=true:=beq_iff_eq.2 (by assumption)
  try have e06:(m.kind==6)=false:=beq_eq_false_iff_ne.2 (by assumption)
  go_ret
  have hv:=BuD.inText.eq_1 b m
  simp only[*,bools,if_true,if_false,reduceIte,beq_self_eq_true,Int.reduceBEq]at hv
  rw[hv]
  refine⟨by first|rfl|(rw[ht];rfl),?_⟩
  exact SM.more (by first|(with_reducible first|exact H.out|exact H.out.mode _|exact H.out.skip _|exact H.out.head _|exact(H.out.mode _).back _|exact(H.out.wait _)|exact H.out.drew.wait _|exact(H.out.wait _).drew|exact H.out.text _ (by assumption)|exact(H.out.text _ (by assumption)).mode _|exact(H.out.mode _).head _|exact(H.out.head _))|exact H.out|exact H.out.mode _|exact H.out.skip _) (by omega) (by omega)
theorem inHead_sm (h:SM E ws c s b m w) (hu:b.used+m.text.size≤9223372036854775807):Calls Tryz.prog 64 #[.pointer (some ⟨E.bb,0,none⟩),.pointer (some ⟨E.mb,0,none⟩)] w fun r w'=>r= .returned (.bool (b.inHead m).2.2)∧SM E ws (c+1) s (b.inHead m).1 (b.inHead m).2.1 w':=by
 have H:=Lib.hid h
 obtain⟨c0, -, -, -, -⟩:=H.out.sx.mc
 obtain⟨-,d1, -,d3, -, -, -, -, -, -, -⟩:=H.out.sx.bc
 have f3:=H.out.sx.bf 3 (by omega)
 have hne: ¬E.mb=E.bb:=fun e=>H.out.sx.mo.ne e.symm
 have hne2: ¬E.bb=E.mb:=H.out.sx.mo.ne
 clear h
 go_enter Tryz.func64,Tryz.ntmps64
 go_wp2_with ((first
  |(go_at_call 106;go_must (refine' tB (blank_sm ?h hu) ?_))
  |(go_at_call 107;go_must (refine' tB (heads_sm ?h) ?_))
  |(go_at_call 104;go_must (refine' tB (start_sm ?h ?_) ?_))
  |(go_at_call 103;go_must (refine' tB (end_sm ?h ?_) ?_))
  |(go_at_call 59;go_must (refine' (pop_sm ?h).mono ?_)));go_must ((case h=>with_reducible first|exact H.out|exact H.out.text _ (by assumption)|exact(H.out.text _ (by assumption)).mode _|exact H.out.mode _|exact H.out.head _|exact H.out.skip _|exact H.out.wait _|exact(H.out.mode _).back _|exact H.out.mname _ (by decide));any_goals first|(rintro e w1 ⟨rfl,h1⟩;(try simp only[namesOf_mk,strOf,List.map_cons,List.map_nil,BuD.ends]at h1);clear c0 d1 d3 f3;replace H:=Lib.hid h1;clear h1;obtain⟨c0, -, -, -, -⟩:=H.out.sx.mc;obtain⟨-,d1, -,d3, -, -, -, -, -, -, -⟩:=H.out.sx.bc;have f3:=H.out.sx.bf 3 (by omega))|(intro t ht w1 h1;(try simp only[namesOf_mk,strOf,List.map_cons,List.map_nil,BuD.ends]at ht h1);cases t <;>((try simp only[ht,reduceIte,Bool.false_eq_true]at h1);clear c0 d1 d3 f3;replace H:=Lib.hid h1;clear h1;obtain⟨c0, -, -, -, -⟩:=H.out.sx.mc;obtain⟨-,d1, -,d3, -, -, -, -, -, -, -⟩:=H.out.sx.bc;have f3:=H.out.sx.bf 3 (by omega)))|exact⟨by first|with_reducible rfl|simp[World.setCell],by rfl,by rfl,by first|decide|simp[namesOf]⟩|omega|fail))
 all_goals try (exfalso;have q:=eq_of_beq (by assumption:((BuD.blankM m).kind==1)=true);omega)
 all_goals try (exfalso;have q:=eq_of_beq (by assumption:((BuD.blankM m).kind==2)=true);omega)
 all_goals try (exfalso;have q:=eq_of_beq (by assumption:((BuD.blankM m).kind==3)=true);omega)
 all_goals try (exfalso;have q:=eq_of_beq (by assumption:((BuD.blankM m).kind==6)=true);omega)
 all_goals
  try have e01:((BuD.blankM m).kind==1)=true:=beq_iff_eq.2 (by assumption)
  try have e01:((BuD.blankM m).kind==1)=false:=beq_eq_false_iff_ne.2 (by assumption)
  try have e02:((BuD.blankM m).kind==2)=true:=beq_iff_eq.2 (by assumption)
  try have e02:((BuD.blankM m).kind==2)=false:=beq_eq_false_iff_ne.2 (by assumption)
  try have e03:((BuD.blankM m).kind==3)=true:=beq_iff_eq.2 (by assumption)
  try have e03:((BuD.blankM m).kind==3)=false:=beq_eq_false_iff_ne.2 (by assumption)
  try have e06:((BuD.blankM m).kind==6)=true:=beq_iff_eq.2 (by assumption)
  try have e06:((BuD.blankM m).kind==6)=false:=beq_eq_false_iff_ne.2 (by assumption)
  go_ret
  have hv:=BuD.inHead.eq_1 b m
  simp only[*,bools,if_true,if_false,reduceIte,beq_self_eq_true,Int.reduceBEq]at hv
  rw[hv]
  refine⟨by first|rfl|(rw[ht];rfl),?_⟩
  exact SM.more (by first|(with_reducible first|exact H.out|exact H.out.mode _|exact H.out.skip _|exact H.out.head _|exact(H.out.mode _).back _|exact(H.out.wait _)|exact H.out.drew.wait _|exact(H.out.wait _).drew|exact H.out.text _ (by assumption)|exact(H.out.text _ (by assumption)).mode _|exact(H.out.mode _).head _|exact(H.out.head _))|exact H.out|exact H.out.mode _|exact H.out.skip _) (by omega) (by omega)
end
end
section
section
variable {E:BE} {ws w w':World} {c:Nat} {s:Int} {b b':BuD} {m m':BMark}
theorem inStart_sm (h:SM E ws c s b m w):Calls Tryz.prog 62 #[.pointer (some ⟨E.bb,0,none⟩),.pointer (some ⟨E.mb,0,none⟩)] w fun r w'=>r= .returned (.bool (b.inStart m).2.2)∧SM E ws (c+1) s (b.inStart m).1 (b.inStart m).2.1 w':=by
 have H:=Lib.hid h
 obtain⟨c0, -,c2, -,c4⟩:=H.out.sx.mc
 obtain⟨-, -, -,d3, -, -, -, -, -, -, -⟩:=H.out.sx.bc
 have q4:=H.out.sx.mf.2
 have f3:=H.out.sx.bf 3 (by omega)
 have hne: ¬E.mb=E.bb:=fun e=>H.out.sx.mo.ne e.symm
 have hne2: ¬E.bb=E.mb:=H.out.sx.mo.ne
 clear h
 go_enter Tryz.func62,Tryz.ntmps62
 go_wp2_with (first
  |((first
   |(go_at_call 104;go_must (refine' tB (start_sm ?h ?_) ?_))
   |(go_at_call 103;go_must (refine' tB (end_sm ?h ?_) ?_))
   |(go_at_call 105;go_must (first|with_reducible refine' (insert0_sm ?h _ ?n).mono ?_|with_reducible refine' (insertm_sm ?h _ ?n ?r).mono ?_)));go_must ((case h=>with_reducible first|exact H.out|exact H.out.text _ (by assumption)|exact(H.out.text _ (by assumption)).mode _|exact H.out.mode _|exact H.out.head _|exact H.out.skip _|exact H.out.wait _|exact(H.out.mode _).back _|exact H.out.mname _ (by decide));(try case n=>first|decide|exact H.out.sx.mo.nlen);(try case r=>rfl);any_goals first|(rintro e w1 ⟨rfl,h1⟩;(try simp only[namesOf_mk,strOf,List.map_cons,List.map_nil,BuD.ends]at h1);clear c0 c2 c4 q4 d3 f3;replace H:=Lib.hid h1;clear h1;obtain⟨c0, -,c2, -,c4⟩:=H.out.sx.mc;obtain⟨-, -, -,d3, -, -, -, -, -, -, -⟩:=H.out.sx.bc;have q4:=H.out.sx.mf.2;have f3:=H.out.sx.bf 3 (by omega))|(intro t ht w1 h1;(try simp only[namesOf_mk,strOf,List.map_cons,List.map_nil,BuD.ends]at ht h1);cases t <;>((try simp only[ht,reduceIte,Bool.false_eq_true]at h1);clear c0 c2 c4 q4 d3 f3;replace H:=Lib.hid h1;clear h1;obtain⟨c0, -,c2, -,c4⟩:=H.out.sx.mc;obtain⟨-, -, -,d3, -, -, -, -, -, -, -⟩:=H.out.sx.bc;have q4:=H.out.sx.mf.2;have f3:=H.out.sx.bf 3 (by omega)))|exact⟨by first|with_reducible rfl|simp[World.setCell],by rfl,by rfl,by first|decide|simp[namesOf]⟩|omega|fail))
  |(go_at_call 102;go_must (refine(spaces_any _ _ H.out.sx.mo.tlen).mono ?_;rintro e w1 ⟨rfl,hb⟩;have h1:=H.out.world hb;clear hb;have hz:=restF_le m.text;generalize hr:restF m.text=rr at hz ⊢;generalize ha:aheadF m.text=aa;clear c0 c2 c4 q4 d3 f3;replace H:=Lib.hid h1;clear h1;obtain⟨c0, -,c2, -,c4⟩:=H.out.sx.mc;obtain⟨-, -, -,d3, -, -, -, -, -, -, -⟩:=H.out.sx.bc;have q4:=H.out.sx.mf.2;have f3:=H.out.sx.bf 3 (by omega))))
 all_goals try (exfalso;have q:=eq_of_beq (by assumption:(m.kind==1)=true);omega)
 all_goals try (exfalso;have q:=eq_of_beq (by assumption:(m.kind==2)=true);omega)
 all_goals try (exfalso;have q:=eq_of_beq (by assumption:(m.kind==3)=true);omega)
 all_goals try (exfalso;have q:=eq_of_beq (by assumption:(m.kind==6)=true);omega)
 all_goals
  try have e01:(m.kind==1)=true:=beq_iff_eq.2 (by assumption)
  try have e01:(m.kind==1)=false:=beq_eq_false_iff_ne.2 (by assumption)
  try have e02:(m.kind==2)=true:=beq_iff_eq.2 (by assumption)
  try have e02:(m.kind==2)=false:=beq_eq_false_iff_ne.2 (by assumption)
  try have e03:(m.kind==3)=true:=beq_iff_eq.2 (by assumption)
  try have e03:(m.kind==3)=false:=beq_eq_false_iff_ne.2 (by assumption)
  try have e06:(m.kind==6)=true:=beq_iff_eq.2 (by assumption)
  try have e06:(m.kind==6)=false:=beq_eq_false_iff_ne.2 (by assumption)
  go_ret
  have hv:=BuD.inStart.eq_1 b m
  simp only[*,BuD.blankM,BuD.blankT,bools,if_true,if_false,reduceIte,beq_self_eq_true,Int.reduceBEq]at hv
  rw[hv]
  refine⟨by first|rfl|(rw[ht];rfl),?_⟩
  exact SM.more (by first|(with_reducible first|exact H.out|exact H.out.mode _|exact H.out.skip _|exact H.out.head _|exact(H.out.mode _).back _|exact(H.out.wait _)|exact H.out.drew.wait _|exact(H.out.wait _).drew|exact H.out.text _ (by assumption)|exact(H.out.text _ (by assumption)).mode _|exact(H.out.mode _).head _|exact(H.out.head _))|exact H.out|exact H.out.mode _|exact H.out.skip _) (by omega) (by omega)
theorem inAhead_sm (h:SM E ws c s b m w):Calls Tryz.prog 63 #[.pointer (some ⟨E.bb,0,none⟩),.pointer (some ⟨E.mb,0,none⟩)] w fun r w'=>r= .returned (.bool (b.inAhead m).2.2)∧SM E ws (c+1) s (b.inAhead m).1 (b.inAhead m).2.1 w':=by
 have H:=Lib.hid h
 obtain⟨c0, -,c2, -,c4⟩:=H.out.sx.mc
 obtain⟨-, -, -,d3, -,d5, -, -, -, -, -⟩:=H.out.sx.bc
 have q4:=H.out.sx.mf.2
 have f3:=H.out.sx.bf 3 (by omega)
 have f5:=H.out.sx.bf 5 (by omega)
 have hne: ¬E.mb=E.bb:=fun e=>H.out.sx.mo.ne e.symm
 have hne2: ¬E.bb=E.mb:=H.out.sx.mo.ne
 clear h
 go_enter Tryz.func63,Tryz.ntmps63
 go_wp2_with (first
  |((first
   |(go_at_call 104;go_must (refine' tB (start_sm ?h ?_) ?_))
   |(go_at_call 103;go_must (refine' tB (end_sm ?h ?_) ?_))
   |(go_at_call 105;go_must (first|with_reducible refine' (insert0_sm ?h _ ?n).mono ?_|with_reducible refine' (insertm_sm ?h _ ?n ?r).mono ?_)));go_must ((case h=>with_reducible first|exact H.out|exact H.out.text _ (by assumption)|exact(H.out.text _ (by assumption)).mode _|exact H.out.mode _|exact H.out.head _|exact H.out.skip _|exact H.out.wait _|exact(H.out.mode _).back _|exact H.out.mname _ (by decide));(try case n=>first|decide|exact H.out.sx.mo.nlen);(try case r=>rfl);any_goals first|(rintro e w1 ⟨rfl,h1⟩;(try simp only[namesOf_mk,strOf,List.map_cons,List.map_nil,BuD.ends]at h1);clear c0 c2 c4 q4 d3 f3 d5 f5;replace H:=Lib.hid h1;clear h1;obtain⟨c0, -,c2, -,c4⟩:=H.out.sx.mc;obtain⟨-, -, -,d3, -,d5, -, -, -, -, -⟩:=H.out.sx.bc;have q4:=H.out.sx.mf.2;have f3:=H.out.sx.bf 3 (by omega);have f5:=H.out.sx.bf 5 (by omega))|(intro t ht w1 h1;(try simp only[namesOf_mk,strOf,List.map_cons,List.map_nil,BuD.ends]at ht h1);cases t <;>((try simp only[ht,reduceIte,Bool.false_eq_true]at h1);clear c0 c2 c4 q4 d3 f3 d5 f5;replace H:=Lib.hid h1;clear h1;obtain⟨c0, -,c2, -,c4⟩:=H.out.sx.mc;obtain⟨-, -, -,d3, -,d5, -, -, -, -, -⟩:=H.out.sx.bc;have q4:=H.out.sx.mf.2;have f3:=H.out.sx.bf 3 (by omega);have f5:=H.out.sx.bf 5 (by omega)))|exact⟨by first|with_reducible rfl|simp[World.setCell],by rfl,by rfl,by first|decide|simp[namesOf]⟩|omega|fail))
  |(go_at_call 102;go_must (refine(spaces_any _ _ H.out.sx.mo.tlen).mono ?_;rintro e w1 ⟨rfl,hb⟩;have h1:=H.out.world hb;clear hb;have hz:=restF_le m.text;generalize hr:restF m.text=rr at hz ⊢;generalize ha:aheadF m.text=aa;clear c0 c2 c4 q4 d3 f3 d5 f5;replace H:=Lib.hid h1;clear h1;obtain⟨c0, -,c2, -,c4⟩:=H.out.sx.mc;obtain⟨-, -, -,d3, -,d5, -, -, -, -, -⟩:=H.out.sx.bc;have q4:=H.out.sx.mf.2;have f3:=H.out.sx.bf 3 (by omega);have f5:=H.out.sx.bf 5 (by omega))))
 all_goals try (exfalso;have q:=eq_of_beq (by assumption:(m.kind==1)=true);omega)
 all_goals try (exfalso;have q:=eq_of_beq (by assumption:(m.kind==2)=true);omega)
 all_goals try (exfalso;have q:=eq_of_beq (by assumption:(m.kind==3)=true);omega)
 all_goals try (exfalso;have q:=eq_of_beq (by assumption:(m.kind==6)=true);omega)
 all_goals
  try have e01:(m.kind==1)=true:=beq_iff_eq.2 (by assumption)
  try have e01:(m.kind==1)=false:=beq_eq_false_iff_ne.2 (by assumption)
  try have e02:(m.kind==2)=true:=beq_iff_eq.2 (by assumption)
  try have e02:(m.kind==2)=false:=beq_eq_false_iff_ne.2 (by assumption)
  try have e03:(m.kind==3)=true:=beq_iff_eq.2 (by assumption)
  try have e03:(m.kind==3)=false:=beq_eq_false_iff_ne.2 (by assumption)
  try have e06:(m.kind==6)=true:=beq_iff_eq.2 (by assumption)
  try have e06:(m.kind==6)=false:=beq_eq_false_iff_ne.2 (by assumption)
  go_ret
  have hv:=BuD.inAhead.eq_1 b m
  simp only[*,BuD.blankM,BuD.blankT,BuD.headed,bools,if_true,if_false,reduceIte,beq_self_eq_true,Int.reduceBEq]at hv
  rw[hv]
  refine⟨by first|rfl|(rw[ht];rfl),?_⟩
  exact SM.more (by first|(with_reducible first|exact H.out|exact H.out.mode _|exact H.out.skip _|exact H.out.head _|exact(H.out.mode _).back _|exact(H.out.wait _)|exact H.out.drew.wait _|exact(H.out.wait _).drew|exact H.out.text _ (by assumption)|exact(H.out.text _ (by assumption)).mode _|exact(H.out.mode _).head _|exact(H.out.head _))|exact H.out|exact H.out.mode _|exact H.out.skip _) (by omega) (by omega)
end
end
end Go.Proofs.YtpnagbgpbajfeaaGreatDoor
