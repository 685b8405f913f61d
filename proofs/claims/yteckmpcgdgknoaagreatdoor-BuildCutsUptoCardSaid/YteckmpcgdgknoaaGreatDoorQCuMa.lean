/-
  Contract: build.Marks at any marks. Conditions: those that the lemma types (how many marks, how many bytes of text).
-/
import Derived.Test.YteckmpcgdgknoaaGreatDoorQCuSh
import Derived.Test.YteckmpcgdgknoaaGreatDoorQCuMx
import Derived.Test.YteckmpcgdgknoaaGreatDoorQLawM
set_option linter.unusedVariables false
set_option linter.unusedSimpArgs false
namespace Go.Proofs.YteckmpcgdgknoaaGreatDoor
open Go.RowKit Mem
noncomputable def marksB (l:List MkA):BuD:=newB.runs ((l.map (·.m)).takeWhile fun m=>m.kind !=6)
theorem runs_err: ∀(l:List BMark) {b:BuD},b.err≠0→b.runs l=b
 | [],_,_=>rfl
 |m::r,b,h=>by
  show(b.DoF m).runs r=b
  rw[DoF_err h]
  exact runs_err r h
theorem txt_take (l:List MkA) (k:Nat) (h:k<l.length):txtN (l.take (k+1))=txtN (l.take k)+l[k].m.text.size∧txtN (l.take (k+1))≤txtN l:=by
 have happ: ∀A B:List MkA,txtN (A++B)=txtN A+txtN B:=fun A B=>by
  induction A with
  |nil=>rw[List.nil_append,txtN,Nat.zero_add]
  |cons x A ih=>rw[List.cons_append,txtN,txtN,ih,Nat.add_assoc]
 constructor
 ·rw[List.take_succ_eq_append_getElem h,happ,txtN,txtN,Nat.add_zero]
 ·have:=happ (l.take (k+1)) (l.drop (k+1))
  rw[List.take_append_drop]at this
  omega
theorem upto_all {l:List MkA} {k:Nat} (hk:k≤l.length) (h: ∀x∈l.take k,x.m.kind≠6):(l.map (·.m)).takeWhile (fun m=>m.kind !=6)=(l.take k).map (·.m)++((l.drop k).map (·.m)).takeWhile (fun m=>m.kind !=6):=by
 conv=>lhs;rw[←List.take_append_drop k l]
 rw[List.map_append]
 exact List.takeWhile_append_of_pos fun m hm=>by
  obtain⟨x,hx,rfl⟩:=List.mem_map.1 hm
  exact bne_iff_ne.2 (h x hx)
theorem mks_cells {F:Nat→Prop} {w:World} {a:Option Addr} {l:List MkA} (hat:AtF F w a (mksV l)) {k:Nat} (hk:k<l.length): ∃b o,a=some ⟨b,o,none⟩∧w.cell? ⟨b,o+k*5,none⟩=some (.int .i64 l[k].m.kind)∧w.cell? ⟨b,o+k*5+1,none⟩=some (.string l[k].m.name)∧w.cell? ⟨b,o+k*5+2,none⟩=some (.slice l[k].a l[k].m.attrs.length l[k].c)∧w.cell? ⟨b,o+k*5+3,none⟩=some (.bool l[k].m.self)∧w.cell? ⟨b,o+k*5+4,none⟩=some (.string l[k].m.text):=by
 have hget: ∀(l:List MkA) (k:Nat) (hk:k<l.length) (f:Nat),f<5→(mksV l)[k*5+f]?=(mkV l[k])[f]?:=by
  intro l
  induction l with
  |nil=>intro k hk;simp at hk
  |cons x r ih =>
   intro k hk f hf
   show(mkV x++mksV r)[k*5+f]?=_
   cases k with
   |zero =>
    rw[Nat.zero_mul,Nat.zero_add,List.getElem?_append_left (by show f<5;omega)]
    rfl
   |succ k =>
    rw[List.getElem?_append_right (by show 5≤_;omega)]
    have:=ih k (by simpa using hk) f hf
    rw[show(k+1)*5+f-(mkV x).length=k*5+f by show(k+1)*5+f-5=_;omega,this]
    rfl
 have key: ∀f u,f<5→(mkV l[k])[f]?=some u→ ∃b o,a=some ⟨b,o,none⟩∧w.cell? ⟨b,o+k*5+f,none⟩=some u:=by
  intro f u hf hu
  obtain⟨b,o,e,_,hcell⟩:=hat (k*5+f) u (by rw[hget l k hk f hf];exact hu)
  exact⟨b,o,e,by rw[show o+k*5+f=o+(k*5+f)from by omega];exact hcell⟩
 obtain⟨b,o,rfl,c0⟩:=key 0 _ (by omega) rfl
 obtain⟨_,_,e,c1⟩:=key 1 _ (by omega) rfl
 cases e
 obtain⟨_,_,e,c2⟩:=key 2 _ (by omega) rfl
 cases e
 obtain⟨_,_,e,c3⟩:=key 3 _ (by omega) rfl
 cases e
 obtain⟨_,_,e,c4⟩:=key 4 _ (by omega) rfl
 cases e
 exact⟨b,o,rfl,c0,c1,c2,c3,c4⟩
structure MR (w:World) (l:List MkA) (bb0 k:Nat) (E:BE) (ws:World) (b:BuD) (wr:World):Prop where
 bi:BI E ws (txtN (l.take k)) b wr
 bb:E.bb=bb0
 w0:E.w0=w
 exo:E.ex w.heap.size
 out:wr.heap[w.heap.size]?=some (.cells zeroN 30 (0,0))
 run:b=newB.runs ((l.take k).map (·.m))
 err:b.err=0
 kin: ∀x∈l.take k,x.m.kind≠6
section
variable {w wr w' u:World} {l:List MkA} {bb0 k:Nat} {E:BE} {ws:World} {b:BuD}
theorem MR.below (h:MR w l bb0 k E ws b wr):Below w.heap.size w wr:=by
 have:=h.bi.below
 rw[h.w0]at this
 exact this
theorem MR.world (h:MR w l bb0 k E ws b wr) (hb:Below wr.heap.size wr w'):MR w l bb0 k E ws b w' :=
 ⟨h.bi.world hb,h.bb,h.w0,h.exo,(hb.block _ (row_lt h.out)).trans h.out,h.run,h.err,h.kin⟩
theorem MR.ma (h:MR w l bb0 k E ws b wr) {x:MkA} (hx:MA Non w x.m x.a x.c):MA (OB E) wr x.m x.a x.c:=by
 obtain⟨h1,h2,h3,h4,h5,h6⟩:=hx
 refine⟨?_,h2,h3,h4,h5,h6⟩
 have hk:=h1.kept (Keeps.ofBelow (F:=Non) h.below)
 intro j u hj
 obtain⟨b',o,e, -,hc⟩:=h1 j u hj
 obtain⟨b2,o2,e2, -,hc2⟩:=hk j u hj
 have hlt:b'<w.heap.size:=lt_of_cell hc
 rw[e]at e2
 cases e2
 refine⟨b',o,e,fun hx=> ?_,hc2⟩
 have hb0:=h.bi.bld.bm.b0
 rw[h.w0]at hb0
 rcases hx with hx|hx
 ·have h7:=hx.1
  rw[h.w0]at h7
  omega
 ·have:b'=E.bb:=hx
  omega
theorem MR.done (h:MR w l bb0 k E ws b wr) (hk:k≤l.length) (hl: ∀hlt:k<l.length,l[k].m.kind=6):marksB l=b:=by
 unfold marksB
 rw[upto_all hk h.kin,h.run]
 rcases Nat.lt_or_ge k l.length with hlt|hge
 ·rw[List.drop_eq_getElem_cons hlt,List.map_cons,List.takeWhile_cons_of_neg (by rw[hl hlt];decide),List.append_nil]
 ·rw[List.drop_eq_nil_of_le hge,List.map_nil,List.takeWhile_nil,List.append_nil]
theorem take_more {k:Nat} (hlt:k<l.length) (hr:b=newB.runs ((l.take k).map (·.m))):b.DoF l[k].m=newB.runs ((l.take (k+1)).map (·.m)):=by
 rw[List.take_succ_eq_append_getElem hlt,List.map_append,List.map_cons,List.map_nil,runs_snoc,←hr]
theorem kin_more {k:Nat} (hlt:k<l.length) (h: ∀x∈l.take k,x.m.kind≠6) (h6:l[k].m.kind≠6): ∀x∈l.take (k+1),x.m.kind≠6:=by
 intro x hx
 rw[List.take_succ_eq_append_getElem hlt]at hx
 rcases List.mem_append.1 hx with hx|hx
 ·exact h x hx
 ·rw[List.mem_singleton.1 hx];exact h6
theorem MR.bad (h:MR w l bb0 k E ws b wr) (hlt:k<l.length) (h6:l[k].m.kind≠6) (he:(b.DoF l[k].m).err≠0):(marksB l).endE=(b.DoF l[k].m).err∧(marksB l).endN=emptyNT:=by
 have hE: ∀c:BuD,c.err≠0→c.endE=c.err∧c.endN=emptyNT:=fun c hc=>by
  have q:c.endB=c:=DoF_err hc
  have q2:c.endE=c.err:=by unfold BuD.endE;rw[q,if_pos hc]
  exact⟨q2,by unfold BuD.endN;rw[q2,if_neg hc]⟩
 have e:marksB l=b.DoF l[k].m:=by
  unfold marksB
  rw[upto_all (k:=k+1) (by omega) (kin_more hlt h.kin h6),runs_more,←take_more hlt h.run]
  exact runs_err _ he
 rw[e]
 exact hE _ he
theorem MR.do (h:MR w l bb0 k E ws b wr) (hlt:k<l.length) (h6:l[k].m.kind≠6) (hx:MA Non w l[k].m l[k].a l[k].c) (ht:txtN l≤1000000000000) (hno:w.heap.size≠bb0) :
 Calls Tryz.prog 13 #[.pointer (some ⟨bb0,0,none⟩),markA l[k].m.kind l[k].m.name l[k].a l[k].m.attrs.length l[k].c l[k].m.self l[k].m.text] wr fun r v=>r= .returned (.int .i64 (b.DoF l[k].m).err)∧BI E wr (txtN (l.take (k+1))) (b.DoF l[k].m) v∧v.heap[w.heap.size]?=some (.cells zeroN 30 (0,0))∧((b.DoF l[k].m).err=0→MR w l bb0 (k+1) E wr (b.DoF l[k].m) v):=by
 obtain⟨t1,t2⟩:=txt_take l k hlt
 have hre:BI E wr (txtN (l.take k)) b wr:=⟨⟨h.bi.bld.bm,Keeps.refl _ _,h.bi.bld.ok⟩,h.bi.pg,h.bi.md,h.bi.wk,h.bi.uw⟩
 have h1:=Do_bi hre (h.ma hx) (by omega)
 rw[h.bb,←t1]at h1
 refine h1.mono fun r v ⟨hr,hv⟩=> ?_
 have ho:=(h.bi.other hv.bld.keep h.exo (by rw[h.bb];exact hno)).trans h.out
 exact⟨hr,hv,ho,fun he=>⟨hv,h.bb,h.w0,h.exo,ho,take_more hlt h.run,he,kin_more hlt h.kin h6⟩⟩
end
theorem zero_node {F:Nat→Prop} {w:World}:NodeC F w (nodeV 0 0 ⟨#[]⟩ none 0 0 ⟨#[]⟩ none 0 0) emptyNT :=
 NodeC.mk (kids:= []) (attrs:= []) [] (Nat.le_refl _) (Nat.zero_le _) (fun _=>rfl) (fun j u hj=>by simp[pairsV]at hj) (Nat.le_refl _) (Nat.zero_le _) (fun _=>rfl) (fun j u hj=>by simp at hj) rfl (fun i h=>by simp at h)
set_option maxRecDepth 100000 in
set_option maxHeartbeats 8000000 in
theorem Marks_any (l:List MkA) (a:Option Addr) (c:Nat) (w:World) (hl:l.length≤2000000000000) (hat:At w a (mksV l)) (hm: ∀x∈l,MA Non w x.m x.a x.c) (ht:txtN l≤1000000000000) :
 Calls Tryz.prog 6 #[.slice a l.length c] w fun r w'=> ∃cs,r= .returned (.tuple #[.agg cs.toArray,.int .i64 (marksB l).endE])∧NodeC (· <w.heap.size) w' cs (marksB l).endN∧Below w.heap.size w w':=by
 have hb0:=(Below.refl w.heap.size w).alloc (Nat.le_refl _) (.cells #[.int .i64 0,.int .i64 0,.string ⟨#[]⟩,.slice none 0 0,.string ⟨#[]⟩,.slice none 0 0] 30)
 have hr0:=heap_alloc_new w (.cells #[.int .i64 0,.int .i64 0,.string ⟨#[]⟩,.slice none 0 0,.string ⟨#[]⟩,.slice none 0 0] 30)
 have HB0:=Lib.hid hb0
 have HR0:=Lib.hid hr0
 have HAT:=Lib.hid (at_non hat)
 have HM:=Lib.hid hm
 have HT:=Lib.hid ht
 clear hb0 hr0 hat hm ht
 go_enter Tryz.func6,Tryz.ntmps6
 go_wp2_with (go_at_call 12;go_must (refine(New_bi w _ HB0.out).mono ?_;rintro e w2 ⟨E,he0,rfl,hbi,hb2,hex,hbb,hbl⟩;have HI:=Lib.hid hbi;have HB2:=Lib.hid hb2;have HEx:=Lib.hid hex;have HE0:=Lib.hid he0;have HZ2:Hid (w.heap.size<E.bb):=Lib.hid (by have h2:=hbb;simp at h2;omega);clear hbi hb2 hex he0 hbb hbl))
 have HS:Hid (MR w l E.bb 0 E w2 newB w2):=Lib.hid
  ⟨HI.out,rfl,HE0.out,HEx.out _ (Nat.le_refl _) (by simp),(HB2.out.block _ (row_lt HR0.out)).trans HR0.out,rfl,rfl,fun x hx=>by simp at hx⟩
 obtain⟨bb0,hbb⟩: ∃bb0,bb0=E.bb:=⟨_,rfl⟩
 rw[←hbb]at HS HZ2 ⊢
 have hno:w.heap.size≠bb0:=by have:=HZ2.out;omega
 clear HI HB2 HEx HE0 HZ2 HB0 HR0 hbb
 go_wp2_with fail
 go_loopw [11] (fun i wr=> ∃k E ws b,k≤l.length∧i= .int .i64 (k:Nat)∧Hid (MR w l bb0 k E ws b wr)) (fun i _=>l.length-(intOf i).toNat)
 case atStart=>exact⟨0,_,_,_,Nat.zero_le _,rfl,HS⟩
 case round =>
  clear HS
  obtain⟨k,E,ws,b,hk,rfl,HR⟩:=hrel
  have hn0:txtN (l.take k)≤4611686018427387904:=by
   have h1:txtN (l.take k)≤txtN l:=by
    rcases Nat.lt_or_ge k l.length with h|h
    ·have:=txt_take l k h;omega
    ·rw[List.take_of_length_le h];exact Nat.le_refl _
   have:=HT.out
   omega
  by_cases hlt:k<l.length
  ·obtain⟨bk,o,rfl,e0,e1,e2,e3,e4⟩:=mks_cells (HAT.out.kept (Keeps.ofBelow (F:=Non) HR.out.below)) hlt
   have HR1:=Lib.hid (HR.out.world ((Below.refl wr.heap.size wr).alloc (Nat.le_refl _) (.cells #[.int .i64 (l[k]'hlt).m.kind,.string (l[k]'hlt).m.name,.slice (l[k]'hlt).a (l[k]'hlt).m.attrs.length (l[k]'hlt).c,.bool (l[k]'hlt).m.self,.string (l[k]'hlt).m.text] 27)))
   have HBR1:=Lib.hid HR1.out.below
   by_cases h6:(l[k]'hlt).m.kind=6
   ·have HQ:=Lib.hid (HR1.out.done hk fun _=>h6)
    have hk6:((l[k]'hlt).m.kind==6)=true:=beq_iff_eq.2 h6
    have HI:=Lib.hid HR1.out.bi
    have HEn:=Lib.hid (End_bi HI.out hn0)
    rw[HR1.out.bb,HR1.out.w0]at HEn
    have HX:=Lib.hid HR1.out.exo
    have HO:=Lib.hid HR1.out.out
    have HBB:=Lib.hid HR1.out.bb
    generalize l[k]=x at *
    clear HR hn0 HAT HM HT h6
    go_wp2_with fail
    go_wp2_with (go_at_call 14;go_must (refine HEn.out.mono ?_;rintro e w4 ⟨cs,rfl,hnc,hbw,hkb⟩;obtain⟨g0,g1,g2,g3,g4,g5,g6,g7,g8,g9,rfl⟩:=nodeC_form hnc;have hrw:=(HI.out.other hkb HX.out (by rw[HBB.out];exact hno)).trans HO.out;obtain⟨⟨z0,z1,z2,z3,z4,z5⟩,t0,t1,t2,t3,t4,t5⟩:=cells6 (zero_row hrw);have HNC:=Lib.hid hnc;have HBW:=Lib.hid hbw;have HRW:=Lib.hid (fun x0 x1 x2 x3 x4 x5=>put6_heap x0 x1 x2 x3 x4 x5 (zero_row hrw));have HZ3:=Lib.hid (row_lt HO.out);unfold nodeV;clear hnc hbw hkb hrw))
    refine bodyPost_ret (ret_node rfl _ _ w.heap.size _ _ _ _ (.int .i64 b.endE) (by rfl) (by rfl) (HRW.out _ _ _ _ _ _) Tryz.underlying30 rfl size_out) rfl ?_
    rw[HQ.out]
    refine⟨_,rfl,?_,build_done HBW.out _ _ _ _ _ _⟩
    exact(HNC.out.kept (put6_keeps (F:=fun j=>j<(wr.alloc (.cells #[.int .i64 x.m.kind,.string x.m.name,.slice x.a x.m.attrs.length x.c,.bool x.m.self,.string x.m.text] 27)).heap.size) (O:=w.heap.size) _ _ _ _ _ _ (Keeps.refl _ w4) (.inl HZ3.out))).other fun j _ hx=>by have h1:=HZ3.out;have h2:j<w.heap.size:=hx;show j<_;omega
   ·have hk6:((l[k]'hlt).m.kind==6)=false:=beq_eq_false_iff_ne.2 h6
    have HDo:=Lib.hid (HR1.out.do hlt h6 (by
     have h1:=HM.out _ (List.getElem_mem hlt)
     exact⟨h1.att,h1.nil,h1.alen,h1.ash,h1.tlen,h1.nlen⟩) HT.out hno)
    have HBad:=Lib.hid (HR1.out.bad hlt h6)
    have HW0:=Lib.hid HR1.out.w0
    generalize l[k]=x at *
    obtain⟨q,hq⟩: ∃q,q=b.DoF x.m:=⟨_,rfl⟩
    rw[←hq]at HDo HBad
    clear HR hn0 HAT h6 hq HR1
    by_cases he:q.err=0
    ·have heb:(q.err !=0)=false:=by rw[he];rfl
     rw[he]at HDo
     clear HBad
     go_wp2_with (go_at_call 13;go_must (refine HDo.out.mono ?_;rintro e w4 ⟨rfl,hbi4,ho4,hmr4⟩;have HMR:=Lib.hid (hmr4 rfl);clear hbi4 ho4 hmr4))
     go_roundw
     case rel=>exact⟨k+1,_,_,_,by omega,by go_num,HMR⟩
     case measure=>simp[intOf];omega
    ·have heb:(q.err !=0)=true:=bne_iff_ne.2 he
     obtain⟨hE1,hE2⟩:=HBad.out he
     have HE1:=Lib.hid hE1
     have HE2:=Lib.hid hE2
     clear HBad hE1 hE2 he
     go_wp2_with (go_at_call 13;go_must (refine HDo.out.mono ?_;rintro e w4 ⟨rfl,hbi4,ho4,hmr4⟩;have HRW:=Lib.hid (fun x0 x1 x2 x3 x4 x5=>put6_heap x0 x1 x2 x3 x4 x5 (zero_row ho4));obtain⟨⟨z0,z1,z2,z3,z4,z5⟩,t0,t1,t2,t3,t4,t5⟩:=cells6 (zero_row ho4);have hb4:=hbi4.below;rw[HW0.out]at hb4;have HB4:=Lib.hid hb4;clear hbi4 ho4 hmr4 hb4))
     refine bodyPost_ret (ret_node rfl _ _ w.heap.size _ _ _ _ (.int .i64 q.err) (by rfl) (by rfl) (HRW.out _ _ _ _ _ _) Tryz.underlying30 rfl size_out) rfl ?_
     rw[HE1.out,HE2.out]
     exact⟨nodeV 0 0 ⟨#[]⟩ none 0 0 ⟨#[]⟩ none 0 0,rfl,zero_node,build_done HB4.out _ _ _ _ _ _⟩
  ·obtain rfl:k=l.length:=by omega
   have HQ:=Lib.hid (HR.out.done (Nat.le_refl _) fun h=>absurd h (by omega))
   have HI:=Lib.hid HR.out.bi
   have HEn:=Lib.hid (End_bi HI.out hn0)
   rw[HR.out.bb,HR.out.w0]at HEn
   have HX:=Lib.hid HR.out.exo
   have HO:=Lib.hid HR.out.out
   have HBB:=Lib.hid HR.out.bb
   clear hn0 HAT HM HT HR
   go_wp2_with fail
   go_wp2_with (go_at_call 14;go_must (refine HEn.out.mono ?_;rintro e w4 ⟨cs,rfl,hnc,hbw,hkb⟩;obtain⟨g0,g1,g2,g3,g4,g5,g6,g7,g8,g9,rfl⟩:=nodeC_form hnc;have hrw:=(HI.out.other hkb HX.out (by rw[HBB.out];exact hno)).trans HO.out;obtain⟨⟨z0,z1,z2,z3,z4,z5⟩,t0,t1,t2,t3,t4,t5⟩:=cells6 (zero_row hrw);have HNC:=Lib.hid hnc;have HBW:=Lib.hid hbw;have HRW:=Lib.hid (fun x0 x1 x2 x3 x4 x5=>put6_heap x0 x1 x2 x3 x4 x5 (zero_row hrw));have HZ3:=Lib.hid (row_lt HO.out);unfold nodeV;clear hnc hbw hkb hrw))
   refine bodyPost_ret (ret_node rfl _ _ w.heap.size _ _ _ _ (.int .i64 b.endE) (by rfl) (by rfl) (HRW.out _ _ _ _ _ _) Tryz.underlying30 rfl size_out) rfl ?_
   rw[HQ.out]
   refine⟨_,rfl,?_,build_done HBW.out _ _ _ _ _ _⟩
   exact(HNC.out.kept (put6_keeps (F:=fun j=>j<wr.heap.size) (O:=w.heap.size) _ _ _ _ _ _ (Keeps.refl _ w4) (.inl HZ3.out))).other fun j _ hx=>by have h1:=HZ3.out;have h2:j<w.heap.size:=hx;show j<_;omega
end Go.Proofs.YteckmpcgdgknoaaGreatDoor
