/- Texts joined for a claim: CuX: plain laws and contracts. No conditions beyond those that each lemma types. -/
import Derived.Test.YtgepobccoffnaaaGreatDoorT26
import Derived.Test.YtgepobccoffnaaaGreatDoorT27
set_option linter.unusedVariables false
set_option linter.unusedSimpArgs false
set_option maxRecDepth 100000
set_option maxHeartbeats 8000000
namespace Go.Proofs.YtgepobccoffnaaaGreatDoor
open Go.RowKit Mem
section
def OB (E:BE):Nat→Prop:=fun k=>Own E.w0 E.ex k∨k=E.bb
structure Bld (E:BE) (ws:World) (c:Nat) (s:Int) (b:BuD) (w:World):Prop where
 bm:BM E b w
 keep:Keeps (OB E) ws w
 ok:Ok c s b
def BE.markAt (E:BE) (g:Nat) (a:Option Addr) (ac:Nat):BE:= {E with mb:=g,ex:=fun k=>E.ex k∨k=g,a:=a,ac:=ac}
structure MA (F:Nat→Prop) (w:World) (m:BMark) (a:Option Addr) (ac:Nat):Prop where
 att:AtF F w a (pairsV m.attrs)
 nil:a=none→ac=0
 alen:m.attrs.length≤1048576
 ash: ∀p∈m.attrs,Shorts p
 tlen:m.text.size≤4611686018427387904
 nlen:m.name.size≤maxLen
section
variable {E:BE} {ws w w':World} {c c':Nat} {s s':Int} {b b':BuD} {m m':BMark} {a:Option Addr} {ac:Nat}
theorem BM.lt (h:BM E b w):E.bb<w.heap.size:=h.row.lt
theorem Bld.world (h:Bld E ws c s b w) (hb:Below w.heap.size w w'):Bld E ws c s b w' :=
 ⟨⟨h.bm.li.world hb,h.bm.row.kept (hb.block _ h.bm.lt),h.bm.exb,h.bm.b0⟩,h.keep.trans (Keeps.ofBelow hb),h.ok⟩
theorem Bld.more (h:Bld E ws c s b w) (hc:c≤c') (hs:s≤s'):Bld E ws c' s' b w:=⟨h.bm,h.keep,h.ok.more hc hs⟩
theorem Bld.enter (h:Bld E ws c s b w) (hm:MA (OB E) w m a ac) (t:TypeId):SM (E.markAt w.heap.size a ac) (w.alloc (.cells #[.int .i64 m.kind,.string m.name,.slice a m.attrs.length ac,.bool m.self,.string m.text] t)) c s b m (w.alloc (.cells #[.int .i64 m.kind,.string m.name,.slice a m.attrs.length ac,.bool m.self,.string m.text] t)):=by
 obtain⟨⟨h1,h2,h3,h4⟩,h5,h6⟩:=h
 have hlt:E.bb<w.heap.size:=h2.lt
 have hw0:E.w0.heap.size≤w.heap.size:=Nat.le_of_lt (Nat.lt_of_le_of_lt h4 hlt)
 refine⟨⟨⟨h1.lay _,h2.kept (Below.heap_alloc w _ _ hlt),.inl h3,h4⟩,⟨?_,.inr rfl,hw0,Nat.ne_of_lt hlt,?_,hm.nil,hm.alen,hm.ash,hm.tlen,hm.nlen⟩,Keeps.refl _ _⟩,h6⟩
 ·exact Row.alloc _ _ _
 ·refine AtF.other (F:=OB E) (hm.att.kept ((Keeps.refl _ _).alloc _)) fun k hk hx=> ?_
  rcases hx with hx|hx|hx
  ·exact .inl ⟨hx.1,fun he=>hx.2 (.inl he)⟩
  ·exact .inr hx
  ·exact .inl ⟨by have:k=w.heap.size:=hx;show E.w0.heap.size≤k;omega,fun he=>by
    have h7:=h1.exlt k he
    have:k=w.heap.size:=hx
    omega⟩
theorem Bld.leave (h0:Bld E ws c s b w) {o:Obj} (h:SM (E.markAt w.heap.size a ac) (w.alloc o) c' s' b' m w'):Bld E ws c' s' b' w':=by
 obtain⟨⟨⟨h1,h2,h3,h4⟩, -,h5⟩,h6⟩:=h
 have hs:=World.size_alloc w o
 have hk:=h5.size
 refine⟨⟨?_,h2,h0.bm.exb,h4⟩,?_,h6⟩
 ·exact h1.foreign (ex':=E.ex) (F:=fun _=>False) (Keeps.refl _ w') (fun _ hx=>hx.elim) fun k hx=>⟨.inl (.inl hx),Nat.lt_of_lt_of_le (h0.bm.li.exlt k hx) (by omega)⟩
 ·have k1:Keeps (OB E) w (w.alloc o):=(Keeps.refl _ _).alloc o
  have k2:Keeps (fun k=>OB E k∨w.heap.size≤k) (w.alloc o) w':=h5.mono fun k hk hx=>by
   rcases hx with hx|hx|hx
   ·exact .inl (.inl ⟨hx.1,fun he=>hx.2 (.inl he)⟩)
   ·exact .inl (.inr hx)
   ·exact .inr (Nat.le_of_eq (Eq.symm hx))
  have k3:Keeps (fun k=>OB E k∨w.heap.size≤k) w w':=(k1.mono fun k _ hx=> .inl hx).trans k2
  exact h0.keep.trans ⟨k3.os,k3.tape,k3.output,k3.size,fun k hk hx=>k3.block k hk fun hy=>hy.elim hx fun hz=>by omega⟩
theorem Bld.in (h:Bld E ws c s b w) (hm:MA (OB E) w m a ac) (t:TypeId): ∃E1 w1,E1.bb=E.bb∧E1.mb=w.heap.size∧SM E1 w1 c s b m (w.alloc (.cells #[.int .i64 m.kind,.string m.name,.slice a m.attrs.length ac,.bool m.self,.string m.text] t)) ∧
 ∀c' s' b' m' u,SM E1 w1 c' s' b' m' u→Bld E ws c' s' b' u :=
 ⟨E.markAt w.heap.size a ac,_,rfl,rfl,h.enter hm t,fun _ _ _ _ _ hu=>h.leave hu⟩
def DoRel (E:BE) (ws:World) (C LIM:Nat) (Q:BuD) (k:Nat) (ag:Bool) (b:BuD) (m:BMark) (w:World):Prop :=
 ∃c,SM E ws c 0 b m w∧c+k≤C∧MD b∧(ag=true→rank b m<k∧uw b+m.text.size≤LIM)∧Q=(if ag then BuD.again k b m else b)
theorem DoRel.off {C LIM k:Nat} {Q:BuD} (h:DoRel E ws C LIM Q k false b m w):b=Q∧SM E ws C 0 b m w:=by
 obtain⟨c,h1,h2, -, -,h3⟩:=h
 exact⟨h3.symm,h1.more (by omega) (by omega)⟩
theorem DoRel.err {C LIM k:Nat} {Q:BuD} {ag:Bool} (h:DoRel E ws C LIM Q k ag b m w) (he:b.err≠0):b=Q∧SM E ws C 0 b m w:=by
 obtain⟨c,h1,h2, -, -,h3⟩:=h
 refine⟨?_,h1.more (by omega) (by omega)⟩
 rw[h3]
 cases ag with
 |false=>rfl
 |true =>
  cases k with
  |zero=>rfl
  |succ k=>rw[if_pos rfl,BuD.again,if_neg he]
theorem DoRel.next {C LIM k:Nat} {Q:BuD} (h:DoRel E ws C LIM Q k true b m w) (he:b.err=0) (hC:C≤100000) (hL:LIM≤4611686018427387904) :
 (∃c,c≤100000∧SM E ws c 0 b m w∧b.used+m.text.size≤9223372036854775807∧b.wait.size+m.text.size≤9223372036854775807 ∧
   ∀w',SM E ws (c+1) 0 (b.once m).1 (b.once m).2.1 w'→DoRel E ws C LIM Q (k-1) (b.once m).2.2 (b.once m).1 (b.once m).2.1 w')∧0<k:=by
 obtain⟨c,h1,h2,h4,h5,h6⟩:=h
 obtain⟨hr,h3⟩:=h5 rfl
 obtain⟨k,rfl⟩: ∃j,k=j+1:=⟨k-1,by omega⟩
 have h3':=h3
 unfold uw at h3'
 refine⟨⟨c,by omega,h1,by omega,by omega,fun w' hs=>⟨c+1,hs,by omega,md_once h4 m,fun ha=>⟨?_,?_⟩,?_⟩⟩,by omega⟩
 ·have:=rk_once h4 (by have:=hs.ok.len.1;omega) ha
  unfold rank at this hr ⊢
  omega
 ·have:=(ul_once b m).2 ha
  omega
 ·rw[h6,if_pos rfl,BuD.again,if_pos he]
  rfl
theorem uw_again: ∀(k:Nat) (b:BuD) (m:BMark),uw (BuD.again k b m)≤uw b+m.text.size
 |0,b,m=>Nat.le_add_right _ _
 |k+1,b,m=>by
  rw[BuD.again]
  have h:=ul_once b m
  unfold UL at h
  split
  ·split
   ·rename_i ha
    have h1:=uw_again k (b.once m).1 (b.once m).2.1
    have h2:=h.2 ha
    omega
   ·exact h.1
  ·exact Nat.le_add_right _ _
theorem trimNL_le (s:ByteArray):(trimNL s).size≤s.size:=by
 unfold trimNL Lib.trimPrefix
 rw[Lib.size_mk]
 have h:s.data.toList.length=s.size:=by rw[Array.length_toList];rfl
 split
 ·rw[List.length_drop];omega
 ·omega
theorem headM_le (b:BuD) (m:BMark):(b.headM m).text.size≤m.text.size:=by
 unfold BuD.headM
 split
 ·exact trimNL_le _
 ·exact Nat.le_refl _
theorem uw_doF (b:BuD) (m:BMark):uw (b.doF m)≤uw b+m.text.size:=by
 have h0:uw b.ready=uw b:=rfl
 have h1:=headM_le b m
 have h2:=uw_flush b.ready
 unfold BuD.doF
 split
 ·omega
 ·split
  ·split
   ·omega
   ·have:=uw_again 9000 b.ready (b.headM m)
    omega
  ·split
   ·omega
   ·have:=uw_again 9000 b.ready.flush m
    omega
theorem round_facts (h:SM E ws c s b m w):w.cell? ⟨E.bb,10,none⟩=some (.int .i64 b.err):=h.sx.bc.2.2.2.2.2.2.2.2.2.2
theorem doF_text {b:BuD} {m:BMark} (hk:m.kind=1) (he:(b.headM m).text.toList.isEmpty=false):b.doF m=BuD.again 9000 b.ready (b.headM m):=by
 unfold BuD.doF
 rw[if_neg (by omega),if_pos hk,he]
 rfl
theorem doF_none {b:BuD} {m:BMark} (hk:m.kind=1) (he:(b.headM m).text.toList.isEmpty=true):b.doF m=b.ready:=by
 unfold BuD.doF
 rw[if_neg (by omega),if_pos hk,he]
 rfl
theorem doF_tag {b:BuD} {m:BMark} (hk:m.kind=2∨m.kind=3∨m.kind=6):b.doF m=BuD.again 9000 b.ready.flush m:=by
 unfold BuD.doF
 rw[if_neg (by omega),if_neg (by omega),if_neg (by omega)]
theorem doF_aside {b:BuD} {m:BMark} (hk:m.kind=4∨m.kind=5):b.doF m=b.ready.flush:=by
 unfold BuD.doF
 rw[if_neg (by omega),if_neg (by omega),if_pos (by omega)]
theorem doF_out {b:BuD} {m:BMark} (hk:m.kind<1∨6<m.kind):b.doF m=b:=by
 unfold BuD.doF
 rw[if_pos hk]
theorem ready_sm (h:SM E ws c s b m w):SM E ws c s b.ready m (((w.setCell ⟨E.bb,8,none⟩ (.int .i64 0)).setCell ⟨E.bb,9,none⟩ (.string ⟨#[]⟩)).setCell ⟨E.bb,7,none⟩ (.bool false)):=((h.raw 0).name ⟨#[]⟩).skip false
theorem do_rel (h:SM E ws c 0 b m w) (hc:c≤1100) (hl:uw b+m.text.size≤4611686018427387904) (hm:MD b):DoRel E ws 10100 4611686018427387904 (BuD.again 9000 b m) 9000 true b m w :=
 ⟨c,h,by omega,hm,fun _=>⟨by have:=rank_le b m (by have:=h.ok.len.1;omega);omega,hl⟩,rfl⟩
theorem do_facts (h:SM E ws c s b m w):w.cell? ⟨E.bb,7,none⟩=some (.bool b.skip)∧w.cell? ⟨E.bb,8,none⟩=some (.int .i64 b.raw)∧w.cell? ⟨E.bb,9,none⟩=some (.string b.name)∧w.frozen? ⟨E.bb,7,none⟩=false∧w.frozen? ⟨E.bb,8,none⟩=false∧w.frozen? ⟨E.bb,9,none⟩=false∧w.cell? ⟨E.mb,0,none⟩=some (.int .i64 m.kind)∧w.cell? ⟨E.mb,4,none⟩=some (.string m.text)∧w.frozen? ⟨E.mb,4,none⟩=false :=
 ⟨h.sx.bc.2.2.2.2.2.2.2.1,h.sx.bc.2.2.2.2.2.2.2.2.1,h.sx.bc.2.2.2.2.2.2.2.2.2.1,h.sx.bf 7 (by omega),h.sx.bf 8 (by omega),h.sx.bf 9 (by omega),h.sx.mc.1,h.sx.mc.2.2.2.2,h.sx.mf.2⟩
theorem do_tag (h:Bld E ws c 0 b w) (hm:MA (OB E) w m a ac) (hc:c≤1001) (hl:uw b+m.text.size≤4611686018427387904) (hmd:MD b) (hk:m.kind=2∨m.kind=3∨m.kind=6) :
 Calls Tryz.prog 31 #[.pointer (some ⟨E.bb,0,none⟩),markA m.kind m.name a m.attrs.length ac m.self m.text] w fun r w'=>r= .returned (.tuple #[])∧Bld E ws 10100 0 (b.doF m) w':=by
 obtain⟨E1,w1,hbb,hmb,h1,hlv⟩:=h.in hm 38
 have HLv:=Lib.hid (fun m' Q u (hu:SM E1 w1 10100 0 Q m' u)=>hlv _ _ _ _ _ hu)
 have HV:=Lib.hid (doF_tag (b:=b) hk)
 have hf1:uw b.ready.flush+m.text.size≤4611686018427387904:=by have h0:uw b.ready=uw b:=rfl;have:=uw_flush b.ready;omega
 have hfm:MD b.ready.flush:=MD.same (b:=b) hmd (mo_flush b.ready).1 (mo_flush b.ready).2
 obtain⟨hsk,d8,d9,q7,q8,q9,hk0, -, -⟩:=do_facts h1
 have HR1:=Lib.hid (ready_sm h1)
 rw[hbb]at hsk d8 d9 q7 q8 q9 HR1
 rw[hmb]at hk0
 have HFl:Hid (∀u,SM E1 w1 c 0 b.ready m u→Calls Tryz.prog 44 #[.pointer (some ⟨E.bb,0,none⟩)] u fun r w'=>r= .returned (.tuple #[])∧SM E1 w1 (c+1) 0 b.ready.flush m w'∧w'.cell? ⟨w.heap.size,0,none⟩=some (.int .i64 m.kind)):=Lib.hid fun u hu=>by
  rw[←hbb,←hmb]
  exact(flush_sm hu (by omega) (by unfold uw at hl;show b.used+b.wait.size≤_;omega)).mono fun _ _ ⟨hr,hs⟩=>⟨hr,hs,hs.sx.mc.1⟩
 have HRel:=Lib.hid (fun u (hu:SM E1 w1 (c+1) 0 b.ready.flush m u)=>do_rel hu (by omega) hf1 hfm)
 generalize BuD.again 9000 b.ready.flush m=Q at HRel HV
 generalize b.ready.flush=bf at *
 generalize b.ready=br at *
 obtain⟨k,hkk⟩: ∃k,k=m.kind:=⟨_,rfl⟩
 have k1:1≤k:=by omega
 have k2:k≤6:=by omega
 have e1:(k==1)=false:=beq_eq_false_iff_ne.2 (by omega)
 have e4:(k==4)=false:=beq_eq_false_iff_ne.2 (by omega)
 have e5:(k==5)=false:=beq_eq_false_iff_ne.2 (by omega)
 rw[←hkk]at hk0 hsk d8 d9 q7 q8 q9 HFl HR1 ⊢
 clear hkk hk h1 hlv hm hl hc hmd hf1 hfm
 have HH:=Lib.hid h
 clear h
 go_enter Tryz.func31,Tryz.ntmps31
 go_wp2_with (go_at_call 44;go_must (refine(HFl.out _ HR1.out).mono ?_;rintro e wf ⟨rfl,hf,hk1⟩;have HL0:=Lib.hid (HRel.out _ hf);clear hf))
 go_loopg [5] 9000 (fun g v wr=> ∃k ag b1 m1,k≤g∧v= .bool ag∧Hid (DoRel E1 w1 10100 4611686018427387904 Q k ag b1 m1 wr))
 case atStart=>exact⟨9000,true,_,_,Nat.le_refl _,rfl,HL0⟩
 case round =>
  obtain⟨k,ag,b1,m1,hkg,rfl,HR⟩:=hrel
  cases ag with
  |false =>
   obtain⟨hb1,hs1⟩:=HR.out.off
   have HS1:=Lib.hid hs1
   have HB1:=Lib.hid hb1
   clear hs1 hb1 HR
   go_wp2_with fail
   first|go_end0|refine bodyPost_ret (results_none rfl _ _ _) rfl ?_
   exact⟨rfl,by rw[HV.out,←HB1.out];exact HLv.out _ _ _ HS1.out⟩
  |true =>
   by_cases he:b1.err=0
   ·obtain⟨⟨c1,hc1,h1,hu1,hw1,hnext⟩,hg⟩:=HR.out.next he (by decide) (by decide)
    have HS1:=Lib.hid h1
    have HN:=Lib.hid hnext
    have d10:=round_facts h1
    rw[he,hbb]at d10
    have hT:=top_sx h1.sx
    rw[hbb]at hT
    have HT:=Lib.hid hT
    have HFit:=Lib.hid (attrsQ_at h1.ok.at' b1.top).2
    have HFo:Hid (∀u sp,SM E1 w1 c1 0 b1 m1 u→Calls Tryz.prog 46 #[.pointer (some ⟨E.bb,0,none⟩),.pointer (some ⟨w.heap.size,0,none⟩),.int .i64 sp] u fun r w'=>r= .returned (.bool (b1.foreign m1 sp).2.2)∧SM E1 w1 (c1+1) 0 (b1.foreign m1 sp).1 (b1.foreign m1 sp).2.1 w'):=Lib.hid fun u sp hu=>by rw[←hbb,←hmb];exact foreign_sm hu hc1 hu1 hw1 sp
    have HRu:Hid (∀u,SM E1 w1 c1 0 b1 m1 u→Calls Tryz.prog 47 #[.pointer (some ⟨E.bb,0,none⟩),.pointer (some ⟨w.heap.size,0,none⟩)] u fun r w'=>r= .returned (.bool (b1.rules m1).2.2)∧SM E1 w1 (c1+1) 0 (b1.rules m1).1 (b1.rules m1).2.1 w'):=Lib.hid fun u hu=>by rw[←hbb,←hmb];exact rules_sm hu hc1 hu1 hw1
    have HON:=Lib.hid (BuD.once.eq_1 b1 m1)
    have HG:=Lib.hid hg
    have HMl:=Lib.hid (fun u (hu:SM E1 w1 c1 0 b1 m1 u)=>hmb▸hu.sx.mc)
    have HW:=Lib.hid (fun u u' (hu:SM E1 w1 c1 0 b1 m1 u) (hb:Below u.heap.size u u')=>hu.world hb)
    have HTS:Hid (∀u,SX E1 w1 b1 m1 u→SM E1 w1 c1 0 b1 m1 u):=Lib.hid fun u hu=>⟨hu,h1.ok⟩
    clear h1 hnext he hg hu1 hw1 hc1 HR hT
    generalize attrsQ b1.S.T b1.top=ta at *
    generalize b1.tops=sp at *
    generalize b1.topn=nm at *
    have HFr:=Lib.hid (fun(a2:Option Addr) (ca2:Nat) (u:World) (hl:ta.length≤maxLen) (ha:At u a2 (pairsV ta))=>foreign_any sp nm ta a2 ca2 m1.kind m1.name E1.a m1.attrs.length E1.ac m1.self m1.text u hl HFit.out ha)
    generalize foreignF (pointF sp nm ta) sp nm m1.kind m1.name=tf at *
    cases tf with
    |true =>
     have HOn:Hid (b1.once m1=b1.foreign m1 sp):=Lib.hid (by rw[HON.out,if_pos rfl])
     rw[HOn.out]at HN
     clear HON HRu HOn
     go_wp2_with (first
      |(go_at_call 36;go_must (refine HT.out.mono ?_;rintro e w2 ⟨v,rfl,ho,hb,hx⟩;obtain⟨a2,ca2,rfl,hn2,hm2, -,hat2⟩:=own_at ho;have HX2:=Lib.hid (HTS.out _ hx);have HAt:=Lib.hid hat2;obtain⟨g0,g1,g2,g3,g4⟩:=HMl.out _ HX2.out;clear ho hb hat2 hx))
      |(go_at_call 45;go_must (refine(HFr.out _ _ _ (by omega) HAt.out).mono ?_;rintro e w3 ⟨rfl,hb3⟩;have HX3:=Lib.hid (HW.out _ _ HX2.out hb3);clear hb3))
      |(go_at_call 46;go_must (refine(HFo.out _ _ HX3.out).mono ?_;rintro e w4 ⟨rfl,h4⟩;have HX5:=Lib.hid (HN.out w4 h4);clear h4)))
     go_roundg (k-1)
     case measure=>have:=HG.out;omega
     case rel=>exact⟨k-1,_,_,_,Nat.le_refl _,rfl,HX5⟩
    |false =>
     have HOn:Hid (b1.once m1=b1.rules m1):=Lib.hid (by rw[HON.out,if_neg (by decide)])
     rw[HOn.out]at HN
     clear HON HFo HOn
     go_wp2_with (first
      |(go_at_call 36;go_must (refine HT.out.mono ?_;rintro e w2 ⟨v,rfl,ho,hb,hx⟩;obtain⟨a2,ca2,rfl,hn2,hm2, -,hat2⟩:=own_at ho;have HX2:=Lib.hid (HTS.out _ hx);have HAt:=Lib.hid hat2;obtain⟨g0,g1,g2,g3,g4⟩:=HMl.out _ HX2.out;clear ho hb hat2 hx))
      |(go_at_call 45;go_must (refine(HFr.out _ _ _ (by omega) HAt.out).mono ?_;rintro e w3 ⟨rfl,hb3⟩;have HX3:=Lib.hid (HW.out _ _ HX2.out hb3);clear hb3))
      |(go_at_call 47;go_must (refine(HRu.out _ HX3.out).mono ?_;rintro e w4 ⟨rfl,h4⟩;have HX5:=Lib.hid (HN.out w4 h4);clear h4)))
     go_roundg (k-1)
     case measure=>have:=HG.out;omega
     case rel=>exact⟨k-1,_,_,_,Nat.le_refl _,rfl,HX5⟩
   ·obtain⟨hb1,hs1⟩:=HR.out.err he
    have d10:=round_facts hs1
    rw[hbb]at d10
    have hef:(b1.err==0)=false:=beq_eq_false_iff_ne.2 he
    have HS1:=Lib.hid hs1
    have HB1:=Lib.hid hb1
    clear hs1 hb1 HR he
    go_wp2_with fail
    first|go_end0|refine bodyPost_ret (results_none rfl _ _ _) rfl ?_
    exact⟨rfl,by rw[HV.out,←HB1.out];exact HLv.out _ _ _ HS1.out⟩
theorem do_text (h:Bld E ws c 0 b w) (hm:MA (OB E) w m a ac) (hc:c≤1001) (hl:uw b+m.text.size≤4611686018427387904) (hmd:MD b) (hk:m.kind=1) (he:(b.headM m).text.toList.isEmpty=false) :
 Calls Tryz.prog 31 #[.pointer (some ⟨E.bb,0,none⟩),markA m.kind m.name a m.attrs.length ac m.self m.text] w fun r w'=>r= .returned (.tuple #[])∧Bld E ws 10100 0 (b.doF m) w':=by
 obtain⟨E1,w1,hbb,hmb,h1,hlv⟩:=h.in hm 38
 have HLv:=Lib.hid (fun m' Q u (hu:SM E1 w1 10100 0 Q m' u)=>hlv _ _ _ _ _ hu)
 obtain⟨hsk,d8,d9,q7,q8,q9,hk0,ht0,qt⟩:=do_facts h1
 have HV:=Lib.hid (doF_text hk he)
 have HR1:=Lib.hid (ready_sm h1)
 have hhm:=headM_le b m
 cases hs:b.skip with
 |false =>
  have hh:b.headM m=m:=by unfold BuD.headM;rw[hs];rfl
  rw[hh]at he HV
  have HL0:=Lib.hid (do_rel HR1.out (by omega) hl (hmd.same rfl rfl))
  rw[hbb]at hsk d8 d9 q7 q8 q9 HL0
  rw[hmb]at hk0 ht0
  rw[hk]at hk0 ht0 hsk d8 d9 q7 q8 q9 HL0 ⊢
  rw[hs]at hsk
  generalize BuD.again 9000 b.ready m=Q at HL0 HV
  generalize b.ready=br at *
  clear HR1 hk h1 hlv hm hl hc hmd hhm hh hs h
  go_enter Tryz.func31,Tryz.ntmps31
  go_wp2_with fail
  go_loopg [5] 9000 (fun g v wr=> ∃k ag b1 m1,k≤g∧v= .bool ag∧Hid (DoRel E1 w1 10100 4611686018427387904 Q k ag b1 m1 wr))
  case atStart=>exact⟨9000,true,_,_,Nat.le_refl _,rfl,HL0⟩
  case round =>
   obtain⟨k,ag,b1,m1,hkg,rfl,HR⟩:=hrel
   cases ag with
   |false =>
    obtain⟨hb1,hs1⟩:=HR.out.off
    have HS1:=Lib.hid hs1
    have HB1:=Lib.hid hb1
    clear hs1 hb1 HR
    go_wp2_with fail
    first|go_end0|refine bodyPost_ret (results_none rfl _ _ _) rfl ?_
    exact⟨rfl,by rw[HV.out,←HB1.out];exact HLv.out _ _ _ HS1.out⟩
   |true =>
    by_cases he:b1.err=0
    ·obtain⟨⟨c1,hc1,h1,hu1,hw1,hnext⟩,hg⟩:=HR.out.next he (by decide) (by decide)
     have HS1:=Lib.hid h1
     have HN:=Lib.hid hnext
     have d10:=round_facts h1
     rw[he,hbb]at d10
     have hT:=top_sx h1.sx
     rw[hbb]at hT
     have HT:=Lib.hid hT
     have HFit:=Lib.hid (attrsQ_at h1.ok.at' b1.top).2
     have HFo:Hid (∀u sp,SM E1 w1 c1 0 b1 m1 u→Calls Tryz.prog 46 #[.pointer (some ⟨E.bb,0,none⟩),.pointer (some ⟨w.heap.size,0,none⟩),.int .i64 sp] u fun r w'=>r= .returned (.bool (b1.foreign m1 sp).2.2)∧SM E1 w1 (c1+1) 0 (b1.foreign m1 sp).1 (b1.foreign m1 sp).2.1 w'):=Lib.hid fun u sp hu=>by rw[←hbb,←hmb];exact foreign_sm hu hc1 hu1 hw1 sp
     have HRu:Hid (∀u,SM E1 w1 c1 0 b1 m1 u→Calls Tryz.prog 47 #[.pointer (some ⟨E.bb,0,none⟩),.pointer (some ⟨w.heap.size,0,none⟩)] u fun r w'=>r= .returned (.bool (b1.rules m1).2.2)∧SM E1 w1 (c1+1) 0 (b1.rules m1).1 (b1.rules m1).2.1 w'):=Lib.hid fun u hu=>by rw[←hbb,←hmb];exact rules_sm hu hc1 hu1 hw1
     have HON:=Lib.hid (BuD.once.eq_1 b1 m1)
     have HG:=Lib.hid hg
     have HMl:=Lib.hid (fun u (hu:SM E1 w1 c1 0 b1 m1 u)=>hmb▸hu.sx.mc)
     have HW:=Lib.hid (fun u u' (hu:SM E1 w1 c1 0 b1 m1 u) (hb:Below u.heap.size u u')=>hu.world hb)
     have HTS:Hid (∀u,SX E1 w1 b1 m1 u→SM E1 w1 c1 0 b1 m1 u):=Lib.hid fun u hu=>⟨hu,h1.ok⟩
     clear h1 hnext he hg hu1 hw1 hc1 HR hT
     generalize attrsQ b1.S.T b1.top=ta at *
     generalize b1.tops=sp at *
     generalize b1.topn=nm at *
     have HFr:=Lib.hid (fun(a2:Option Addr) (ca2:Nat) (u:World) (hl:ta.length≤maxLen) (ha:At u a2 (pairsV ta))=>foreign_any sp nm ta a2 ca2 m1.kind m1.name E1.a m1.attrs.length E1.ac m1.self m1.text u hl HFit.out ha)
     generalize foreignF (pointF sp nm ta) sp nm m1.kind m1.name=tf at *
     cases tf with
     |true =>
      have HOn:Hid (b1.once m1=b1.foreign m1 sp):=Lib.hid (by rw[HON.out,if_pos rfl])
      rw[HOn.out]at HN
      clear HON HRu HOn
      go_wp2_with (first
       |(go_at_call 36;go_must (refine HT.out.mono ?_;rintro e w2 ⟨v,rfl,ho,hb,hx⟩;obtain⟨a2,ca2,rfl,hn2,hm2, -,hat2⟩:=own_at ho;have HX2:=Lib.hid (HTS.out _ hx);have HAt:=Lib.hid hat2;obtain⟨g0,g1,g2,g3,g4⟩:=HMl.out _ HX2.out;clear ho hb hat2 hx))
       |(go_at_call 45;go_must (refine(HFr.out _ _ _ (by omega) HAt.out).mono ?_;rintro e w3 ⟨rfl,hb3⟩;have HX3:=Lib.hid (HW.out _ _ HX2.out hb3);clear hb3))
       |(go_at_call 46;go_must (refine(HFo.out _ _ HX3.out).mono ?_;rintro e w4 ⟨rfl,h4⟩;have HX5:=Lib.hid (HN.out w4 h4);clear h4)))
      go_roundg (k-1)
      case measure=>have:=HG.out;omega
      case rel=>exact⟨k-1,_,_,_,Nat.le_refl _,rfl,HX5⟩
     |false =>
      have HOn:Hid (b1.once m1=b1.rules m1):=Lib.hid (by rw[HON.out,if_neg (by decide)])
      rw[HOn.out]at HN
      clear HON HFo HOn
      go_wp2_with (first
       |(go_at_call 36;go_must (refine HT.out.mono ?_;rintro e w2 ⟨v,rfl,ho,hb,hx⟩;obtain⟨a2,ca2,rfl,hn2,hm2, -,hat2⟩:=own_at ho;have HX2:=Lib.hid (HTS.out _ hx);have HAt:=Lib.hid hat2;obtain⟨g0,g1,g2,g3,g4⟩:=HMl.out _ HX2.out;clear ho hb hat2 hx))
       |(go_at_call 45;go_must (refine(HFr.out _ _ _ (by omega) HAt.out).mono ?_;rintro e w3 ⟨rfl,hb3⟩;have HX3:=Lib.hid (HW.out _ _ HX2.out hb3);clear hb3))
       |(go_at_call 47;go_must (refine(HRu.out _ HX3.out).mono ?_;rintro e w4 ⟨rfl,h4⟩;have HX5:=Lib.hid (HN.out w4 h4);clear h4)))
      go_roundg (k-1)
      case measure=>have:=HG.out;omega
      case rel=>exact⟨k-1,_,_,_,Nat.le_refl _,rfl,HX5⟩
    ·obtain⟨hb1,hs1⟩:=HR.out.err he
     have d10:=round_facts hs1
     rw[hbb]at d10
     have hef:(b1.err==0)=false:=beq_eq_false_iff_ne.2 he
     have HS1:=Lib.hid hs1
     have HB1:=Lib.hid hb1
     clear hs1 hb1 HR he
     go_wp2_with fail
     first|go_end0|refine bodyPost_ret (results_none rfl _ _ _) rfl ?_
     exact⟨rfl,by rw[HV.out,←HB1.out];exact HLv.out _ _ _ HS1.out⟩
 |true =>
  have hh:b.headM m= {m with text:=trimNL m.text}:=by unfold BuD.headM;rw[hs];rfl
  rw[hh]at he HV
  obtain⟨m2,hm2⟩: ∃m2:BMark,m2= {m with text:=trimNL m.text}:=⟨_,rfl⟩
  have hR2:=HR1.out.text (trimNL m.text) (trimNL_le _)
  have hm2t:m2.text.size≤m.text.size:=by rw[hm2];exact trimNL_le _
  rw[←hm2]at hR2 HV
  have HL0:=Lib.hid (do_rel hR2 (by omega) (by show uw b+m2.text.size≤_;omega) (hmd.same rfl rfl))
  have HTr2:Hid (∀u,Calls Tryz.prog 43 #[.string m.text,.string ⟨#[10]⟩] u fun r w'=>r= .returned (.string (trimNL m.text))∧w'=u):=Lib.hid (fun u=>trimPrefix_any m.text ⟨#[10]⟩ u)
  have he':(trimNL m.text).toList.isEmpty=false:=he
  rw[hbb,hmb]at HL0
  rw[hbb]at hsk d8 d9 q7 q8 q9
  rw[hmb]at hk0 ht0 qt
  rw[hk]at hk0 ht0 qt hsk d8 d9 q7 q8 q9 HL0 ⊢
  rw[hs]at hsk
  generalize BuD.again 9000 b.ready m2=Q at HL0 HV
  generalize b.ready=br at *
  generalize trimNL m.text=tx at *
  clear HR1 hR2 hk h1 hlv hm hl hc hmd hhm hh hs h he hm2 hm2t
  go_enter Tryz.func31,Tryz.ntmps31
  go_wp2_with (go_at_call 43;go_must (refine(HTr2.out _).mono ?_;rintro e wt ⟨rfl,rfl⟩))
  go_loopg [5] 9000 (fun g v wr=> ∃k ag b1 m1,k≤g∧v= .bool ag∧Hid (DoRel E1 w1 10100 4611686018427387904 Q k ag b1 m1 wr))
  case atStart=>exact⟨9000,true,_,_,Nat.le_refl _,rfl,HL0⟩
  case round =>
   obtain⟨k,ag,b1,m1,hkg,rfl,HR⟩:=hrel
   cases ag with
   |false =>
    obtain⟨hb1,hs1⟩:=HR.out.off
    have HS1:=Lib.hid hs1
    have HB1:=Lib.hid hb1
    clear hs1 hb1 HR
    go_wp2_with fail
    first|go_end0|refine bodyPost_ret (results_none rfl _ _ _) rfl ?_
    exact⟨rfl,by rw[HV.out,←HB1.out];exact HLv.out _ _ _ HS1.out⟩
   |true =>
    by_cases he:b1.err=0
    ·obtain⟨⟨c1,hc1,h1,hu1,hw1,hnext⟩,hg⟩:=HR.out.next he (by decide) (by decide)
     have HS1:=Lib.hid h1
     have HN:=Lib.hid hnext
     have d10:=round_facts h1
     rw[he,hbb]at d10
     have hT:=top_sx h1.sx
     rw[hbb]at hT
     have HT:=Lib.hid hT
     have HFit:=Lib.hid (attrsQ_at h1.ok.at' b1.top).2
     have HFo:Hid (∀u sp,SM E1 w1 c1 0 b1 m1 u→Calls Tryz.prog 46 #[.pointer (some ⟨E.bb,0,none⟩),.pointer (some ⟨w.heap.size,0,none⟩),.int .i64 sp] u fun r w'=>r= .returned (.bool (b1.foreign m1 sp).2.2)∧SM E1 w1 (c1+1) 0 (b1.foreign m1 sp).1 (b1.foreign m1 sp).2.1 w'):=Lib.hid fun u sp hu=>by rw[←hbb,←hmb];exact foreign_sm hu hc1 hu1 hw1 sp
     have HRu:Hid (∀u,SM E1 w1 c1 0 b1 m1 u→Calls Tryz.prog 47 #[.pointer (some ⟨E.bb,0,none⟩),.pointer (some ⟨w.heap.size,0,none⟩)] u fun r w'=>r= .returned (.bool (b1.rules m1).2.2)∧SM E1 w1 (c1+1) 0 (b1.rules m1).1 (b1.rules m1).2.1 w'):=Lib.hid fun u hu=>by rw[←hbb,←hmb];exact rules_sm hu hc1 hu1 hw1
     have HON:=Lib.hid (BuD.once.eq_1 b1 m1)
     have HG:=Lib.hid hg
     have HMl:=Lib.hid (fun u (hu:SM E1 w1 c1 0 b1 m1 u)=>hmb▸hu.sx.mc)
     have HW:=Lib.hid (fun u u' (hu:SM E1 w1 c1 0 b1 m1 u) (hb:Below u.heap.size u u')=>hu.world hb)
     have HTS:Hid (∀u,SX E1 w1 b1 m1 u→SM E1 w1 c1 0 b1 m1 u):=Lib.hid fun u hu=>⟨hu,h1.ok⟩
     clear h1 hnext he hg hu1 hw1 hc1 HR hT
     generalize attrsQ b1.S.T b1.top=ta at *
     generalize b1.tops=sp at *
     generalize b1.topn=nm at *
     have HFr:=Lib.hid (fun(a2:Option Addr) (ca2:Nat) (u:World) (hl:ta.length≤maxLen) (ha:At u a2 (pairsV ta))=>foreign_any sp nm ta a2 ca2 m1.kind m1.name E1.a m1.attrs.length E1.ac m1.self m1.text u hl HFit.out ha)
     generalize foreignF (pointF sp nm ta) sp nm m1.kind m1.name=tf at *
     cases tf with
     |true =>
      have HOn:Hid (b1.once m1=b1.foreign m1 sp):=Lib.hid (by rw[HON.out,if_pos rfl])
      rw[HOn.out]at HN
      clear HON HRu HOn
      go_wp2_with (first
       |(go_at_call 36;go_must (refine HT.out.mono ?_;rintro e w2 ⟨v,rfl,ho,hb,hx⟩;obtain⟨a2,ca2,rfl,hn2,hm2, -,hat2⟩:=own_at ho;have HX2:=Lib.hid (HTS.out _ hx);have HAt:=Lib.hid hat2;obtain⟨g0,g1,g2,g3,g4⟩:=HMl.out _ HX2.out;clear ho hb hat2 hx))
       |(go_at_call 45;go_must (refine(HFr.out _ _ _ (by omega) HAt.out).mono ?_;rintro e w3 ⟨rfl,hb3⟩;have HX3:=Lib.hid (HW.out _ _ HX2.out hb3);clear hb3))
       |(go_at_call 46;go_must (refine(HFo.out _ _ HX3.out).mono ?_;rintro e w4 ⟨rfl,h4⟩;have HX5:=Lib.hid (HN.out w4 h4);clear h4)))
      go_roundg (k-1)
      case measure=>have:=HG.out;omega
      case rel=>exact⟨k-1,_,_,_,Nat.le_refl _,rfl,HX5⟩
     |false =>
      have HOn:Hid (b1.once m1=b1.rules m1):=Lib.hid (by rw[HON.out,if_neg (by decide)])
      rw[HOn.out]at HN
      clear HON HFo HOn
      go_wp2_with (first
       |(go_at_call 36;go_must (refine HT.out.mono ?_;rintro e w2 ⟨v,rfl,ho,hb,hx⟩;obtain⟨a2,ca2,rfl,hn2,hm2, -,hat2⟩:=own_at ho;have HX2:=Lib.hid (HTS.out _ hx);have HAt:=Lib.hid hat2;obtain⟨g0,g1,g2,g3,g4⟩:=HMl.out _ HX2.out;clear ho hb hat2 hx))
       |(go_at_call 45;go_must (refine(HFr.out _ _ _ (by omega) HAt.out).mono ?_;rintro e w3 ⟨rfl,hb3⟩;have HX3:=Lib.hid (HW.out _ _ HX2.out hb3);clear hb3))
       |(go_at_call 47;go_must (refine(HRu.out _ HX3.out).mono ?_;rintro e w4 ⟨rfl,h4⟩;have HX5:=Lib.hid (HN.out w4 h4);clear h4)))
      go_roundg (k-1)
      case measure=>have:=HG.out;omega
      case rel=>exact⟨k-1,_,_,_,Nat.le_refl _,rfl,HX5⟩
    ·obtain⟨hb1,hs1⟩:=HR.out.err he
     have d10:=round_facts hs1
     rw[hbb]at d10
     have hef:(b1.err==0)=false:=beq_eq_false_iff_ne.2 he
     have HS1:=Lib.hid hs1
     have HB1:=Lib.hid hb1
     clear hs1 hb1 HR he
     go_wp2_with fail
     first|go_end0|refine bodyPost_ret (results_none rfl _ _ _) rfl ?_
     exact⟨rfl,by rw[HV.out,←HB1.out];exact HLv.out _ _ _ HS1.out⟩
theorem do_none (h:Bld E ws c 0 b w) (hm:MA (OB E) w m a ac) (hc:c≤1001) (hl:uw b+m.text.size≤4611686018427387904) (hk:m.kind=1) (he:(b.headM m).text.toList.isEmpty=true) :
 Calls Tryz.prog 31 #[.pointer (some ⟨E.bb,0,none⟩),markA m.kind m.name a m.attrs.length ac m.self m.text] w fun r w'=>r= .returned (.tuple #[])∧Bld E ws 10100 0 (b.doF m) w':=by
 obtain⟨E1,w1,hbb,hmb,h1,hlv⟩:=h.in hm 38
 have HLv:=Lib.hid (fun m' Q u (hu:SM E1 w1 c 0 Q m' u)=>(hlv _ _ _ _ _ hu).more (show c≤10100 by omega) (Int.le_refl 0))
 have HLv1:=Lib.hid (fun m' Q u (hu:SM E1 w1 (c+1) 0 Q m' u)=>(hlv _ _ _ _ _ hu).more (show c+1≤10100 by omega) (Int.le_refl 0))
 obtain⟨hsk,d8,d9,q7,q8,q9,hk0,ht0,qt⟩:=do_facts h1
 have HV:=Lib.hid (doF_none hk he)
 have HR1:=Lib.hid (ready_sm h1)
 cases hs:b.skip with
 |false =>
  have hh:b.headM m=m:=by unfold BuD.headM;rw[hs];rfl
  rw[hh]at he
  rw[hbb]at hsk d8 d9 q7 q8 q9 HR1
  rw[hmb]at hk0 ht0
  rw[hk]at hk0 ht0 hsk d8 d9 q7 q8 q9 HR1 ⊢
  rw[hs]at hsk
  generalize b.ready=br at *
  clear hk h1 hlv hm hl hc hh hs h
  go_enter Tryz.func31,Tryz.ntmps31
  go_wp2_with fail
  first|go_end0|refine bodyPost_ret (results_none rfl _ _ _) rfl ?_
  exact⟨rfl,by rw[HV.out];exact HLv.out _ _ _ HR1.out⟩
 |true =>
  have hh:b.headM m= {m with text:=trimNL m.text}:=by unfold BuD.headM;rw[hs];rfl
  rw[hh]at he
  have HR2:=Lib.hid (HR1.out.text (trimNL m.text) (trimNL_le _))
  have HTr2:Hid (∀u,Calls Tryz.prog 43 #[.string m.text,.string ⟨#[10]⟩] u fun r w'=>r= .returned (.string (trimNL m.text))∧w'=u):=Lib.hid (fun u=>trimPrefix_any m.text ⟨#[10]⟩ u)
  have he':(trimNL m.text).toList.isEmpty=true:=he
  rw[hbb,hmb]at HR2
  rw[hbb]at hsk d8 d9 q7 q8 q9
  rw[hmb]at hk0 ht0 qt
  have HLv2:=Lib.hid (fun u (hu:SM E1 w1 c 0 b.ready {m with text:=trimNL m.text} u)=>HLv.out _ _ _ hu)
  generalize SM E1 w1 c 0 b.ready {m with text:=trimNL m.text}=SS at HLv2 HR2
  rw[hk]at hk0 ht0 qt hsk d8 d9 q7 q8 q9 HR2 ⊢
  rw[hs]at hsk
  generalize b.ready=br at *
  generalize trimNL m.text=tx at *
  clear HR1 hk h1 hlv hm hl hc hh hs h he
  go_enter Tryz.func31,Tryz.ntmps31
  go_wp2_with (go_at_call 43;go_must (refine(HTr2.out _).mono ?_;rintro e wt ⟨rfl,rfl⟩))
  first|go_end0|refine bodyPost_ret (results_none rfl _ _ _) rfl ?_
  exact⟨rfl,by rw[HV.out];exact HLv2.out _ HR2.out⟩
theorem do_out (h:Bld E ws c 0 b w) (hm:MA (OB E) w m a ac) (hc:c≤1001) (hl:uw b+m.text.size≤4611686018427387904) (hk:m.kind<1∨6<m.kind) :
 Calls Tryz.prog 31 #[.pointer (some ⟨E.bb,0,none⟩),markA m.kind m.name a m.attrs.length ac m.self m.text] w fun r w'=>r= .returned (.tuple #[])∧Bld E ws 10100 0 (b.doF m) w':=by
 obtain⟨E1,w1,hbb,hmb,h1,hlv⟩:=h.in hm 38
 have HLv:=Lib.hid (fun m' Q u (hu:SM E1 w1 c 0 Q m' u)=>(hlv _ _ _ _ _ hu).more (show c≤10100 by omega) (Int.le_refl 0))
 have HLv1:=Lib.hid (fun m' Q u (hu:SM E1 w1 (c+1) 0 Q m' u)=>(hlv _ _ _ _ _ hu).more (show c+1≤10100 by omega) (Int.le_refl 0))
 obtain⟨hsk,d8,d9,q7,q8,q9,hk0,ht0,qt⟩:=do_facts h1
 have HV:=Lib.hid (doF_out (b:=b) hk)
 have HR1:=Lib.hid h1
 rw[hmb]at hk0
 obtain⟨k,hkk⟩: ∃k,k=m.kind:=⟨_,rfl⟩
 rw[←hkk]at hk0 hk HR1 ⊢
 clear hkk h1 hlv hm hl hc h hsk d8 d9 q7 q8 q9 ht0 qt
 by_cases k1:k<1
 ·clear hk
  go_enter Tryz.func31,Tryz.ntmps31
  go_wp2_with fail
  first|go_end0|refine bodyPost_ret (results_none rfl _ _ _) rfl ?_
  exact⟨rfl,by rw[HV.out];exact HLv.out _ _ _ HR1.out⟩
 ·have k6:6<k:=by omega
  clear hk
  go_enter Tryz.func31,Tryz.ntmps31
  go_wp2_with fail
  first|go_end0|refine bodyPost_ret (results_none rfl _ _ _) rfl ?_
  exact⟨rfl,by rw[HV.out];exact HLv.out _ _ _ HR1.out⟩
theorem do_aside (h:Bld E ws c 0 b w) (hm:MA (OB E) w m a ac) (hc:c≤1001) (hl:uw b+m.text.size≤4611686018427387904) (hk:m.kind=4∨m.kind=5) :
 Calls Tryz.prog 31 #[.pointer (some ⟨E.bb,0,none⟩),markA m.kind m.name a m.attrs.length ac m.self m.text] w fun r w'=>r= .returned (.tuple #[])∧Bld E ws 10100 0 (b.doF m) w':=by
 obtain⟨E1,w1,hbb,hmb,h1,hlv⟩:=h.in hm 38
 have HLv:=Lib.hid (fun m' Q u (hu:SM E1 w1 c 0 Q m' u)=>(hlv _ _ _ _ _ hu).more (show c≤10100 by omega) (Int.le_refl 0))
 have HLv1:=Lib.hid (fun m' Q u (hu:SM E1 w1 (c+1) 0 Q m' u)=>(hlv _ _ _ _ _ hu).more (show c+1≤10100 by omega) (Int.le_refl 0))
 obtain⟨hsk,d8,d9,q7,q8,q9,hk0,ht0,qt⟩:=do_facts h1
 have HV:=Lib.hid (doF_aside (b:=b) hk)
 have HR1:=Lib.hid (ready_sm h1)
 rw[hbb]at hsk d8 d9 q7 q8 q9 HR1
 rw[hmb]at hk0
 have HFl:Hid (∀u,SM E1 w1 c 0 b.ready m u→Calls Tryz.prog 44 #[.pointer (some ⟨E.bb,0,none⟩)] u fun r w'=>r= .returned (.tuple #[])∧SM E1 w1 (c+1) 0 b.ready.flush m w'∧w'.cell? ⟨w.heap.size,0,none⟩=some (.int .i64 m.kind)):=Lib.hid fun u hu=>by
  rw[←hbb,←hmb]
  exact(flush_sm hu (by omega) (by unfold uw at hl;show b.used+b.wait.size≤_;omega)).mono fun _ _ ⟨hr,hs⟩=>⟨hr,hs,hs.sx.mc.1⟩
 generalize b.ready.flush=bf at *
 generalize b.ready=br at *
 obtain⟨k,hkk⟩: ∃k,k=m.kind:=⟨_,rfl⟩
 rw[←hkk]at hk0 hk hsk d8 d9 q7 q8 q9 HFl HR1 ⊢
 clear hkk h1 hlv hm hl hc h ht0 qt
 have e1:(k==1)=false:=beq_eq_false_iff_ne.2 (by omega)
 rcases hk with hk|hk
 ·subst hk
  go_enter Tryz.func31,Tryz.ntmps31
  go_wp2_with (go_at_call 44;go_must (refine(HFl.out _ HR1.out).mono ?_;rintro e wf ⟨rfl,hf,hk1⟩;have H1:=Lib.hid hf;clear hf))
  first|go_end0|refine bodyPost_ret (results_none rfl _ _ _) rfl ?_
  exact⟨rfl,by rw[HV.out];exact HLv1.out _ _ _ H1.out⟩
 ·subst hk
  go_enter Tryz.func31,Tryz.ntmps31
  go_wp2_with (go_at_call 44;go_must (refine(HFl.out _ HR1.out).mono ?_;rintro e wf ⟨rfl,hf,hk1⟩;have H1:=Lib.hid hf;clear hf))
  first|go_end0|refine bodyPost_ret (results_none rfl _ _ _) rfl ?_
  exact⟨rfl,by rw[HV.out];exact HLv1.out _ _ _ H1.out⟩
theorem do_any (h:Bld E ws c 0 b w) (hm:MA (OB E) w m a ac) (hc:c≤1001) (hl:uw b+m.text.size≤4611686018427387904) (hmd:MD b) :
 Calls Tryz.prog 31 #[.pointer (some ⟨E.bb,0,none⟩),markA m.kind m.name a m.attrs.length ac m.self m.text] w fun r w'=>r= .returned (.tuple #[])∧Bld E ws 10100 0 (b.doF m) w':=by
 by_cases h0:m.kind<1∨6<m.kind
 ·exact do_out h hm hc hl h0
 by_cases h1:m.kind=1
 ·cases he:(b.headM m).text.toList.isEmpty with
  |true=>exact do_none h hm hc hl h1 he
  |false=>exact do_text h hm hc hl hmd h1 he
 by_cases h2:m.kind=4∨m.kind=5
 ·exact do_aside h hm hc hl h2
 exact do_tag h hm hc hl hmd (by omega)
theorem md_again: ∀(k:Nat) (b:BuD) (m:BMark),MD b→MD (BuD.again k b m)
 |0,_,_,h=>h
 |k+1,b,m,h=>by
  rw[BuD.again]
  exact MD.ite (fun _=>MD.ite (fun _=>md_again k _ _ (md_once h m)) fun _=>md_once h m) fun _=>h
theorem md_doF (h:MD b) (m:BMark):MD (b.doF m):=by
 have h1:MD b.ready:=h.same rfl rfl
 have h2:MD b.ready.flush:=h1.same (mo_flush _).1 (mo_flush _).2
 unfold BuD.doF
 exact MD.ite (fun _=>h) fun _=>MD.ite (fun _=>MD.ite (fun _=>h1) fun _=>md_again _ _ _ h1) fun _=>MD.ite (fun _=>h2) fun _=>md_again _ _ _ h2
end
end
end Go.Proofs.YtgepobccoffnaaaGreatDoor
