/- Texts joined for a claim: CuEn: plain laws and contracts. No conditions beyond those that each lemma types. -/
import Derived.Test.YtgepobccoffnaaaGreatDoorT30
set_option linter.unusedVariables false
set_option linter.unusedSimpArgs false
set_option maxRecDepth 100000
set_option maxHeartbeats 8000000
namespace Go.Proofs.YtgepobccoffnaaaGreatDoor
open Go.RowKit Mem
section
theorem not_deep {T:TreeD} (hw:WF T) {r:Int→Nat} (hr: ∀i:Nat,i<T.nodes.length→1≤parentF T i→r (parentF T i)<r i): ∀(k:Nat) (i:Int),1≤i→i<T.nodes.length→ ¬Deep k T i →
 ∃L:List Int,L.length=k+1∧L.Nodup∧ ∀x∈L,0≤x∧x<T.nodes.length∧r i≤r x
 |0,i,h1,h2,_=>⟨[i],rfl,by simp,fun x hx=>by rw[List.mem_singleton.1 hx];exact⟨by omega,h2,Nat.le_refl _⟩⟩
 |k+1,i,h1,h2,h=>by
  have h3: ∃x∈kidsF T i,¬Deep k T x:=Classical.byContradiction fun hn=>h fun x hx=>Classical.byContradiction fun hd=>hn ⟨x,hx,hd⟩
  obtain⟨x,hx,hd⟩:=h3
  obtain⟨j,rfl⟩:=Int.eq_ofNat_of_zero_le (by omega:0≤i)
  obtain⟨p1,p2,p3⟩:=hw.kid j (by omega) x hx
  obtain⟨y,rfl⟩:=Int.eq_ofNat_of_zero_le (by omega:0≤x)
  have hlt:=hr y (by omega) (by rw[p3];omega)
  rw[p3]at hlt
  obtain⟨L,q1,q2,q3⟩:=not_deep hw hr k y (by omega) (by omega) hd
  refine⟨(j:Int)::L,by rw[List.length_cons,q1],List.nodup_cons.2 ⟨fun hm=> ?_,q2⟩,fun z hz=> ?_⟩
  ·have:=(q3 _ hm).2.2
   omega
  ·rcases List.mem_cons.1 hz with hz|hz
   ·rw[hz];exact⟨by omega,h2,Nat.le_refl _⟩
   ·obtain⟨a,b,c⟩:=q3 z hz
    exact⟨a,b,by omega⟩
theorem deep_nodes {T:TreeD} (hw:WF T) (i:Nat) (h1:1≤i) (h2:i<T.nodes.length):Deep T.nodes.length T i:=by
 obtain⟨r,hr⟩:=hw.rank
 refine Classical.byContradiction fun hn=> ?_
 obtain⟨L,q1,q2,q3⟩:=not_deep hw hr T.nodes.length i (by omega) (by omega) hn
 have:=few_ints T.nodes.length L q2 fun x hx=>⟨(q3 x hx).1,(q3 x hx).2.1⟩
 omega
def readK (T:TreeD) (n:Int):NT:=readN T.nodes.length T n
theorem readN_far (F:Nat→Prop) (T:TreeD): ∀(d:Nat) (n:Int),readN d (farW F T) n=readN d T n
 |0,_=>rfl
 |d+1,n=>by
  have h3:readN d (farW F T)=readN d T:=funext (readN_far F T d)
  simp only[readN,h3]
  rfl
theorem readN_slim {T:TreeD} (ha: ∀i (h:i<T.nodes.length),T.nodes[i].attrs.length≤1048576): ∀(d:Nat) (n:Int),ntSlim (readN d T n)
 |0,_=>by rw[readN];exact⟨Nat.zero_le _,trivial⟩
 |d+1,n=>by
  have hl: ∀l:List Int,ntSlims (l.map (readN d T)):=fun l=>by
   induction l with
   |nil=>trivial
   |cons x r ih=>exact⟨readN_slim ha d x,ih⟩
  rw[readN]
  cases e:T.nodes[n.toNat]? with
  |none=>exact⟨Nat.zero_le _,trivial⟩
  |some x =>
   obtain⟨hi,hx⟩:=List.getElem?_eq_some_iff.1 e
   have:=ha _ hi
   rw[hx]at this
   simp only
   split
   ·exact⟨this,hl _⟩
   ·exact⟨Nat.zero_le _,trivial⟩
section
variable {w0 w:World} {B tb sb lb:Nat} {ex:Nat→Prop} {T:TreeD} {l ent:List Int} {on:Bool}
theorem Read_li (h:LI w0 B tb sb lb ex T l ent on w) (i:Nat) (h1:1≤i) (hi:i<T.nodes.length) :
 Calls Tryz.prog 32 #[.pointer (some ⟨tb,0,none⟩),.int .i64 i] w fun e w'=> ∃cs,e= .returned (.tuple #[.agg cs.toArray,.int .i64 0])∧NodeC (· <w.heap.size) w' cs (readK T i)∧Below w.heap.size w w':=by
 have hwf:=h.wf
 have hat:=h.att
 have hlen:=h.len
 obtain⟨g,far,hT⟩:=h.tree
 have h2:=read_deep T.nodes.length (farW far T) tb g w i (far_wf hwf) hlen (fun d hd=>by
  obtain⟨j,hj,rfl⟩:=List.getElem_of_mem hd
  exact hat j hj) h1 hi (by
   have:=deep_nodes (far_wf (F:=far) hwf) i h1 hi
   exact this) hT
 rw[readN_far]at h2
 exact h2
theorem readK_count (hw:WF T) (i:Nat) (h1:1≤i) (hi:i<T.nodes.length):ntCount (readK T i)≤T.nodes.length:=by
 unfold readK
 rw[count_read T.nodes.length T hw i h1 hi (deep_nodes hw i h1 hi)]
 exact cntF_le T i
end
def eofM:BMark:=⟨6,⟨#[]⟩,[],false,⟨#[]⟩⟩
def kid0 (T:TreeD):Int:=(kidsF T 0).headD 0
def BuD.pageN (b:BuD):NT:=readK b.S.T (kid0 b.S.T)
noncomputable def BuD.endB (b:BuD):BuD:=b.DoF eofM
noncomputable def BuD.endE (b:BuD):Int:=if b.endB.err≠0 then b.endB.err else if 32<ntDepth b.endB.pageN then 44 else 0
noncomputable def BuD.endN (b:BuD):NT:=if b.endE=0 then b.endB.pageN else emptyNT
section
variable {E:BE} {ws w w':World} {c c':Nat} {s s':Int} {b b':BuD} {m m':BMark} {a:Option Addr} {ac:Nat}
def BE.also (E:BE) (g:Nat):BE:= {E with ex:=fun k=>E.ex k∨k=g}
theorem Bld.also (h:Bld E ws c s b w) (o:Obj):Bld (E.also w.heap.size) (w.alloc o) c s b (w.alloc o) :=
 ⟨⟨h.bm.li.lay o,h.bm.row.kept (Below.heap_alloc w o _ h.bm.lt),.inl h.bm.exb,h.bm.b0⟩,Keeps.refl _ _,h.ok⟩
def OE (E:BE) (w:World):Nat→Prop:=fun k=>OB E k∨w.heap.size≤k
theorem oe_keeps {u:World} (h:Keeps (OE E w) w u):Keeps (OB E) w u:=⟨h.os,h.tape,h.output,h.size,fun k hk hx=>h.block k hk fun hy=>hy.elim hx fun hz=>by omega⟩
theorem also_oe {o:Obj} {u:World} (h:Keeps (OB (E.also w.heap.size)) (w.alloc o) u):Keeps (OE E w) w u:=by
 have k1:Keeps (OE E w) w (w.alloc o):=(Keeps.refl _ _).alloc o
 refine k1.trans (h.mono fun k hk hx=> ?_)
 rcases hx with hx|hx
 ·exact .inl (.inl ⟨hx.1,fun he=>hx.2 (.inl he)⟩)
 ·exact .inl (.inr hx)
theorem also_row {o:Obj} {u:World} (hlt:E.bb<w.heap.size) (h:Keeps (OB (E.also w.heap.size)) (w.alloc o) u):u.heap[w.heap.size]?=(w.alloc o).heap[w.heap.size]?:=by
 have hs:=World.size_alloc w o
 refine h.block _ (by omega) fun hx=> ?_
 rcases hx with hx|hx
 ·exact hx.2 (.inr rfl)
 ·have:w.heap.size=E.bb:=hx
  omega
theorem Bld.setpg (h:Bld E ws c s b w) (j:Nat) (v:Value):Bld {E with pg:=E.pg.set j v} ws c s b (w.setCell ⟨E.bb,11+j,none⟩ v):=by
 obtain⟨⟨h1,h2,h3,h4⟩,h5,h6⟩:=h
 have hk1:Keeps (fun k=>k=E.bb) w (w.setCell ⟨E.bb,11+j,none⟩ v):=Keeps.set (F:=fun k=>k=E.bb) (Keeps.refl _ w) (p:=⟨E.bb,11+j,none⟩) (.inl rfl) _
 refine⟨⟨h1.foreign (ex':=E.ex) hk1 (fun k hx=>by subst hx;exact⟨h3,h4⟩) fun k hx=>⟨.inl hx,Nat.lt_of_lt_of_le (h1.exlt k hx) hk1.size⟩,?_,h3,h4⟩,h5.trans (hk1.mono fun k _ hx=> .inr hx),h6⟩
 have h7:=h2.set (11+j) v
 have e:(buV E b).set (11+j) v=buV {E with pg:=E.pg.set j v} b:=by
  unfold buV
  rw[show 11+j=j+11 by omega]
  rfl
 rw[e]at h7
 exact h7
theorem empty_node {F:Nat→Prop} {u:World}:NodeC F u (nodeV 0 0 ⟨#[]⟩ none 0 0 ⟨#[]⟩ none 0 0) emptyNT :=
 .mk (attrs:= []) (kids:= []) [] (Nat.le_refl _) (Nat.zero_le _) (fun _=>rfl) (fun j u hj=>by simp[pairsV]at hj) (Nat.le_refl _) (Nat.zero_le _) (fun _=>rfl) (fun j u hj=>by simp at hj) rfl (fun i h=>by simp at h)
theorem put6_drew {w4:World} {O:Nat} {a0 a1 a2 a3 a4 a5:Value} {t:TypeId} (u0 u1 u2 u3 u4 u5:Value) (h:w4.heap[O]?=some (.cells #[a0,a1,a2,a3,a4,a5] t (0,0))) :
 (((((((w4.setCell ⟨O,0,none⟩ u0).setCell ⟨O,1,none⟩ u1).setCell ⟨O,2,none⟩ u2).setCell ⟨O,3,none⟩ u3).setCell ⟨O,4,none⟩ u4).setCell ⟨O,5,none⟩ u5).drew).heap[O]?=some (.cells #[u0,u1,u2,u3,u4,u5] t (0,0)):=by
 have e: ∀u:World,u.drew.heap=u.heap:=fun _=>rfl
 rw[e]
 exact put6_heap u0 u1 u2 u3 u4 u5 h
theorem put6_drew_keeps {F:Nat→Prop} {w2 w4:World} {O:Nat} (u0 u1 u2 u3 u4 u5:Value) (hk:Keeps F w2 w4) (hO:F O∨w2.heap.size≤O):Keeps F w2 (((((((w4.setCell ⟨O,0,none⟩ u0).setCell ⟨O,1,none⟩ u1).setCell ⟨O,2,none⟩ u2).setCell ⟨O,3,none⟩ u3).setCell ⟨O,4,none⟩ u4).setCell ⟨O,5,none⟩ u5).drew):=(put6_keeps u0 u1 u2 u3 u4 u5 hk hO).drew
theorem End_err (h:Bld E ws c 0 b w) {v0 v1 v2 v3 v4 v5:Value} (_hp:E.pg= [.bool false,v0,v1,v2,v3,v4,v5]) (he:b.err≠0) :
 Calls Tryz.prog 20 #[.pointer (some ⟨E.bb,0,none⟩)] w fun r w'=>r= .returned (.tuple #[.agg (nodeV 0 0 ⟨#[]⟩ none 0 0 ⟨#[]⟩ none 0 0).toArray,.int .i64 b.err])∧Keeps (OB E) w w':=by
 have hb1:=(Below.refl w.heap.size w).alloc (Nat.le_refl _) (.cells #[.int .i64 0,.int .i64 0,.string ⟨#[]⟩,.slice none 0 0,.string ⟨#[]⟩,.slice none 0 0] 26)
 have h1:=h.world hb1
 obtain⟨-, -, -,d10,hpg⟩:=h1.cells
 have hef:(b.err==0)=false:=beq_eq_false_iff_ne.2 he
 have hne:(b.err !=0)=true:=bne_iff_ne.2 he
 have HR:=heap_alloc_new w (.cells #[.int .i64 0,.int .i64 0,.string ⟨#[]⟩,.slice none 0 0,.string ⟨#[]⟩,.slice none 0 0] 26)
 have HK:=Lib.hid (Keeps.ofBelow (F:=OE E w) hb1)
 obtain⟨⟨z0,z1,z2,z3,z4,z5⟩,t0,t1,t2,t3,t4,t5⟩:=cells6 HR
 have HR1:=Lib.hid HR
 clear h h1 hpg he HR hb1
 generalize b.err=er at *
 go_enter Tryz.func20,Tryz.ntmps20
 go_wp2_with fail
 go_region
 all_goals
  go_wp2_with fail
  refine bodyPost_ret (ret_node rfl _ _ w.heap.size _ _ _ _ (.int .i64 er) (by rfl) (by rfl) HR1.out Tryz.underlying26 rfl size_out) rfl ?_
  exact⟨rfl,oe_keeps HK.out.drew⟩
theorem kid0_ok {T:TreeD} (hw:WF T) (h:kidsF T 0≠ []): ∃i:Nat,kid0 T=i∧1≤i∧i<T.nodes.length∧(intsV (kidsF T 0))[0]?=some (.int .i64 i)∧kidsQ T 0=kidsF T 0∧1≤(kidsF T 0).length:=by
 have hp:=hw.pos
 have hk:=hw.kid 0 hp
 have hq:kidsQ T 0=kidsF T 0:=by unfold kidsQ;rw[if_pos ⟨by omega,by omega⟩]
 unfold kid0
 have e0:((0:Nat):Int)=0:=rfl
 rw[e0]at hk
 cases e:kidsF T 0 with
 |nil=>exact absurd e h
 |cons x r =>
  rw[e]at hk
  obtain⟨h1,h2, -⟩:=hk x List.mem_cons_self
  obtain⟨i,rfl⟩:=Int.eq_ofNat_of_zero_le (by omega:0≤x)
  exact⟨i,rfl,by omega,by omega,rfl,by rw[hq,e],by rw[List.length_cons];omega⟩
theorem do_eof (h:Bld E ws c 0 b w) (hc:c≤1001) (hl:uw b≤4611686018427387904) (hmd:MD b) :
 Calls Tryz.prog 31 #[.pointer (some ⟨E.bb,0,none⟩),.agg #[.int .i64 6,.string ⟨#[]⟩,.slice none 0 0,.bool false,.string ⟨#[]⟩]] w fun r w'=>r= .returned (.tuple #[])∧Bld E ws 10100 0 (b.doF eofM) w' :=
 do_any (m:=eofM) (a:=none) (ac:=0) h ⟨fun j u hj=>by simp[eofM,pairsV]at hj,fun _=>rfl,Nat.zero_le _,fun p hp=>by simp[eofM]at hp,Nat.zero_le _,Nat.zero_le _⟩ hc hl hmd
theorem page_kids (h:Bld E ws c s b w) {i:Nat} (i4:(intsV (kidsF b.S.T 0))[0]?=some (.int .i64 i)) (i5:kidsQ b.S.T 0=kidsF b.S.T 0) (i6:1≤(kidsF b.S.T 0).length) :
 Calls Tryz.prog 33 #[.pointer (some ⟨E.tb,0,none⟩),.int .i64 0] w fun r u'=> ∃kb ko kn kc,r= .returned (.slice (some ⟨kb,ko,none⟩) kn kc)∧1≤kn∧kn≤kc∧kc≤9223372036854775807∧u'.cell? ⟨kb,ko,none⟩=some (.int .i64 i)∧Below w.heap.size w u':=by
 refine(Kids_li h.bm.li 0).mono ?_
 rintro e u' ⟨v,rfl,ho,hb⟩
 rw[i5]at ho
 obtain⟨ka,kc,rfl,q1,q2, -,hat⟩:=own_at ho
 obtain⟨kb,ko,rfl,hc⟩:=hat 0 (.int .i64 i) i4
 unfold maxLen at q2
 exact⟨kb,ko,_,kc,rfl,i6,q1,by omega,hc,hb⟩
theorem page_read (h:Bld E ws c s b w) {i:Nat} (i1:kid0 b.S.T=i) (i2:1≤i) (i3:i<b.S.T.nodes.length) :
 Calls Tryz.prog 32 #[.pointer (some ⟨E.tb,0,none⟩),.int .i64 i] w fun r u'=> ∃cs,r= .returned (.tuple #[.agg cs.toArray,.int .i64 0])∧NodeC (· <w.heap.size) u' cs b.pageN∧Below w.heap.size w u':=by
 have hpn:b.pageN=readK b.S.T i:=by unfold BuD.pageN;rw[i1]
 rw[hpn]
 exact Read_li h.bm.li i i2 i3
theorem page_small (h:Bld E ws c s b w) (hk:kidsF b.S.T 0≠ []):ntCount b.pageN≤1000000∧ntSlim b.pageN:=by
 obtain⟨i,i1,i2,i3, -⟩:=kid0_ok h.bm.li.wf hk
 have hpn:b.pageN=readK b.S.T i:=by unfold BuD.pageN;rw[i1]
 rw[hpn]
 exact⟨Nat.le_trans (readK_count h.bm.li.wf i i2 i3) h.bm.li.len,readN_slim h.bm.li.att _ _⟩
theorem Bld.setpg' {bb0:Nat} (h:Bld E ws c s b w) (hbb:E.bb=bb0) (j:Nat) (v:Value): ∃E3:BE,E3.bb=bb0∧E3.pg=E.pg.set j v∧E3.tb=E.tb∧OB E3=OB E∧Bld E3 ws c s b (w.setCell ⟨bb0,11+j,none⟩ v):=by
 subst hbb
 exact⟨{E with pg:=E.pg.set j v},rfl,rfl,rfl,rfl,h.setpg j v⟩
structure PG (E3:BE) (wz:World) (bb0 tb:Nat) (q:BuD) (i:Nat) (vs:List Value) (W:World):Prop where
 bld:Bld E3 wz 10100 0 q W
 bb:E3.bb=bb0
 pg:E3.pg=vs
 tb':E3.tb=tb
 i1:kid0 q.S.T=i
 i2:1≤i
 i3:i<q.S.T.nodes.length
 i4:(intsV (kidsF q.S.T 0))[0]?=some (.int .i64 i)
 i5:kidsQ q.S.T 0=kidsF q.S.T 0
 i6:1≤(kidsF q.S.T 0).length
theorem PG.world {E3:BE} {wz W:World} {bb0 tb i:Nat} {q:BuD} {vs:List Value} (h:PG E3 wz bb0 tb q i vs W) {u:World} (hb:Below W.heap.size W u):PG E3 wz bb0 tb q i vs u:=⟨h.bld.world hb,h.bb,h.pg,h.tb',h.i1,h.i2,h.i3,h.i4,h.i5,h.i6⟩
theorem PG.cell0 {E3:BE} {wz W:World} {bb0 tb i:Nat} {q:BuD} {vs:List Value} (h:PG E3 wz bb0 tb q i vs W):W.cell? ⟨bb0,0,none⟩=some (.pointer (some ⟨tb,0,none⟩))∧W.cell? ⟨bb0,10,none⟩=some (.int .i64 q.err)∧(∀j v,vs[j]?=some v→W.cell? ⟨bb0,11+j,none⟩=some v)∧ ∀j,j<11+vs.length→W.frozen? ⟨bb0,j,none⟩=false:=by
 obtain⟨h1,h2,h3,h4, -⟩:=h
 subst h2 h3 h4
 exact⟨h1.cells.1,h1.cells.2.2.2.1,h1.cells.2.2.2.2,fun j hj=>h1.frozen j hj⟩
theorem PG.kids {E3:BE} {wz W:World} {bb0 tb i:Nat} {q:BuD} {vs:List Value} (h:PG E3 wz bb0 tb q i vs W):Calls Tryz.prog 33 #[.pointer (some ⟨tb,0,none⟩),.int .i64 0] W fun r u'=> ∃kb ko kn kc,r= .returned (.slice (some ⟨kb,ko,none⟩) kn kc)∧1≤kn∧kn≤kc∧kc≤9223372036854775807∧u'.cell? ⟨kb,ko,none⟩=some (.int .i64 i)∧Below W.heap.size W u'∧PG E3 wz bb0 tb q i vs u':=by
 rw[←h.tb']
 exact(page_kids h.bld h.i4 h.i5 h.i6).mono fun _ _ ⟨kb,ko,kn,kc,a,b,c,d,e,hb⟩=>⟨kb,ko,kn,kc,a,b,c,d,e,hb,h.tb'▸h.world hb⟩
theorem PG.read {E3:BE} {wz W:World} {bb0 tb i:Nat} {q:BuD} {vs:List Value} (h:PG E3 wz bb0 tb q i vs W):Calls Tryz.prog 32 #[.pointer (some ⟨tb,0,none⟩),.int .i64 i] W fun r u'=> ∃f0 f1 f2 f3 f4 f5 f6 f7 f8 f9,r= .returned (.tuple #[.agg #[.int .i64 f0,.int .i64 f1,.string f2,.slice f3 f4 f5,.string f6,.slice f7 f8 f9],.int .i64 0])∧NodeC (· <W.heap.size) u' (nodeV f0 f1 f2 f3 f4 f5 f6 f7 f8 f9) q.pageN∧Below W.heap.size W u'∧PG E3 wz bb0 tb q i vs u':=by
 rw[←h.tb']
 refine(page_read h.bld h.i1 h.i2 h.i3).mono fun _ _ ⟨cs,a,b,hb⟩=> ?_
 obtain⟨f0,f1,f2,f3,f4,f5,f6,f7,f8,f9,rfl⟩:=nodeC_form b
 exact⟨f0,f1,f2,f3,f4,f5,f6,f7,f8,f9,a,b,hb,h.tb'▸h.world hb⟩
theorem Bld.page {bb0:Nat} {E2:BE} {wz:World} {q:BuD} (h:Bld E2 wz 10100 0 q w) (hbb:E2.bb=bb0) {v0 v1 v2 v3 v4 v5:Value} (hpg:E2.pg= [.bool false,v0,v1,v2,v3,v4,v5]) (hk:kidsF q.S.T 0≠ []) :
 ∃E3 i,OB E3=OB E2∧PG E3 wz bb0 E2.tb q i [.bool true,v0,v1,v2,v3,v4,v5] (w.setCell ⟨bb0,11,none⟩ (.bool true)):=by
 obtain⟨i,i1,i2,i3,i4,i5,i6⟩:=kid0_ok h.bm.li.wf hk
 obtain⟨E3,e1,e2,e3,e4,e5⟩:=h.setpg' hbb 0 (.bool true)
 rw[hpg]at e2
 exact⟨E3,i,e4,e5,e1,e2,e3,i1,i2,i3,i4,i5,i6⟩
theorem PG.after {E3:BE} {wz W u:World} {bb0 tb i:Nat} {q:BuD} {y0 y1 y2 y3 y4 y5 y6 u0 u1 u2 u3 u4 u5:Value} (h:PG E3 wz bb0 tb q i [y0,y1,y2,y3,y4,y5,y6] W) (hb:Below (set6 W bb0 12 u0 u1 u2 u3 u4 u5).heap.size (set6 W bb0 12 u0 u1 u2 u3 u4 u5) u) :
 u.cell? ⟨bb0,10,none⟩=some (.int .i64 q.err)∧u.frozen? ⟨bb0,10,none⟩=false∧u.cell? ⟨bb0,12,none⟩=some u0∧u.cell? ⟨bb0,13,none⟩=some u1∧u.cell? ⟨bb0,14,none⟩=some u2∧u.cell? ⟨bb0,15,none⟩=some u3∧u.cell? ⟨bb0,16,none⟩=some u4∧u.cell? ⟨bb0,17,none⟩=some u5:=by
 have hr:=h.bld.bm.row
 unfold buV at hr
 rw[h.pg,h.bb]at hr
 have hr6:=(((((hr.set 12 u0).set 13 u1).set 14 u2).set 15 u3).set 16 u4).set 17 u5
 have hr7:=hr6.kept (hb.block _ hr6.lt)
 exact⟨hr7.cell (j:=10) rfl,hr7.frozen (by simp),hr7.cell (j:=12) rfl,hr7.cell (j:=13) rfl,hr7.cell (j:=14) rfl,hr7.cell (j:=15) rfl,hr7.cell (j:=16) rfl,hr7.cell (j:=17) rfl⟩
theorem fail_raw (bb0:Nat) (e:Int) (u:World) (h:u.cell? ⟨bb0,10,none⟩=some (.int .i64 0)) (hf:u.frozen? ⟨bb0,10,none⟩=false):Calls Tryz.prog 34 #[.pointer (some ⟨bb0,0,none⟩),.int .i64 e] u fun r w'=>r= .returned (.tuple #[])∧w'=u.setCell ⟨bb0,10,none⟩ (.int .i64 e):=by
 go_enter Tryz.func34,Tryz.ntmps34
 go_wp2_with fail
 first|go_end0|refine bodyPost_ret (results_none rfl _ _ _) rfl ?_
 exact⟨rfl,rfl⟩
theorem End_any (h:Bld E ws c 0 b w) {v0 v1 v2 v3 v4 v5:Value} (hp:E.pg= [.bool false,v0,v1,v2,v3,v4,v5]) (hl:uw b≤4611686018427387904) (hmd:MD b) (hk:b.endB.err=0→kidsF b.endB.S.T 0≠ []) :
 Calls Tryz.prog 20 #[.pointer (some ⟨E.bb,0,none⟩)] w fun r w'=> ∃cs,r= .returned (.tuple #[.agg cs.toArray,.int .i64 b.endE])∧NodeC (· <w.heap.size) w' cs b.endN∧Keeps (OB E) w w':=by
 by_cases he:b.err=0
 case neg =>
  have e1:b.endB=b:=by unfold BuD.endB BuD.DoF;rw[if_neg he]
  have e2:b.endE=b.err:=by unfold BuD.endE;rw[e1,if_pos he]
  have e3:b.endN=emptyNT:=by unfold BuD.endN;rw[e2,if_neg he]
  rw[e2,e3]
  exact(End_err h hp he).mono fun _ _ ⟨hr,hk⟩=>⟨_,hr,empty_node,hk⟩
 have e1:b.endB=b.doF eofM:=by unfold BuD.endB BuD.DoF;rw[if_pos he]
 obtain⟨E2,wz,hbb,hpg2,hA,hrow,hoe⟩: ∃E2 wz,E2.bb=E.bb∧E2.pg=E.pg∧Bld E2 wz c 0 b (w.alloc (.cells #[.int .i64 0,.int .i64 0,.string ⟨#[]⟩,.slice none 0 0,.string ⟨#[]⟩,.slice none 0 0] 26)) ∧
  (∀u,Keeps (OB E2) wz u→u.heap[w.heap.size]?=some (.cells #[.int .i64 0,.int .i64 0,.string ⟨#[]⟩,.slice none 0 0,.string ⟨#[]⟩,.slice none 0 0] 26 (0,0)))∧(∀u,Keeps (OB E2) wz u→Keeps (OE E w) w u) :=
  ⟨E.also w.heap.size,_,rfl,rfl,h.also _,fun u hu=>(also_row h.bm.lt hu).trans (heap_alloc_new w _),fun u hu=>also_oe hu⟩
 obtain⟨-, -, -,d10,hpg⟩:=hA.cells
 have d11:=hpg 0 (.bool false) (by rw[hpg2,hp];rfl)
 rw[Nat.add_zero,hbb]at d11
 rw[he,hbb]at d10
 have hD:=do_eof (hA.fresh he) (Nat.le_refl _) hl hmd
 rw[hbb]at hD
 have HD:=Lib.hid hD
 have HRow:=Lib.hid hrow
 have HOe:=Lib.hid hoe
 have HCe:=Lib.hid (fun u cc bb' (hu:Bld E2 wz cc 0 bb' u)=>(show u.cell? ⟨E.bb,10,none⟩=some (.int .i64 bb'.err)∧(∀j v,E.pg[j]?=some v→u.cell? ⟨E.bb,11+j,none⟩=some v)∧(∀j,j<11+E.pg.length→u.frozen? ⟨E.bb,j,none⟩=false)from by
  rw[←hbb,←hpg2];exact⟨hu.cells.2.2.2.1,hu.cells.2.2.2.2,fun j hj=>hu.frozen j hj⟩))
 have hE3:=Lib.hid (BuD.endE.eq_1 b)
 have hN3:=Lib.hid (BuD.endN.eq_1 b)
 rw[e1]at hE3 hN3 hk
 have hne: ¬w.heap.size=E.bb:=by have:=h.bm.lt;omega
 have hne2: ¬E.bb=w.heap.size:=fun e=>hne e.symm
 have hlt:E.bb<w.heap.size:=h.bm.lt
 generalize b.doF eofM=q at *
 have HPG:Hid (E.pg= [.bool false,v0,v1,v2,v3,v4,v5]):=Lib.hid hp
 clear h hA hpg hp he e1 hl hmd hrow hoe hD
 by_cases hq:q.err=0
 case neg =>
  have hef:(q.err==0)=false:=beq_eq_false_iff_ne.2 hq
  have hnf:(q.err !=0)=true:=bne_iff_ne.2 hq
  have HQ1:Hid (b.endE=q.err):=Lib.hid (by rw[hE3.out,if_pos hq])
  have HQ2:Hid (b.endN=emptyNT):=Lib.hid (by rw[hN3.out,HQ1.out,if_neg hq])
  rw[HQ1.out,HQ2.out]
  have HL:=Lib.hid hlt
  clear hq hk hE3 hN3 HQ1 HQ2 hlt
  generalize hqe:q.err=er at hef hnf
  have HQE:=Lib.hid hqe
  clear hqe
  go_enter Tryz.func20,Tryz.ntmps20
  go_wp2_with (go_at_call 31;go_must (refine HD.out.mono ?_;rintro e wd ⟨rfl,hd⟩;obtain⟨x10,xpg,yf⟩:=HCe.out _ _ _ hd;have x11:=xpg 0 (.bool false) (by rw[HPG.out];rfl);rw[Nat.add_zero]at x11;rw[HQE.out]at x10;have y11:=yf 11 (by rw[HPG.out];simp);have hrw:=HRow.out _ hd.keep;have hrw2:=(heap_setCell_other wd ⟨E.bb,11,none⟩ w.heap.size (.bool true) hne).trans hrw;obtain⟨⟨z0,z1,z2,z3,z4,z5⟩,t0,t1,t2,t3,t4,t5⟩:=cells6 hrw2;have HR3:=Lib.hid (put6_drew (.int .i64 0) (.int .i64 0) (.string ⟨#[]⟩) (.slice none 0 0) (.string ⟨#[]⟩) (.slice none 0 0) hrw2);have HK3:=Lib.hid (put6_drew_keeps (O:=w.heap.size) (.int .i64 0) (.int .i64 0) (.string ⟨#[]⟩) (.slice none 0 0) (.string ⟨#[]⟩) (.slice none 0 0) ((HOe.out _ hd.keep).set (p:=⟨E.bb,11,none⟩) (.inl (.inl (.inr rfl))) (.bool true)) (.inr (Nat.le_refl _)));have HK:=Lib.hid ((HOe.out _ hd.keep).set (p:=⟨E.bb,11,none⟩) (.inl (.inl (.inr rfl))) (.bool true));clear hd xpg yf hrw hrw2))
  go_region
  all_goals
   go_wp2_with fail
   refine bodyPost_ret (ret_node rfl _ _ w.heap.size _ _ _ _ (.int .i64 er) (by rfl) (by rfl) HR3.out Tryz.underlying26 rfl size_out) rfl ?_
   exact⟨_,rfl,empty_node,oe_keeps HK3.out⟩
 have hk':=hk hq
 have hE4:b.endE=if 32<ntDepth q.pageN then 44 else 0:=by rw[hE3.out,if_neg (fun h=>h hq)]
 have hN4:b.endN=if b.endE=0 then q.pageN else emptyNT:=hN3.out
 rw[hE4]at hN4
 rw[hN4,hE4]
 clear hk hE3 hN3 hE4 hN4
 obtain⟨tb,htb⟩: ∃tb,tb=E2.tb:=⟨_,rfl⟩
 have HPg:Hid (∀wd,Bld E2 wz 10100 0 q wd→ ∃E3 i,OB E3=OB E2∧PG E3 wz E.bb tb q i [.bool true,v0,v1,v2,v3,v4,v5] (wd.setCell ⟨E.bb,11,none⟩ (.bool true))):=Lib.hid fun wd hd=>by
  rw[htb]
  exact hd.page hbb (hpg2.trans HPG.out) hk'
 have HSm:=Lib.hid (fun wd (hd:Bld E2 wz 10100 0 q wd)=>page_small hd hk')
 have HBE:Hid (E2.bb=E.bb):=Lib.hid hbb
 clear hk' htb hbb hpg2
 have HQE:=Lib.hid hq
 clear hq
 obtain⟨pn,hpn⟩: ∃pn,pn=q.pageN:=⟨_,rfl⟩
 have HPN:=Lib.hid hpn
 rw[←hpn]
 obtain⟨d,hdd⟩: ∃d,d=ntDepth pn:=⟨_,rfl⟩
 have HDD:=Lib.hid hdd
 rw[←hdd]
 clear hpn hdd
 have hdi:(32:Int)<(d:Int)↔32<d:=by omega
 have HDI:=Lib.hid hdi
 clear hdi
 by_cases hdp:32<d
 ·have hdi:(32:Int)<(d:Int):=by omega
  rw[if_pos hdp,if_neg (by decide)]
  go_enter Tryz.func20,Tryz.ntmps20
  go_wp2_with (go_at_call 31;go_must (refine HD.out.mono ?_;rintro e wd ⟨rfl,hd⟩;obtain⟨E3,i,hOB,hPG⟩:=HPg.out _ hd;obtain⟨x10,xpg,yf⟩:=HCe.out _ _ _ hd;have x11:=xpg 0 (.bool false) (by rw[HPG.out];rfl);rw[Nat.add_zero]at x11;rw[HQE.out]at x10;have y11:=yf 11 (by rw[HPG.out];simp);have HP:=Lib.hid hPG;have HW:=Lib.hid hd;have HOB:=Lib.hid hOB;obtain⟨c0, -⟩:=hPG.cell0;have HD0:=Lib.hid (hPG.world (Below.refl _ _).drew);have HRW:=Lib.hid ((heap_setCell_other wd ⟨E.bb,11,none⟩ w.heap.size (.bool true) hne).trans (HRow.out _ hd.keep));have HKW:=Lib.hid ((HOe.out _ hd.keep).set (p:=⟨E.bb,11,none⟩) (.inl (.inl (.inr rfl))) (.bool true));have HSm1:=Lib.hid (HSm.out _ hd);rw[←HPN.out]at HSm1;clear hd xpg yf hPG hOB))
  go_region_law (first
   |(go_simp;go_at_call 33;refine HD0.out.kids.mono ?_
     rintro e wk ⟨kb,ko,kn,kc,rfl,kn1,kn2,kn3,k0,hbk,hpk⟩
     have HPk:=Lib.hid hpk
     have HBk:=Lib.hid (belowCall (Below.refl _ _).drew hbk)
     obtain⟨ck, -⟩:=hpk.cell0
     have kn0:(0:Int)<(kn:Int):=by omega
     have kn4:0<kn:=kn1
     clear hpk hbk)
   |(go_simp;go_at_call 32;refine HPk.out.read.mono ?_
     rintro e w3 ⟨f0,f1,f2,f3,f4,f5,f6,f7,f8,f9,rfl,hnc,hb3,hp3⟩
     have HB3x:=Lib.hid (belowCall HBk.out hb3)
     rw[←HPN.out]at hnc
     have HN3:=Lib.hid (hnc.other (G:=fun k=>k≤w.heap.size) fun k _ hx=>by have h1:=row_lt HRW.out;have h2:=HBk.out.size;have h3:k≤w.heap.size:=hx;omega)
     have HR3:=Lib.hid ((HB3x.out.block _ (row_lt HRW.out)).trans HRW.out)
     have HP3:=Lib.hid hp3
     have HB3:=Lib.hid (belowCall HBk.out hb3)
     have HZ3:=Lib.hid hb3.size
     obtain⟨c3,g10,gpg,gf⟩:=hp3.cell0
     have g12:=gpg 1 _ rfl
     have g13:=gpg 2 _ rfl
     have g14:=gpg 3 _ rfl
     have g15:=gpg 4 _ rfl
     have g16:=gpg 5 _ rfl
     have g17:=gpg 6 _ rfl
     have p12:=gf 12 (by simp)
     have p13:=gf 13 (by simp)
     have p14:=gf 14 (by simp)
     have p15:=gf 15 (by simp)
     have p16:=gf 16 (by simp)
     have p17:=gf 17 (by simp)
     clear hnc hb3 hp3 gpg gf))
  all_goals
   rw[HQE.out]at g10
   have p10:=HP3.out.cell0.2.2.2 10 (by simp)
   have HK4:=Lib.hid (set6_keeps (F:=fun k=>k=E.bb) (g:=E.bb) (o:=12) (.int .i64 f0) (.int .i64 f1) (.string f2) (.slice f3 f4 f5) (.string f6) (.slice f7 f8 f9) (Keeps.refl _ w3) (.inl rfl))
   have HKo:=Lib.hid ((HKW.out.trans (Keeps.ofBelow HB3.out)).trans (HK4.out.mono fun k _ hx=> .inl (.inr hx)))
   have HR4:=Lib.hid ((HK4.out.block _ (row_lt HR3.out) hne).trans HR3.out)
   have HN4:=Lib.hid (HN3.out.kept (HK4.out.mono fun k _ hx=>by have h1:k=E.bb:=hx;show k≤w.heap.size;omega))
   have HDp:=Lib.hid (bdepth_any 1000000 pn _ _ HSm1.out.1 (by decide) (HN4.out.other fun _ _ hx=>hx.elim))
   unfold nodeV at HDp
   rw[←HDD.out]at HDp
   clear HD0 HP HPk HPg HSm HCe HBE HRow HOe HOB d10 d11 g10
   have HAf:=Lib.hid (fun u (hb:Below (set6 w3 E.bb 12 (.int .i64 f0) (.int .i64 f1) (.string f2) (.slice f3 f4 f5) (.string f6) (.slice f7 f8 f9)).heap.size (set6 w3 E.bb 12 (.int .i64 f0) (.int .i64 f1) (.string f2) (.slice f3 f4 f5) (.string f6) (.slice f7 f8 f9)) u)=>HQE.out▸HP3.out.after hb)
   have HKo5:=Lib.hid (fun u (hb:Below (set6 w3 E.bb 12 (.int .i64 f0) (.int .i64 f1) (.string f2) (.slice f3 f4 f5) (.string f6) (.slice f7 f8 f9)).heap.size (set6 w3 E.bb 12 (.int .i64 f0) (.int .i64 f1) (.string f2) (.slice f3 f4 f5) (.string f6) (.slice f7 f8 f9)) u)=>HKo.out.trans (Keeps.ofBelow hb))
   have HR5:=Lib.hid (fun u (hb:Below (set6 w3 E.bb 12 (.int .i64 f0) (.int .i64 f1) (.string f2) (.slice f3 f4 f5) (.string f6) (.slice f7 f8 f9)).heap.size (set6 w3 E.bb 12 (.int .i64 f0) (.int .i64 f1) (.string f2) (.slice f3 f4 f5) (.string f6) (.slice f7 f8 f9)) u)=>(hb.block _ (row_lt HR4.out)).trans HR4.out)
   have HN5:=Lib.hid (fun u (hb:Below (set6 w3 E.bb 12 (.int .i64 f0) (.int .i64 f1) (.string f2) (.slice f3 f4 f5) (.string f6) (.slice f7 f8 f9)).heap.size (set6 w3 E.bb 12 (.int .i64 f0) (.int .i64 f1) (.string f2) (.slice f3 f4 f5) (.string f6) (.slice f7 f8 f9)) u)=>HN4.out.kept (Keeps.ofBelow hb))
   clear HP3 HKo HR4 HN4 HK4 HR3 HN3
   go_wp2_with (first
    |(go_at_call 10;go_must (refine HDp.out.mono ?_;rintro e w5 ⟨rfl,hb5⟩;obtain⟨x10,y10, -⟩:=HAf.out _ hb5;have HF:=Lib.hid (fail_raw E.bb 44 w5 x10 y10);have hrw2:=(heap_setCell_other w5 ⟨E.bb,10,none⟩ w.heap.size (.int .i64 44) hne).trans (HR5.out _ hb5);obtain⟨⟨z0,z1,z2,z3,z4,z5⟩,t0,t1,t2,t3,t4,t5⟩:=cells6 hrw2;have HR6:=Lib.hid (put6_drew (.int .i64 0) (.int .i64 0) (.string ⟨#[]⟩) (.slice none 0 0) (.string ⟨#[]⟩) (.slice none 0 0) hrw2);have HK6:=Lib.hid (put6_drew_keeps (O:=w.heap.size) (.int .i64 0) (.int .i64 0) (.string ⟨#[]⟩) (.slice none 0 0) (.string ⟨#[]⟩) (.slice none 0 0) ((HKo5.out _ hb5).set (p:=⟨E.bb,10,none⟩) (.inl (.inl (.inr rfl))) (.int .i64 44)) (.inr (Nat.le_refl _)));clear hb5 hrw2))
    |(go_at_call 34;go_must (refine HF.out.mono ?_;rintro e w6 ⟨rfl,rfl⟩)))
   go_region
   all_goals
    go_wp2_with fail
    refine bodyPost_ret (ret_node rfl _ _ w.heap.size _ _ _ _ (.int .i64 44) (by rfl) (by rfl) HR6.out Tryz.underlying26 rfl size_out) rfl ?_
    exact⟨_,rfl,empty_node,oe_keeps HK6.out⟩
 ·have hdi: ¬(32:Int)<(d:Int):=by omega
  rw[if_neg hdp,if_pos rfl]
  go_enter Tryz.func20,Tryz.ntmps20
  go_wp2_with (go_at_call 31;go_must (refine HD.out.mono ?_;rintro e wd ⟨rfl,hd⟩;obtain⟨E3,i,hOB,hPG⟩:=HPg.out _ hd;obtain⟨x10,xpg,yf⟩:=HCe.out _ _ _ hd;have x11:=xpg 0 (.bool false) (by rw[HPG.out];rfl);rw[Nat.add_zero]at x11;rw[HQE.out]at x10;have y11:=yf 11 (by rw[HPG.out];simp);have HP:=Lib.hid hPG;have HW:=Lib.hid hd;have HOB:=Lib.hid hOB;obtain⟨c0, -⟩:=hPG.cell0;have HD0:=Lib.hid (hPG.world (Below.refl _ _).drew);have HRW:=Lib.hid ((heap_setCell_other wd ⟨E.bb,11,none⟩ w.heap.size (.bool true) hne).trans (HRow.out _ hd.keep));have HKW:=Lib.hid ((HOe.out _ hd.keep).set (p:=⟨E.bb,11,none⟩) (.inl (.inl (.inr rfl))) (.bool true));have HSm1:=Lib.hid (HSm.out _ hd);rw[←HPN.out]at HSm1;clear hd xpg yf hPG hOB))
  go_region_law (first
   |(go_simp;go_at_call 33;refine HD0.out.kids.mono ?_
     rintro e wk ⟨kb,ko,kn,kc,rfl,kn1,kn2,kn3,k0,hbk,hpk⟩
     have HPk:=Lib.hid hpk
     have HBk:=Lib.hid (belowCall (Below.refl _ _).drew hbk)
     obtain⟨ck, -⟩:=hpk.cell0
     have kn0:(0:Int)<(kn:Int):=by omega
     have kn4:0<kn:=kn1
     clear hpk hbk)
   |(go_simp;go_at_call 32;refine HPk.out.read.mono ?_
     rintro e w3 ⟨f0,f1,f2,f3,f4,f5,f6,f7,f8,f9,rfl,hnc,hb3,hp3⟩
     have HB3x:=Lib.hid (belowCall HBk.out hb3)
     rw[←HPN.out]at hnc
     have HN3:=Lib.hid (hnc.other (G:=fun k=>k≤w.heap.size) fun k _ hx=>by have h1:=row_lt HRW.out;have h2:=HBk.out.size;have h3:k≤w.heap.size:=hx;omega)
     have HR3:=Lib.hid ((HB3x.out.block _ (row_lt HRW.out)).trans HRW.out)
     have HP3:=Lib.hid hp3
     have HB3:=Lib.hid (belowCall HBk.out hb3)
     have HZ3:=Lib.hid hb3.size
     obtain⟨c3,g10,gpg,gf⟩:=hp3.cell0
     have g12:=gpg 1 _ rfl
     have g13:=gpg 2 _ rfl
     have g14:=gpg 3 _ rfl
     have g15:=gpg 4 _ rfl
     have g16:=gpg 5 _ rfl
     have g17:=gpg 6 _ rfl
     have p12:=gf 12 (by simp)
     have p13:=gf 13 (by simp)
     have p14:=gf 14 (by simp)
     have p15:=gf 15 (by simp)
     have p16:=gf 16 (by simp)
     have p17:=gf 17 (by simp)
     clear hnc hb3 hp3 gpg gf))
  all_goals
   rw[HQE.out]at g10
   have p10:=HP3.out.cell0.2.2.2 10 (by simp)
   have HK4:=Lib.hid (set6_keeps (F:=fun k=>k=E.bb) (g:=E.bb) (o:=12) (.int .i64 f0) (.int .i64 f1) (.string f2) (.slice f3 f4 f5) (.string f6) (.slice f7 f8 f9) (Keeps.refl _ w3) (.inl rfl))
   have HKo:=Lib.hid ((HKW.out.trans (Keeps.ofBelow HB3.out)).trans (HK4.out.mono fun k _ hx=> .inl (.inr hx)))
   have HR4:=Lib.hid ((HK4.out.block _ (row_lt HR3.out) hne).trans HR3.out)
   have HN4:=Lib.hid (HN3.out.kept (HK4.out.mono fun k _ hx=>by have h1:k=E.bb:=hx;show k≤w.heap.size;omega))
   have HDp:=Lib.hid (bdepth_any 1000000 pn _ _ HSm1.out.1 (by decide) (HN4.out.other fun _ _ hx=>hx.elim))
   unfold nodeV at HDp
   rw[←HDD.out]at HDp
   clear HD0 HP HPk HPg HSm HCe HBE HRow HOe HOB d10 d11 g10
   have HAf:=Lib.hid (fun u (hb:Below (set6 w3 E.bb 12 (.int .i64 f0) (.int .i64 f1) (.string f2) (.slice f3 f4 f5) (.string f6) (.slice f7 f8 f9)).heap.size (set6 w3 E.bb 12 (.int .i64 f0) (.int .i64 f1) (.string f2) (.slice f3 f4 f5) (.string f6) (.slice f7 f8 f9)) u)=>HQE.out▸HP3.out.after hb)
   have HKo5:=Lib.hid (fun u (hb:Below (set6 w3 E.bb 12 (.int .i64 f0) (.int .i64 f1) (.string f2) (.slice f3 f4 f5) (.string f6) (.slice f7 f8 f9)).heap.size (set6 w3 E.bb 12 (.int .i64 f0) (.int .i64 f1) (.string f2) (.slice f3 f4 f5) (.string f6) (.slice f7 f8 f9)) u)=>HKo.out.trans (Keeps.ofBelow hb))
   have HR5:=Lib.hid (fun u (hb:Below (set6 w3 E.bb 12 (.int .i64 f0) (.int .i64 f1) (.string f2) (.slice f3 f4 f5) (.string f6) (.slice f7 f8 f9)).heap.size (set6 w3 E.bb 12 (.int .i64 f0) (.int .i64 f1) (.string f2) (.slice f3 f4 f5) (.string f6) (.slice f7 f8 f9)) u)=>(hb.block _ (row_lt HR4.out)).trans HR4.out)
   have HN5:=Lib.hid (fun u (hb:Below (set6 w3 E.bb 12 (.int .i64 f0) (.int .i64 f1) (.string f2) (.slice f3 f4 f5) (.string f6) (.slice f7 f8 f9)).heap.size (set6 w3 E.bb 12 (.int .i64 f0) (.int .i64 f1) (.string f2) (.slice f3 f4 f5) (.string f6) (.slice f7 f8 f9)) u)=>HN4.out.kept (Keeps.ofBelow hb))
   have HCl:=Lib.hid (fun u (hn:NodeC (fun k=>k≤w.heap.size) u (nodeV f0 f1 f2 f3 f4 f5 f6 f7 f8 f9) pn)=>clone_any 1000000 pn u _ HSm1.out.1 (by decide) HSm1.out.2 (hn.other fun _ _ hx=>hx.elim))
   unfold nodeV at HCl
   clear HP3 HKo HR4 HN4 HK4 HR3 HN3
   go_wp2_with (first
    |(go_at_call 10;go_must (refine HDp.out.mono ?_;rintro e w5 ⟨rfl,hb5⟩;obtain⟨x10,y10,x12,x13,x14,x15,x16,x17⟩:=HAf.out _ hb5;have HB5:=Lib.hid hb5;have HN6:=Lib.hid (HN5.out _ hb5);clear hb5))
    |(go_at_call 35;go_must (refine(HCl.out _ HN6.out).mono ?_;rintro e w6 ⟨ds,rfl,hnd,hb6⟩;obtain⟨g0,g1,g2,g3,g4,g5,g6,g7,g8,g9,rfl⟩:=nodeC_form hnd;have HN7:=Lib.hid hnd;have hrw2:=(hb6.block _ (row_lt (HR5.out _ HB5.out))).trans (HR5.out _ HB5.out);obtain⟨⟨z0,z1,z2,z3,z4,z5⟩,t0,t1,t2,t3,t4,t5⟩:=cells6 hrw2;have HR6:=Lib.hid (fun x0 x1 x2 x3 x4 x5=>put6_heap x0 x1 x2 x3 x4 x5 hrw2);have HK6:=Lib.hid (fun x0 x1 x2 x3 x4 x5=>put6_keeps (O:=w.heap.size) x0 x1 x2 x3 x4 x5 ((HKo5.out _ HB5.out).trans (Keeps.ofBelow hb6)) (.inr (Nat.le_refl _)));have HZ6:=Lib.hid (row_lt (HR5.out _ HB5.out));unfold nodeV;clear hb6 hrw2 hnd)))
   refine bodyPost_ret (ret_node rfl _ _ w.heap.size _ _ _ _ (.int .i64 0) (by rfl) (by rfl) (HR6.out _ _ _ _ _ _) Tryz.underlying26 rfl size_out) rfl ?_
   refine⟨_,rfl,?_,oe_keeps (HK6.out _ _ _ _ _ _)⟩
   exact(HN7.out.kept (put6_keeps (F:=fun k=>k<w5.heap.size) (O:=w.heap.size) _ _ _ _ _ _ (Keeps.refl _ w6) (.inl HZ6.out))).other fun k _ hx=>by have h1:=HZ6.out;have h2:k<w.heap.size:=hx;show k<w5.heap.size;omega
end
end
end Go.Proofs.YtgepobccoffnaaaGreatDoor
