/- Texts joined for a claim: CuY: plain laws and contracts. No conditions beyond those that each lemma types. -/
import Derived.Test.YtgepobccoffnaaaGreatDoorT28
import Derived.Test.YtgepobccoffnaaaGreatDoorT29
set_option linter.unusedVariables false
set_option linter.unusedSimpArgs false
set_option maxRecDepth 100000
set_option maxHeartbeats 8000000
namespace Go.Proofs.YtgepobccoffnaaaGreatDoor
open Go.RowKit Mem
section
theorem far_wf {F:Nat→Prop} {T:TreeD} (h:WF T):WF (farW F T):=⟨h.pos,h.root,h.par,h.kid,h.mem,h.nodup,(by
 obtain⟨r,hr⟩:=h.rank
 exact⟨r,hr⟩),h.holds⟩
def newB:BuD:=⟨⟨⟨[rootN],1000,noFar⟩,[],[]⟩,false,0,0,0,⟨#[]⟩,false,0,⟨#[]⟩,0,0⟩
def page0:List Value:= [.bool false,.int .i64 0,.int .i64 0,.string ⟨#[]⟩,.slice none 0 0,.string ⟨#[]⟩,.slice none 0 0]
theorem newB_ok:Ok 0 0 newB:=by
 refine⟨⟨fun _ h=>absurd h (by simp[newB]),fun x=>by simp[newB],fun _ h=>absurd h (by simp[newB]),fun x _=>by simp[newB]⟩,by simp[newB],⟨by simp[newB],rfl⟩,by simp[newB],fun _=>by simp[newB],⟨fits_none (by decide),fun d hd=> ?_⟩⟩
 simp only[newB,List.mem_singleton]at hd
 subst hd
 exact fits_none (by decide)
theorem newB_md:MD newB:=fun h=>by cases h
section
variable {E:BE} {ws w w':World} {c c':Nat} {s s':Int} {b b':BuD} {m m':BMark} {a:Option Addr} {ac:Nat}
theorem Bld.fresh (h:Bld E ws c 0 b w) (he:b.err=0):Bld E ws 1001 0 b w:=⟨h.bm,h.keep,h.ok.fresh he⟩
theorem Bld.cells (h:Bld E ws c s b w):w.cell? ⟨E.bb,0,none⟩=some (.pointer (some ⟨E.tb,0,none⟩))∧w.cell? ⟨E.bb,8,none⟩=some (.int .i64 b.raw)∧w.cell? ⟨E.bb,9,none⟩=some (.string b.name)∧w.cell? ⟨E.bb,10,none⟩=some (.int .i64 b.err)∧ ∀j v,E.pg[j]?=some v→w.cell? ⟨E.bb,11+j,none⟩=some v:=by
 have hr:=h.bm.row
 refine⟨hr.cell (j:=0) rfl,hr.cell (j:=8) rfl,hr.cell (j:=9) rfl,hr.cell (j:=10) rfl,fun j v hv=>hr.cell (j:=11+j) ?_⟩
 show(buV E b)[11+j]?=_
 unfold buV
 rw[show 11+j=j+11 by omega]
 simpa using hv
theorem Bld.frozen (h:Bld E ws c s b w) (j:Nat) (hj:j<11+E.pg.length):w.frozen? ⟨E.bb,j,none⟩=false:=h.bm.row.frozen (by simp[buV];omega)
theorem MA.world {F:Nat→Prop} (h:MA F w m a ac) (hb:Below w.heap.size w w'):MA F w' m a ac:=⟨h.att.kept (Keeps.ofBelow hb),h.nil,h.alen,h.ash,h.tlen,h.nlen⟩
noncomputable def BuD.DoF (b:BuD) (m:BMark):BuD:=if b.err=0 then b.doF m else b
theorem Do_any (h:Bld E ws c 0 b w) {cs:List Value} (hp:E.pg= .bool false::cs) (hm:MA (OB E) w m a ac) (hc:c≤10100) (hl:uw b+m.text.size≤4611686018427387904) (hmd:MD b) :
 Calls Tryz.prog 21 #[.pointer (some ⟨E.bb,0,none⟩),markA m.kind m.name a m.attrs.length ac m.self m.text] w fun r w'=>r= .returned (.int .i64 (b.DoF m).err)∧Bld E ws 10100 0 (b.DoF m) w':=by
 have hb1:=(Below.refl w.heap.size w).alloc (Nat.le_refl _) (.cells #[.int .i64 m.kind,.string m.name,.slice a m.attrs.length ac,.bool m.self,.string m.text] 38)
 have h1:=h.world hb1
 obtain⟨-, -, -,d10,hpg⟩:=h1.cells
 have d11:=hpg 0 _ (by rw[hp];rfl)
 rw[Nat.add_zero]at d11
 have HV:=Lib.hid (BuD.DoF.eq_1 b m)
 by_cases he:b.err=0
 ·have HD:=Lib.hid (do_any (h1.fresh he) (hm.world hb1) (Nat.le_refl _) hl hmd)
  rw[he]at d10
  have HQ:Hid (b.DoF m=b.doF m):=Lib.hid (by rw[HV.out,if_pos he])
  rw[HQ.out]
  generalize b.doF m=Q at HD
  clear hpg h1 h hm hl hmd hb1 HV HQ he hp
  go_enter Tryz.func21,Tryz.ntmps21
  go_wp2_with (go_at_call 31;go_must (refine HD.out.mono ?_;rintro e w1 ⟨rfl,h1⟩;have H1:=Lib.hid h1;obtain⟨-, -, -,g10, -⟩:=h1.cells;clear h1))
  go_ret
  exact⟨rfl,H1.out⟩
 ·have hef:(b.err !=0)=true:=bne_iff_ne.2 he
  have HQ:Hid (b.DoF m=b):=Lib.hid (by rw[HV.out,if_neg he])
  rw[HQ.out]
  have H1:=Lib.hid (h1.more hc (Int.le_refl 0))
  clear hpg h1 h hm hl hmd hb1 HV HQ he hp
  go_enter Tryz.func21,Tryz.ntmps21
  go_wp2_with fail
  go_ret
  exact⟨rfl,H1.out⟩
theorem top_bld (h:Bld E ws c s b w):Calls Tryz.prog 36 #[.pointer (some ⟨E.bb,0,none⟩)] w fun r w'=> ∃v,r= .returned (.tuple #[.int .i64 b.tops,.string b.topn,v])∧Below w.heap.size w w':=by
 have HS:=Lib.hid h
 have HSd:=Lib.hid (h.world (Below.refl w.heap.size w).drew)
 have HT:=Lib.hid (STop_li HSd.out.bm.li)
 have d0:=h.bm.row.cell (j:=0) rfl
 have d1:=h.bm.row.cell (j:=1) rfl
 clear h
 have HX:Hid (b.S.l.getLast?.getD 0=b.top):=Lib.hid rfl
 rw[HX.out]at HT
 obtain⟨x,hx⟩: ∃x,x=b.top:=⟨_,rfl⟩
 have HW:=Lib.hid fun u (hu:Below w.heap.size w u)=>What_li (HS.out.bm.li.world hu) x
 have HTS:Hid (b.tops=spaceQ b.S.T x∧b.topn=nameQ b.S.T x):=Lib.hid (by rw[hx];exact⟨rfl,rfl⟩)
 rw[HTS.out.1,HTS.out.2]
 rw[←hx]at HT
 clear hx HX HTS
 go_enter Tryz.func36,Tryz.ntmps36
 go_wp2_with fail
 go_region_law (first
  |(go_simp;go_at_call 50;refine HT.out.mono ?_
    rintro e w2 ⟨rfl,q,rfl⟩
    have HB2:=Lib.hid (stk_drewN w (1+q)))
  |(go_simp;go_at_call 49;refine(HW.out _ HB2.out).mono ?_
    rintro e w3 ⟨v,rfl,ho,hb⟩
    have HB3:=Lib.hid (belowCall HB2.out hb)
    clear ho hb))
 all_goals
  simp only[Act.put,List.getElem_toArray,List.getElem_cons_succ,List.getElem_cons_zero,List.setIfInBounds_toArray,List.set_cons_zero,List.set_cons_succ]
  go_wp2_with fail
  go_ret3
  exact⟨_,rfl,HB3.out⟩
theorem Reads_any (h:Bld E ws c s b w):Calls Tryz.prog 22 #[.pointer (some ⟨E.bb,0,none⟩)] w fun r w'=>r= .returned (.tuple #[.int .i64 b.raw,.string b.name,.bool (b.tops !=0)])∧Below w.heap.size w w':=by
 have HT:=Lib.hid (top_bld h)
 have HB:=Lib.hid h
 clear h
 go_enter Tryz.func22,Tryz.ntmps22
 go_wp2_with (go_at_call 36;go_must (refine HT.out.mono ?_;rintro e w1 ⟨v,rfl,hb⟩;obtain⟨-,d8,d9, -, -⟩:=(HB.out.world hb).cells;have HB1:=Lib.hid hb;clear hb))
 refine wp_region_calm (by kernel_rfl) (by kernel_rfl) ?_
 repeat
  with_reducible refine wpQuiet_step (fun K hK=> ?_)
  first
   |(with_reducible apply calm_skip
     ·rfl
     simp only[Act.put,List.setIfInBounds_toArray,List.set_cons_zero,List.set_cons_succ]
     refine hK _ ?_
     clear hK K)
   |(with_reducible apply calm_run
     ·rfl
     ·intro wq hC
      have zd8:=cell_later hC.out d8
      have zd9:=cell_later hC.out d9
      unfold Oper.quietAt
      go_simp
      first|done|with_reducible rfl|rfl
     simp only[Act.put,List.setIfInBounds_toArray,List.set_cons_zero,List.set_cons_succ]
     refine hK _ ?_
     clear hK K)
 with_reducible refine wpQuiet_nil ?_
 intro wq HQ
 have zd8:=cell_later HQ.out d8
 have zd9:=cell_later HQ.out d9
 have HB2:=Lib.hid (belowCall HB1.out HQ.out)
 go_wp2_with fail
 go_ret3
 exact⟨rfl,HB2.out⟩
theorem New_far (most:Int) (w:World):Calls Tryz.prog 27 #[.int .i64 most] w fun e w' =>
 ∃tb g,e= .returned (.pointer (some ⟨tb,0,none⟩))∧TreeO w' tb g (farW (fun k=>k<w.heap.size) ⟨[rootN],most,noFar⟩)∧w.heap.size≤tb∧w.heap.size≤g∧Below w.heap.size w w':=by
 go_enter Tryz.func27,Tryz.ntmps27
 go_wp2
 go_ret
 refine⟨w.heap.size+1,w.heap.size,ret_eq (by simp),?_,by omega,by omega,?_⟩
 ·refine⟨1,[cells7 rootN none 0 none 0],by omega,heap_new_at (by simp),?_,rfl,?_,fun k hk=> ?_⟩
  ·refine own_below (w:=w.alloc _) (World.ownsRow_lit w (cells7 rootN none 0 none 0).toArray 1 (Nat.zero_le _) (by decide) rfl) ((Below.refl _ _).alloc (Nat.le_refl _) _)
  ·intro i h h'
   simp at h
   subst h
   exact⟨none,0,none,0,rfl,Nat.le_refl _,by decide,fun _=>rfl,Nat.le_refl _,by decide,.inl ⟨rfl,rfl⟩,fun j u hj=>by simp[farW,rootN,pairsV]at hj,fun j u hj=>by simp[farW,rootN,intsV]at hj⟩
  ·have hk':k<w.heap.size:=hk
   refine⟨by simp;omega,?_,?_⟩ <;>omega
 ·exact((Below.refl _ _).alloc (Nat.le_refl _) _).alloc (by simp) _
theorem stack_far {w0 w:World} {B tb g:Nat} {T:TreeD} {F ex:Nat→Prop} (h:TI w0 B tb (farW F T) g w) (hx: ∀k,ex k→F k):Calls Tryz.prog 28 #[.pointer (some ⟨tb,0,none⟩)] w fun e w'=> ∃sb,e= .returned (.pointer (some ⟨sb,0,none⟩))∧SI w0 B tb sb ex T [] w'∧w.heap.size≤sb∧Below w.heap.size w w':=by
 refine(stk_new w tb).mono ?_
 rintro e w' ⟨he,hs,hb,hlt⟩
 refine⟨w.heap.size,he,⟨g,none,fun k=>F k∨k=w.heap.size,?_,hs,?_,fun k hk=> .inl (hx k hk),Nat.zero_le _⟩,Nat.le_refl _,hb⟩
 ·have hw:=h.wf
  refine⟨h.tree.foreign (F:=fun _=>False) (Keeps.ofBelow hb) (fun _ h=>h.elim) fun k hk=> ?_,⟨hw.pos,hw.root,hw.par,hw.kid,hw.mem,hw.nodup,(by
   obtain⟨r,hr⟩:=hw.rank
   exact⟨r,hr⟩),hw.holds⟩,h.below.trans (hb.mono h.below.size),h.htb,h.hg,h.len,h.most,h.att,h.txt⟩
  rcases hk with hk|hk
  ·exact⟨.inl hk,Nat.lt_of_lt_of_le (h.tree.far_lt k hk).1 hb.size⟩
  ·exact⟨.inr (Nat.le_of_eq hk.symm),by omega⟩
 ·rintro k (rfl|hk)
  ·exact⟨.inr rfl,h.below.size,fun h'=>by have:=(h.tree.far_lt _ (hx _ h')).1;omega⟩
  ·cases hk
theorem new_ti (w0 w:World) (hb:Below w0.heap.size w0 w):Calls Tryz.prog 27 #[.int .i64 1000] w fun e w' =>
 ∃tb g,e= .returned (.pointer (some ⟨tb,0,none⟩))∧TI w0 0 tb (farW (fun k=>k<w.heap.size) ⟨[rootN],1000,noFar⟩) g w'∧Below w.heap.size w w':=by
 refine(New_far 1000 w).mono ?_
 rintro e w' ⟨tb,g,he,hT,h1,h2,hb1⟩
 have hs:=hb.size
 refine⟨tb,g,he,⟨hT,far_wf (root_wf 1000),belowCall hb hb1,by omega,by omega,by simp[farW],by simp[farW],?_,?_⟩,hb1⟩
 ·intro d hd
  simp only[farW,List.mem_singleton]at hd
  subst hd
  exact Nat.zero_le _
 ·intro d hd
  simp only[farW,List.mem_singleton]at hd
  subst hd
  exact Nat.le_refl _
theorem New_bld (w0 w:World) (hb:Below w0.heap.size w0 w):Calls Tryz.prog 18 #[] w fun r w'=> ∃E:BE,E.w0=w0∧E.pg=page0∧r= .returned (.pointer (some ⟨E.bb,0,none⟩))∧Bld E w' 0 0 newB w'∧Below w.heap.size w w'∧(∀k,E.ex k↔(w0.heap.size≤k∧k<w.heap.size)∨k=E.bb)∧w.heap.size≤E.bb:=by
 have HN:=Lib.hid (new_ti w0 w hb)
 have HW:=Lib.hid hb
 clear hb
 go_enter Tryz.func18,Tryz.ntmps18
 go_wp2_with (first
  |(go_at_call 27;go_must (refine HN.out.mono ?_;rintro e w1 ⟨tb,g,rfl,hT,hb1⟩;have HT:=Lib.hid hT;have HB1:=Lib.hid hb1;clear hT hb1))
  |(go_at_call 28;go_must (refine(stack_far (ex:=fun k=>w0.heap.size≤k∧k<w.heap.size) HT.out (fun k hk=>hk.2)).mono ?_;rintro e w2 ⟨sb,rfl,hS, -,hb2⟩;have HS:=Lib.hid hS;have HB2:=Lib.hid (belowCall HB1.out hb2);clear hS hb2))
  |(go_at_call 29;go_must (refine(new_li HS.out).mono ?_;rintro e w3 ⟨lb,rfl,hL,hb3⟩;have HL:=Lib.hid hL;have HB3:=Lib.hid (belowCall HB2.out hb3);clear hL hb3)))
 go_ret
 have hlay:=HL.out.lay (.cells #[.pointer (some ⟨tb,0,none⟩),.pointer (some ⟨sb,0,none⟩),.pointer (some ⟨lb,0,none⟩),.int .i64 0,.int .i64 0,.int .i64 0,.string ⟨#[]⟩,.bool false,.int .i64 0,.string ⟨#[]⟩,.int .i64 0,.bool false,.int .i64 0,.int .i64 0,.string ⟨#[]⟩,.slice none 0 0,.string ⟨#[]⟩,.slice none 0 0] 70)
 have hsz:=HB3.out.size
 have hw0:=HW.out.size
 refine⟨⟨w0,tb,sb,lb,w3.heap.size,0,fun k=>(w0.heap.size≤k∧k<w.heap.size)∨k=w3.heap.size,page0,none,0⟩,rfl,rfl,rfl,⟨⟨hlay,Row.alloc _ _ _,.inr rfl,by show w0.heap.size≤w3.heap.size;omega⟩,Keeps.refl _ _,newB_ok⟩,HB3.out.alloc hsz _,fun k=>Iff.rfl,hsz⟩
end
end
end Go.Proofs.YtgepobccoffnaaaGreatDoor
