/- Texts joined for a claim: RMkLj: plain laws and contracts. No conditions beyond those that each lemma types. -/
import Derived.Test.YtgepobccoffnaaaGreatDoorT37
set_option linter.unusedVariables false
set_option linter.unusedSimpArgs false
set_option maxRecDepth 100000
set_option maxHeartbeats 8000000
namespace Go.Proofs.YtgepobccoffnaaaGreatDoor.Rd
open Go.RowKit Mem
structure LiteM (m:MkM):Prop where
 pass:m.pass=0
 err:m.err=0
 tags:TagAt m
 shut:(textF m m.buf).1= []→(textF m m.buf).2.2=1∨((textF m m.buf).2.2=2∧ ∃q,ShutAt ((textF m m.buf).2.1.take 2049) 1 q)∨((textF m m.buf).2.2=3∧ ∃q,ShutAt ((textF m m.buf).2.1.take 2049) 2 q)
theorem LiteM.loud {m:MkM} (h:LiteM m):(oneF m).2.1=true∨(oneF m).2.2.1=true:=by
 have hs:=h.shut
 unfold oneF
 rw[if_pos h.pass]
 unfold stepF
 generalize textF m m.buf=p at *
 simp only
 by_cases ht:p.1= []
 ·rw[if_neg (fun hh=>hh ht)]
  rcases hs ht with h1|⟨h1, -⟩|⟨h1, -⟩ <;>rw[h1]
  ·right;rfl
  ·exact tagF_loud _ _
  ·exact tagF_loud _ _
 ·rw[if_pos ht]
  exact .inl rfl
theorem step_lite (m:MkM) (b:Nat) (w:World) (hr:Row w b (machV m)) (hl:m.buf.length≤4294967280) (hL:LiteM m) :
 Calls Tryz.prog 42 #[.pointer (some ⟨b,0,none⟩)] w fun r w'=>OutAt w.heap.size (stepF m) r w'∧Row w' b (machV (stepF m).2.2.2)∧Keeps (Only b) w w':=by
 have hbw:=hr.lt
 have hne:w.heap.size≠b:=by omega
 obtain⟨o,ho⟩: ∃o,o=stepF m:=⟨_,rfl⟩
 rw[←ho]
 unfold stepF at ho
 have hk0:=hL.shut
 have hln:(textF m m.buf).2.1.length≤m.buf.length:=(textF_spec m _ m.buf (Nat.le_refl _)).1.length_le
 have HRA:Hid (Row (w.alloc (.cells zeroMark 38)) b (machV m)):=hr.kept (heap_alloc_old w _ hbw)
 have HTX:=Lib.hid (text_lite m b (w.alloc (.cells zeroMark 38)) HRA.out hl hL.tags)
 generalize textF m m.buf=p at *
 obtain⟨t,buf,is⟩:=p
 simp only at ho hk0 hln HTX
 obtain⟨m1,hm1⟩: ∃m1,m1=({m with buf:=buf}:MkM):=⟨_,rfl⟩
 have hb1:m1.buf=buf:=by rw[hm1]
 rw[←hm1]at ho HTX
 have HK0:=Lib.hid hk0
 clear hk0
 go_enter Tryz.func42,Tryz.ntmps42
 go_wp2_with fail
 refine HTX.out.mono ?_
 rintro r W1 ⟨rfl,r1,k1⟩
 have HZ1:=Lib.hid (only_zero (heap_alloc_new w (.cells zeroMark 38)) k1 (by simp) hne)
 have HK1:=Lib.hid (keeps_alloc k1)
 have HR1:=Lib.hid r1
 have hz1:w.heap.size<W1.heap.size:=Nat.lt_of_lt_of_le (by simp) k1.size
 obtain⟨⟨q0,q1,q2,q3,q4⟩,f0,f1,f2,f3,f4⟩:=res_cells HZ1.out
 have hc0:=(mach_row r1).1
 rw[hb1]at hc0
 obtain⟨g0, -, -, -, -, -,g6,g7,g8, -⟩:=mach_free r1
 obtain⟨-, -, -, -, -, -,c6,c7,c8, -⟩:=mach_row r1
 have hbz:(strB buf).size=buf.length:=strB_size _
 clear k1 r1
 by_cases ht:t= []
 ·subst ht
  rw[if_neg (fun h=>h rfl)]at ho
  have hte:(strB ([]:Str)).toList.isEmpty=true:=by rw[toList_strB];rfl
  rcases HK0.out rfl with i1|⟨i2,q,hsh⟩|⟨i3,q,hsh⟩
  ·subst i1
   rw[if_neg (by decide),if_neg (by decide),if_neg (by decide),if_neg (by decide),if_neg (by decide),if_neg (by decide),if_neg (by decide)]at ho
   have HO:=Lib.hid ho
   clear ho
   dsimp only
   go_wp2_with fail
   refine bodyPost_ret (results_mark rfl _ _ w.heap.size _ _ _ _ rfl (put5_at HZ1.out _ _ _ _ _) Tryz.underlying38 rfl mark_info) rfl ?_
   rw[HO.out]
   exact⟨⟨.slice none 0 0,ret_eq rfl,World.ownsRow_nil _ _ _ _⟩,put5_row HR1.out (fun e=>hne e.symm) _ _ _ _ _,put5_keeps HK1.out (Nat.le_refl _) _ _ _ _ _⟩
  ·subst i2
   rw[if_pos rfl]at ho
   have HTG:=Lib.hid (tag_lite m1 b false W1 HR1.out (by rw[hb1];omega) q (by rw[hb1];exact hsh))
   have HO:=Lib.hid ho
   clear ho hm1 hsh
   dsimp only
   go_wp2_with fail
   refine HTG.out.mono ?_
   rintro r W2 ⟨⟨sl,rfl,hown⟩,r2,k2⟩
   obtain⟨a,c,hsl, -⟩:=own_at hown
   subst hsl
   have HZ2:=Lib.hid (only_zero HZ1.out k2 hz1 hne)
   have HK2:=Lib.hid (HK1.out.trans k2)
   have HR2:=Lib.hid r2
   have HOW:=Lib.hid hown
   clear q0 q1 q2 q3 q4 f0 f1 f2 f3 f4 k2 r2 hown
   obtain⟨⟨q0,q1,q2,q3,q4⟩,f0,f1,f2,f3,f4⟩:=res_cells HZ2.out
   dsimp only[markV]
   go_wp2_with fail
   refine bodyPost_ret (results_mark rfl _ _ w.heap.size _ _ _ _ rfl (put5_at HZ2.out _ _ _ _ _) Tryz.underlying38 rfl mark_info) rfl ?_
   rw[HO.out]
   exact⟨⟨.slice a (tagF m1 false).1.attrs.length c,ret_eq rfl,own_base (own_put5 HOW.out hz1 _ _ _ _ _) (Nat.le_of_lt hz1)⟩,put5_row HR2.out (fun e=>hne e.symm) _ _ _ _ _,put5_keeps HK2.out (Nat.le_refl _) _ _ _ _ _⟩
  ·subst i3
   rw[if_neg (by decide),if_pos rfl]at ho
   have HTG:=Lib.hid (tag_lite m1 b true W1 HR1.out (by rw[hb1];omega) q (by rw[hb1];exact hsh))
   have HO:=Lib.hid ho
   clear ho hm1 hsh
   dsimp only
   go_wp2_with fail
   refine HTG.out.mono ?_
   rintro r W2 ⟨⟨sl,rfl,hown⟩,r2,k2⟩
   obtain⟨a,c,hsl, -⟩:=own_at hown
   subst hsl
   have HZ2:=Lib.hid (only_zero HZ1.out k2 hz1 hne)
   have HK2:=Lib.hid (HK1.out.trans k2)
   have HR2:=Lib.hid r2
   have HOW:=Lib.hid hown
   clear q0 q1 q2 q3 q4 f0 f1 f2 f3 f4 k2 r2 hown
   obtain⟨⟨q0,q1,q2,q3,q4⟩,f0,f1,f2,f3,f4⟩:=res_cells HZ2.out
   dsimp only[markV]
   go_wp2_with fail
   refine bodyPost_ret (results_mark rfl _ _ w.heap.size _ _ _ _ rfl (put5_at HZ2.out _ _ _ _ _) Tryz.underlying38 rfl mark_info) rfl ?_
   rw[HO.out]
   exact⟨⟨.slice a (tagF m1 true).1.attrs.length c,ret_eq rfl,own_base (own_put5 HOW.out hz1 _ _ _ _ _) (Nat.le_of_lt hz1)⟩,put5_row HR2.out (fun e=>hne e.symm) _ _ _ _ _,put5_keeps HK2.out (Nat.le_refl _) _ _ _ _ _⟩
 ·rw[if_pos ht]at ho
  have HO:=Lib.hid ho
  have hte:(strB t).toList.isEmpty=false:=by
   rw[toList_strB]
   cases t with
   |nil=>exact absurd rfl ht
   |cons _ _=>rfl
  clear ho ht hm1
  dsimp only
  go_wp2_with fail
  refine bodyPost_ret (results_mark rfl _ _ w.heap.size _ _ _ _ rfl (put5_at HZ1.out _ _ _ _ _) Tryz.underlying38 rfl mark_info) rfl ?_
  rw[HO.out]
  exact⟨⟨.slice none 0 0,ret_eq rfl,World.ownsRow_nil _ _ _ _⟩,put5_row HR1.out (fun e=>hne e.symm) _ _ _ _ _,put5_keeps HK1.out (Nat.le_refl _) _ _ _ _ _⟩
theorem read_lite (m:MkM) (b:Nat) (w:World) (hr:Row w b (machV m)) (hl:m.buf.length≤4294967280) (hL:LiteM m) :
 Calls Tryz.prog 30 #[.pointer (some ⟨b,0,none⟩)] w fun r w'=>ReadAt w.heap.size (readF m).1 r w'∧Row w' b (machV (readF m).2)∧Keeps (Only b) w w':=by
 have hbw:=hr.lt
 have hne:w.heap.size≠b:=by omega
 obtain⟨o,ho⟩: ∃o,o=readF m:=⟨_,rfl⟩
 rw[←ho]
 have HL:=Lib.hid hL
 have HR0:=Lib.hid hr
 have HHO:=Lib.hid ho
 clear hr ho hL
 go_enter Tryz.func30,Tryz.ntmps30
 go_wp2_with fail
 go_loopg [5] (doM m) (fun g _ wr=> ∃m':MkM,m'=m∧doM m'≤g∧readF m'=o∧m'.name=m.name∧m'.buf.length≤m.buf.length∧Row wr b (machV m')∧wr.heap[w.heap.size]?=some (.cells zeroMark 38 (0,0))∧Keeps (Only b) w wr∧w.heap.size<wr.heap.size)
 case atStart=>exact⟨m,rfl,Nat.le_refl _,HHO.out.symm,rfl,Nat.le_refl _,HR0.out.kept (heap_alloc_old _ _ hbw),heap_alloc_new _ _,(Keeps.refl (Only b) w).alloc _,by simp⟩
 case round =>
  obtain⟨m',hmm,hg,hv,hnm,hbl,hrr,hz,hkk,hzr⟩:=hrel
  have HLM:=Lib.hid (show LiteM m' from by rw[hmm];exact HL.out)
  have HLD:=Lib.hid HLM.out.loud
  clear hmm
  have HV:=Lib.hid hv
  have HRx:=Lib.hid hrr
  have HZ:=Lib.hid hz
  have HKx:=Lib.hid hkk
  obtain⟨-, -, -, -, -, -,hc6, -, -,hc9⟩:=mach_row hrr
  have hbr:=hrr.lt
  have HNM:=Lib.hid hnm
  clear hv hrr hz hkk hnm
  by_cases he:m'.err=0
  ·rw[he]at hc9
   obtain⟨X,hX⟩: ∃X,X=wr.heap.size:=⟨_,rfl⟩
   obtain⟨wa,hwa⟩: ∃wa,wa=wr.alloc (.cells zeroMark 38):=⟨_,rfl⟩
   have HRa:=Lib.hid (show Row wa b (machV m')from hwa▸HRx.out.kept (heap_alloc_old _ _ hbr))
   have HZa:=Lib.hid (show wa.heap[w.heap.size]?=some (.cells zeroMark 38 (0,0))from hwa▸(heap_alloc_old _ _ hzr).trans HZ.out)
   have HXa:=Lib.hid (show wa.heap[X]?=some (.cells zeroMark 38 (0,0))from by rw[hwa,hX];exact heap_alloc_new _ _)
   have HKa:=Lib.hid (show Keeps (Only b) w wa from hwa▸HKx.out.alloc _)
   have hzRa:w.heap.size<wa.heap.size:=by rw[hwa];simp;omega
   have hzXa:X<wa.heap.size:=by rw[hwa,hX];simp
   have hXw:w.heap.size<X:=by omega
   have hbX:b<X:=by omega
   have HWA:Hid (wa=wr.alloc (.cells #[.int .i64 0,.string ⟨#[]⟩,.slice none 0 0,.bool false,.string ⟨#[]⟩] 38)):=hwa
   clear hwa
   have hp:=HLM.out.pass
   rw[hp]at hc6
   have HST:=Lib.hid (step_lite m' b wa HRa.out (by omega) HLM.out)
   rw[show stepF m'=oneF m' from by unfold oneF;rw[if_pos hp]]at HST
   clear HRx HZ HKx
   go_wp2_with fail
   rw[←HWA.out,←hX]
   clear HWA hX hc6 hc9
   refine HST.out.mono ?_
   rintro r W1 ⟨⟨sl,rfl,hown⟩,r2,k2⟩
   obtain⟨a,c,hsl, -⟩:=own_at hown
   subst hsl
   have hXb:X≠b:=by omega
   have HZ1:=Lib.hid (only_zero HZa.out k2 hzRa hne)
   have HX1:=Lib.hid (only_zero HXa.out k2 hzXa hXb)
   have HK1:=Lib.hid (HKa.out.trans k2)
   have HR1:=Lib.hid r2
   have HOW:=Lib.hid hown
   have hz1:w.heap.size<W1.heap.size:=Nat.lt_of_lt_of_le hzRa k2.size
   clear k2 r2 hown
   obtain⟨⟨q0,q1,q2,q3,q4⟩,f0,f1,f2,f3,f4⟩:=res_cells HZ1.out
   obtain⟨⟨y0,y1,y2,y3,y4⟩,z0,z1,z2,z3,z4⟩:=res_cells HX1.out
   have hRX:w.heap.size≠X:=by omega
   dsimp only[markV]
   cases ht:(oneF m').2.1
   ·cases hs:(oneF m').2.2.1
    ·rcases HLD.out with h|h <;>simp only[ht,hs]at h <;>cases h
    ·have HO:=Lib.hid (HV.out.symm.trans (readF_stop he ht hs))
     go_wp2_with fail
     refine bodyPost_ret (results_attr rfl _ _ w.heap.size _ _ _ _ rfl (put5_at ((put5_other hRX _ _ _ _ _).trans HZ1.out) _ _ _ _ _) Tryz.underlying38 rfl mark_info) rfl ?_
     rw[HO.out]
     exact⟨rfl,put5_row (put5_row HR1.out (fun e=>hXb e.symm) _ _ _ _ _) (fun e=>hne e.symm) _ _ _ _ _,put5_keeps (put5_keeps HK1.out (Nat.le_of_lt hXw) _ _ _ _ _) (Nat.le_refl _) _ _ _ _ _⟩
   ·have HO:=Lib.hid (HV.out.symm.trans (readF_told he ht))
    go_wp2_with fail
    refine bodyPost_ret (results_attr rfl _ _ w.heap.size _ _ _ _ rfl (put5_at ((put5_other hRX _ _ _ _ _).trans HZ1.out) _ _ _ _ _) Tryz.underlying38 rfl mark_info) rfl ?_
    rw[HO.out]
    exact⟨⟨.slice a (oneF m').1.attrs.length c,rfl,own_base (own_put5 (own_put5 HOW.out hzXa _ _ _ _ _) hzRa _ _ _ _ _) (Nat.le_of_lt hzRa)⟩,put5_row (put5_row HR1.out (fun e=>hXb e.symm) _ _ _ _ _) (fun e=>hne e.symm) _ _ _ _ _,put5_keeps (put5_keeps HK1.out (Nat.le_of_lt hXw) _ _ _ _ _) (Nat.le_refl _) _ _ _ _ _⟩
  ·exact absurd HLM.out.err he
theorem NextP_lite (m:MkM) (b:Nat) (w:World) (hr:Row w b (machV m)) (hl:m.buf.length≤4294967280) (hL:LiteM m) :
 Calls Tryz.prog 19 #[.pointer (some ⟨b,0,none⟩)] w fun r w'=>NextAt w.heap.size (readF m) r w'∧Row w' b (machV (readF m).2)∧Keeps (Only b) w w':=by
 have hbw:=hr.lt
 have hne:w.heap.size≠b:=by omega
 obtain⟨wa,hwa⟩: ∃wa,wa=w.alloc (.cells zeroMark 38):=⟨_,rfl⟩
 have HRa:=Lib.hid (show Row wa b (machV m)from hwa▸hr.kept (heap_alloc_old _ _ hbw))
 have HZa:=Lib.hid (show wa.heap[w.heap.size]?=some (.cells zeroMark 38 (0,0))from by rw[hwa];exact heap_alloc_new _ _)
 have HKa:=Lib.hid (show Keeps (Only b) w wa from hwa▸(Keeps.refl (Only b) w).alloc _)
 have hzRa:w.heap.size<wa.heap.size:=by rw[hwa];simp
 have HWA:Hid (wa=w.alloc (.cells #[.int .i64 0,.string ⟨#[]⟩,.slice none 0 0,.bool false,.string ⟨#[]⟩] 38)):=hwa
 have HRN:=Lib.hid (readF_name _ m (Nat.le_refl _))
 obtain⟨q,hq⟩: ∃q,q=readF m:=⟨_,rfl⟩
 have HRD:=Lib.hid (read_lite m b wa HRa.out hl hL)
 rw[←hq]at HRN HRD ⊢
 clear hwa hr hq
 go_enter Tryz.func19,Tryz.ntmps19
 go_wp2_with fail
 rw[←HWA.out]
 clear HWA
 refine HRD.out.mono ?_
 rintro r W1 ⟨hra,r1,k1⟩
 clear HRD
 obtain⟨ox,m1⟩:=q
 obtain⟨-, -, -, -, -, -, -, -, -,hc9⟩:=mach_row r1
 dsimp only at hc9 r1
 have HZ1:=Lib.hid (only_zero HZa.out k1 hzRa hne)
 have HK1:=Lib.hid (HKa.out.trans k1)
 have HR1:=Lib.hid r1
 have hbW:=r1.lt
 have hz1:w.heap.size<W1.heap.size:=Nat.lt_of_lt_of_le hzRa k1.size
 obtain⟨⟨q0,q1,q2,q3,q4⟩,f0,f1,f2,f3,f4⟩:=res_cells HZ1.out
 clear k1 r1
 cases ox with
 |none =>
  have hra':r= .returned (.tuple #[.agg #[.int .i64 0,.string ⟨#[]⟩,.slice none 0 0,.bool false,.string ⟨#[]⟩],.bool false]):=hra
  subst hra'
  clear hra
  by_cases he:m1.err=0
  ·have heb:(m1.err !=0)=false:=by rw[he];rfl
   have HE:=Lib.hid he
   clear he
   dsimp only
   go_wp2_with fail
   have hzp:w.heap.size<(put5 W1 w.heap.size (.int .i64 6) (.string ⟨#[]⟩) (.slice none 0 0) (.bool false) (.string ⟨#[]⟩)).heap.size:=by simpa[put5] using hz1
   have hbp:b<(put5 W1 w.heap.size (.int .i64 6) (.string ⟨#[]⟩) (.slice none 0 0) (.bool false) (.string ⟨#[]⟩)).heap.size:=by simpa[put5] using hbW
   refine bodyPost_ret (results_attr rfl _ _ w.heap.size _ _ _ _ rfl ((heap_alloc_old _ _ hzp).trans (put5_at HZ1.out _ _ _ _ _)) Tryz.underlying38 rfl mark_info) rfl ?_
   refine⟨next_none rfl ?_,(put5_row HR1.out (fun e=>hne e.symm) _ _ _ _ _).kept (heap_alloc_old _ _ hbp),(put5_keeps HK1.out (Nat.le_refl _) _ _ _ _ _).alloc _⟩
   rw[HE.out,if_neg (fun h=>h rfl)]
   rfl
  ·have heb:(m1.err !=0)=true:=bne_iff_ne.2 he
   have HE:=Lib.hid he
   clear he
   have hc9':(W1.alloc (.cells #[.int .i64 0,.string ⟨#[]⟩,.slice none 0 0,.bool false,.string ⟨#[]⟩] 38)).cell? ⟨b,9,none⟩=some (.int .i64 m1.err):=cell_later ((Below.refl _ _).alloc (Nat.le_refl _) _) hc9
   dsimp only
   go_wp2_with fail
   go_region
   all_goals go_wp2_with fail
   all_goals
    have hzp:w.heap.size<(put5 W1 w.heap.size (.int .i64 0) (.string ⟨#[]⟩) (.slice none 0 0) (.bool false) (.string ⟨#[]⟩)).heap.size:=by simpa[put5] using hz1
    have hbp:b<(put5 W1 w.heap.size (.int .i64 0) (.string ⟨#[]⟩) (.slice none 0 0) (.bool false) (.string ⟨#[]⟩)).heap.size:=by simpa[put5] using hbW
   all_goals refine bodyPost_ret (results_attr rfl _ _ w.heap.size _ _ _ _ rfl (at_drew ((heap_alloc_old _ _ hzp).trans (put5_at HZ1.out _ _ _ _ _))) Tryz.underlying38 rfl mark_info) rfl ?_
   all_goals refine⟨next_none rfl ?_,row_drew ((put5_row HR1.out (fun e=>hne e.symm) _ _ _ _ _).kept (heap_alloc_old _ _ hbp)),draw_keeps ((put5_keeps HK1.out (Nat.le_refl _) _ _ _ _ _).alloc _) 1⟩
   all_goals rw[if_pos HE.out]
   all_goals rfl
 |some x =>
  obtain⟨sl,rfl,hown⟩: ∃sl,r= .returned (.tuple #[markV sl x,.bool true])∧W1.ownsRow wa.heap.size 57 2 sl x.attrs.length (pairsV (attP x.attrs)):=hra
  have he:=(HRN.out x m1 rfl).1
  rw[he]at hc9
  obtain⟨a,c,hsl, -⟩:=own_at hown
  subst hsl
  have HOW:=Lib.hid hown
  clear hown he
  dsimp only[markV]
  go_wp2_with fail
  have hzp:w.heap.size<(put5 W1 w.heap.size (.int .i64 x.kind) (.string (strB x.name)) (.slice a x.attrs.length c) (.bool x.self) (.string (strB x.text))).heap.size:=by simpa[put5] using hz1
  have hbp:b<(put5 W1 w.heap.size (.int .i64 x.kind) (.string (strB x.name)) (.slice a x.attrs.length c) (.bool x.self) (.string (strB x.text))).heap.size:=by simpa[put5] using hbW
  refine bodyPost_ret (results_attr rfl _ _ w.heap.size _ _ _ _ rfl ((heap_alloc_old _ _ hzp).trans (put5_at HZ1.out _ _ _ _ _)) Tryz.underlying38 rfl mark_info) rfl ?_
  exact⟨next_some rfl ⟨.slice a x.attrs.length c,rfl,own_base ((own_put5 HOW.out hzRa _ _ _ _ _).alloc _) (Nat.le_of_lt hzRa)⟩,(put5_row HR1.out (fun e=>hne e.symm) _ _ _ _ _).kept (heap_alloc_old _ _ hbp),(put5_keeps HK1.out (Nat.le_refl _) _ _ _ _ _).alloc _⟩
def goodB:Str→Bool
 | []=>false
 |c1::r1=>letterB c1||(c1==47&&(match r1 with| []=>false|c2::_=>letterB c2))
def tagsB:Str→Bool
 | []=>true
 |c::r=>(c !=60||goodB r)&&tagsB r
theorem goodB_at {r:Str} (h:goodB r=true): ∃c1 r1,r=c1::r1∧(letterB c1=true∨(c1=47∧ ∃c2 r2,r1=c2::r2∧letterB c2=true)):=by
 match r,h with
 |c1::r1,h1 =>
  refine⟨c1,r1,rfl,?_⟩
  unfold goodB at h1
  rw[Bool.or_eq_true,Bool.and_eq_true,beq_iff_eq]at h1
  refine h1.imp id fun⟨h2,h3⟩=>⟨h2,?_⟩
  match r1,h3 with
  |c2::r2,h3=>exact⟨c2,r2,rfl,h3⟩
theorem tagsB_at: ∀(l:Str),tagsB l=true→ ∀i r,l.drop i=60::r→ ∃c1 r1,r=c1::r1∧(letterB c1=true∨(c1=47∧ ∃c2 r2,r1=c2::r2∧letterB c2=true))
 | [],_,i,r,h=>by rw[List.drop_nil]at h;cases h
 |c::l,hl,0,r,h=>by
  rw[List.drop_zero,List.cons.injEq]at h
  obtain⟨rfl,rfl⟩:=h
  unfold tagsB at hl
  rw[Bool.and_eq_true]at hl
  have h1:=hl.1
  rw[show(((60:UInt8) !=60):Bool)=false from by decide,Bool.false_or]at h1
  exact goodB_at h1
 |c::l,hl,i+1,r,h=>by
  unfold tagsB at hl
  rw[Bool.and_eq_true]at hl
  exact tagsB_at l hl.2 i r (by rw[List.drop_succ_cons]at h;exact h)
def shutB (s:Str) (i:Nat):Bool:=match untilF signT (s.drop i)with
 |some (_,c::_)=>c==62
 |_=>false
theorem shutB_at {s:Str} {i:Nat} (h:shutB s i=true): ∃q,ShutAt s i q:=by
 unfold shutB at h
 rcases until_cases signT (s.drop i)with⟨hu,_⟩|⟨n,hn,hu,_⟩
 ·rw[hu]at h;cases h
 ·rw[hu]at h
  refine⟨n,?_,?_⟩
  ·rw[hu,List.drop_drop]
  ·have hl:i+n<s.length:=by rw[List.length_drop]at hn;omega
   rw[List.drop_drop,List.drop_eq_getElem_cons hl]at h
   rw[List.getElem?_eq_getElem hl,beq_iff_eq.1 h]
def liteB (m:MkM):Bool:=(m.pass==0&&m.err==0&&m.mode==0&&m.buf.all (fun c=>c !=38)&&tagsB m.buf) &&
 (decide ((textF m m.buf).1≠ [])||(textF m m.buf).2.2==1||((textF m m.buf).2.2==2&&shutB ((textF m m.buf).2.1.take 2049) 1)||((textF m m.buf).2.2==3&&shutB ((textF m m.buf).2.1.take 2049) 2))
theorem liteB_of {m:MkM} (h:liteB m=true):LiteM m:=by
 unfold liteB at h
 simp only[Bool.and_eq_true,Bool.or_eq_true,beq_iff_eq,decide_eq_true_eq,List.all_eq_true,bne_iff_ne]at h
 obtain⟨⟨⟨⟨⟨h1,h2⟩,h3⟩,h4⟩,h5⟩,h6⟩:=h
 refine⟨h1,h2,⟨h3,h4,tagsB_at _ h5⟩,fun ht=> ?_⟩
 rcases h6 with((h6|h6)|h6)|h6
 ·exact absurd ht h6
 ·exact .inl h6
 ·exact .inr (.inl ⟨h6.1,shutB_at h6.2⟩)
 ·exact .inr (.inr ⟨h6.1,shutB_at h6.2⟩)
end Go.Proofs.YtgepobccoffnaaaGreatDoor.Rd
