/-
  Contracts: colanderlaw17.told, and shown: the law's two texts are built zas they are to be. No conditions beyond those that each lemma types.
-/
import Derived.Test.YteckmpcgdgknoaaGreatDoorQ38
set_option linter.unusedVariables false
set_option linter.unusedSimpArgs false
set_option maxRecDepth 100000
set_option maxHeartbeats 8000000
namespace Go.Proofs.YteckmpcgdgknoaaGreatDoor
open Go.RowKit Mem
mutual
/-- a tree as a text -/
def toldF:NT→ByteArray
 | .mk k _ nm _ t kids=>if k=2 then t else(nm++(mkB [40]++toldsF kids))++mkB [41]
def toldsF:List NT→ByteArray
 | []=>⟨#[]⟩
 |x::r=>toldF x++toldsF r
end
theorem app_nil (b:ByteArray):b++(⟨#[]⟩:ByteArray)=b:=ByteArray.append_empty
theorem nil_app (b:ByteArray):(⟨#[]⟩:ByteArray)++b=b:=ByteArray.empty_append
theorem tolds_append: ∀(l r:List NT),toldsF (l++r)=toldsF l++toldsF r
 | [],r=>(nil_app _).symm
 |x::l,r=>by rw[List.cons_append,toldsF,toldsF,tolds_append l r,ByteArray.append_assoc]
theorem told_take (l:List NT) (j:Nat) (h:j<l.length):toldsF (l.take (j+1))=toldsF (l.take j)++toldF l[j]:=by
 have:l.take (j+1)=l.take j++ [l[j]]:=by rw[List.take_add_one];simp[h]
 rw[this,tolds_append,toldsF,toldsF,app_nil]
theorem told_le (l:List NT) (j:Nat) (_h:j≤l.length):(toldsF (l.take j)).size≤(toldsF l).size:=by
 conv=>rhs;rw[←List.take_append_drop j l,tolds_append]
 rw[ByteArray.size_append]
 omega
theorem told_mem: ∀(l:List NT) (x:NT),x∈l→(toldF x).size≤(toldsF l).size
 | [],_,h=>by simp at h
 |y::r,x,h=>by
  rw[toldsF,ByteArray.size_append]
  rcases List.mem_cons.1 h with h|h
  ·rw[h];omega
  ·have:=told_mem r x h
   omega
theorem told_start:(⟨#[40]⟩:ByteArray)=mkB [40]++toldsF (([]:List NT)):=by rw[toldsF,app_nil];rfl
theorem told_all {kind space:Int} {name text:ByteArray} {kids:List NT} (hk2:kind≠2) (h:(toldF (.mk kind space name [] text kids)).size≤1000000):(toldsF kids).size+2+name.size≤1000000:=by
 rw[toldF,if_neg hk2,ByteArray.size_append,ByteArray.size_append,ByteArray.size_append]at h
 have h1:(mkB [40]).size=1:=rfl
 have h2:(mkB [41]).size=1:=rfl
 omega
theorem told_step (kind space:Int) (name:ByteArray) (a:Option Addr) (an ac:Nat) (text:ByteArray) (ka:Option Addr) (kc:Nat) (kids:List NT) (css:List (List Value)) (w:World)
 (k1:kids.length≤kc) (k2:kc≤maxLen) (k4:AtF Non w ka css.flatten) (hl:css.length=kids.length) (hk: ∀i (h:i<css.length) (h':i<kids.length),NodeC Non w css[i] kids[i]) (hm:(toldF (.mk kind space name [] text kids)).size≤1000000) (hk2:kind≠2)
 (ih: ∀j (h:j<kids.length) (cs:List Value) (u:World),NodeC Non u cs kids[j]→Calls Tryz.prog 9 #[.agg cs.toArray] u fun e u'=>e= .returned (.string (toldF kids[j]))∧Below u.heap.size u u') :
 Calls Tryz.prog 9 #[.agg #[.int .i64 kind,.int .i64 space,.string name,.slice a an ac,.string text,.slice ka kids.length kc]] w fun e w'=>e= .returned (.string (toldF (.mk kind space name [] text kids)))∧Below w.heap.size w w':=by
 have HK4:=Lib.hid k4
 have HK:=Lib.hid hk
 have HIH:=Lib.hid ih
 have HL:=Lib.hid hl
 have hB:=heap_alloc_new w (.cells #[.int .i64 kind,.int .i64 space,.string name,.slice a an ac,.string text,.slice ka kids.length kc] 30)
 have hb:=(Below.refl w.heap.size w).alloc (Nat.le_refl _) (.cells #[.int .i64 kind,.int .i64 space,.string name,.slice a an ac,.string text,.slice ka kids.length kc] 30)
 unfold maxLen at k2
 have HM:=Lib.hid hm
 have hkb:(kind==2)=false:=beq_eq_false_iff_ne.2 hk2
 have HSz:=Lib.hid (told_all (kind:=kind) (space:=space) (name:=name) (text:=text) (kids:=kids) hk2 hm)
 have hkc:kids.length≤9223372036854775807:=by omega
 clear k4 hk ih hl hm
 go_enter Tryz.func9,Tryz.ntmps9
 go_wp2_with fail
 generalize w.alloc (.cells #[.int .i64 kind,.int .i64 space,.string name,.slice a an ac,.string text,.slice ka kids.length kc] 30)=w1 at *
 have HB:=Lib.hid hB
 have HB1:=Lib.hid hb
 clear hB hb
 go_loopw [4,3] (fun i s wr=> ∃j:Nat,j≤kids.length∧i= .int .i64 j∧(∃acc:ByteArray,Hid (acc=mkB [40]++toldsF (kids.take j))∧s= .string acc)∧Below w1.heap.size w1 wr) (fun i _ _=>kids.length-(intOf i).toNat)
 case atStart=>exact⟨0,Nat.zero_le _,rfl,⟨_,Lib.hid told_start,rfl⟩,Below.refl _ _⟩
 case round =>
  obtain⟨j,hj,rfl,⟨acc,HACC,rfl⟩,hbr⟩:=hrel
  have HBr:=Lib.hid hbr
  have HBw:=Lib.hid (HB1.out.trans (hbr.mono HB1.out.size))
  have hBr:=(hbr.block w.heap.size (row_lt HB.out)).trans HB.out
  obtain⟨⟨_,_,_,_,_,c5⟩,_⟩:=cells6 hBr
  have hsz:=told_le kids j hj
  clear hbr hBr
  by_cases hlt:j<kids.length
  ·have hlt':j<css.length:=by rw[HL.out];exact hlt
   have hkw:=Keeps.ofBelow (F:=Non) HBw.out
   have hnode:=(HK.out j hlt' hlt).kept hkw
   have h6: ∀c∈css,c.length=6:=by
    intro c hc
    obtain⟨i,hi,rfl⟩:=List.getElem_of_mem hc
    exact(HK.out i hi (by rw[←HL.out];exact hi)).len
   obtain⟨f0,f1,f2,f3,f4,f5,f6,f7,f8,f9,he⟩:=nodeC_form hnode
   obtain⟨b,o,rfl,e0,e1,e2,e3,e4,e5⟩:=kid_cells h6 (HK4.out.kept hkw) hlt' he
   rw[he]at hnode
   have HC:=Lib.hid (HIH.out j hlt _ wr hnode)
   unfold nodeV at HC
   have hc1:=told_take kids j hlt
   have hszn:=told_le kids (j+1) hlt
   obtain⟨d,hd⟩: ∃d,d=toldF kids[j]:=⟨_,rfl⟩
   rw[←hd]at HC hc1
   have HN:Hid (acc++d=mkB [40]++toldsF (kids.take (j+1))):=Lib.hid (by rw[HACC.out,hc1,ByteArray.append_assoc])
   have hsum:acc.size+d.size≤1000000:=by
    have h1:=congrArg ByteArray.size HN.out
    rw[ByteArray.size_append,ByteArray.size_append]at h1
    have h2:=HSz.out
    have h3:(mkB [40]).size=1:=rfl
    omega
   have hlim: ¬9223372036854775807<acc.size+d.size:=by omega
   clear hkw hnode h6 he hc1 hd hsz hszn hsum
   go_wp2_with fail
   refine HC.out.mono ?_
   rintro e w2 ⟨rfl,hb2⟩
   have HB2:=Lib.hid (belowCall HBr.out hb2)
   clear hb2
   go_wp2_with fail
   go_roundw
   case rel=>exact⟨j+1,by omega,by go_num,⟨_,HN,rfl⟩,HB2.out⟩
   case measure=>simp[intOf];omega
  ·have he:kids.take j=kids:=List.take_of_length_le (by omega)
   obtain⟨⟨_,_,c2,_,_,_⟩,_⟩:=cells6 ((HBr.out.block w.heap.size (row_lt HB.out)).trans HB.out)
   have hn:=HSz.out
   have HV:Hid (toldF (.mk kind space name [] text kids)=(name++acc)++mkB [41]):=Lib.hid (by rw[toldF,if_neg hk2,HACC.out,he])
   have h3:name.size+acc.size+1≤1000000:=by
    have h4:=HM.out
    rw[HV.out,ByteArray.size_append,ByteArray.size_append]at h4
    exact h4
   have hl1: ¬9223372036854775807<name.size+acc.size:=by omega
   have hl2: ¬9223372036854775807<name.size+acc.size+1:=by omega
   clear he hsz hn h3
   go_wp2_with fail
   go_ret
   rw[HV.out]
   exact⟨rfl,HBw.out⟩
theorem told_text (space:Int) (name:ByteArray) (a:Option Addr) (an ac:Nat) (text:ByteArray) (ka:Option Addr) (kn kc:Nat) (w:World) :
 Calls Tryz.prog 9 #[.agg #[.int .i64 2,.int .i64 space,.string name,.slice a an ac,.string text,.slice ka kn kc]] w fun e w'=>e= .returned (.string text)∧Below w.heap.size w w':=by
 go_enter Tryz.func9,Tryz.ntmps9
 go_wp2_with fail
 go_ret
 exact⟨rfl,(Below.refl _ _).alloc (Nat.le_refl _) _⟩
theorem told_any: ∀(m:Nat) (n:NT) (w:World) (cs:List Value),ntCount n≤m→(toldF n).size≤1000000→NodeC Non w cs n→Calls Tryz.prog 9 #[.agg cs.toArray] w fun e w'=>e= .returned (.string (toldF n))∧Below w.heap.size w w'
 |0,.mk _ _ _ _ _ _,_,_,h,_,_=>by
  rw[ntCount]at h
  omega
 |m+1,n,w,cs,h,hm,hn=>by
  cases hn with
  | @mk kind space name a c attrs text ka kc kids css h1 h2 h3 h4 k1 k2 k3 k4 hl hk =>
    rw[ntCount]at h
    by_cases hk2:kind=2
    ·subst hk2
     have e:toldF (.mk 2 space name attrs text kids)=text:=by rw[toldF,if_pos rfl]
     rw[e]
     exact told_text space name a attrs.length c text ka kids.length kc w
    ·have e:toldF (.mk kind space name attrs text kids)=toldF (.mk kind space name [] text kids):=by rw[toldF,toldF]
     rw[e]at hm ⊢
     refine told_step kind space name a attrs.length c text ka kc kids css w k1 k2 k4 hl hk hm hk2 ?_
     intro j hj cs u hc
     have h5:=counts_mem kids kids[j] (List.getElem_mem hj)
     have h6:=told_mem kids kids[j] (List.getElem_mem hj)
     have h7:=told_all (kind:=kind) (space:=space) (name:=name) (text:=text) (kids:=kids) hk2 hm
     exact told_any m kids[j] u cs (by omega) (by omega) hc
theorem told1:toldF tr1=(⟨#[104,116,109,108,40,104,101,97,100,40,41,98,111,100,121,40,98,40,49,41,112,40,98,40,50,41,51,41,41,41]⟩:ByteArray):=by kernel_rfl
theorem told2:toldF tr2=(⟨#[104,116,109,108,40,104,101,97,100,40,41,98,111,100,121,40,120,116,97,98,108,101,40,116,98,111,100,121,40,116,114,40,116,100,40,121,41,41,41,41,41,41]⟩:ByteArray):=by kernel_rfl
theorem cnt1:ntCount tr1=9:=by kernel_rfl
theorem cnt2:ntCount tr2≤20:=by decide +kernel
theorem dep1:ntDepth tr1=5:=by kernel_rfl
theorem build1 (w:World) :
 Calls Tryz.prog 8 #[.string (⟨#[60,98,62,49,60,112,62,50,60,47,98,62,51]⟩:ByteArray)] w fun r w'=> ∃f0 f1 f2 f3 f4 f5 f6 f7 f8 f9,r= .returned (.tuple #[.agg #[.int .i64 f0,.int .i64 f1,.string f2,.slice f3 f4 f5,.string f6,.slice f7 f8 f9],.int .i64 0])∧NodeC Non w' (nodeV f0 f1 f2 f3 f4 f5 f6 f7 f8 f9) tr1∧Below w.heap.size w w':=by
 have h:=Build_lite sh1 _ ev1 w (by decide)
 refine h.mono fun r w' ⟨cs,hr,hn,hb⟩=> ?_
 obtain⟨f0,f1,f2,f3,f4,f5,f6,f7,f8,f9,rfl⟩:=nodeC_form hn
 exact⟨f0,f1,f2,f3,f4,f5,f6,f7,f8,f9,hr,hn.other fun _ _ hx=>hx.elim,hb⟩
theorem build2 (w:World) :
 Calls Tryz.prog 8 #[.string (⟨#[60,116,97,98,108,101,62,120,60,116,114,62,60,116,100,62,121]⟩:ByteArray)] w fun r w'=> ∃f0 f1 f2 f3 f4 f5 f6 f7 f8 f9,r= .returned (.tuple #[.agg #[.int .i64 f0,.int .i64 f1,.string f2,.slice f3 f4 f5,.string f6,.slice f7 f8 f9],.int .i64 0])∧NodeC Non w' (nodeV f0 f1 f2 f3 f4 f5 f6 f7 f8 f9) tr2∧Below w.heap.size w w':=by
 have h:=Build_lite sh2 _ ev2 w (by decide)
 refine h.mono fun r w' ⟨cs,hr,hn,hb⟩=> ?_
 obtain⟨f0,f1,f2,f3,f4,f5,f6,f7,f8,f9,rfl⟩:=nodeC_form hn
 exact⟨f0,f1,f2,f3,f4,f5,f6,f7,f8,f9,hr,hn.other fun _ _ hx=>hx.elim,hb⟩
theorem shown17_any (w:World):Calls Tryz.prog 5 #[] w fun e w'=>e= .returned (.bool true)∧Below w.heap.size w w':=by
 have H1:=Lib.hid (build1 w)
 go_enter Tryz.func5,Tryz.ntmps5
 go_wp2_with fail
 refine H1.out.mono ?_
 rintro e w1 ⟨f0,f1,f2,f3,f4,f5,f6,f7,f8,f9,rfl,hn1,hb1⟩
 have HN1:=Lib.hid hn1
 have HB1:=Lib.hid (hb1.alloc hb1.size (.cells #[.int .i64 f0,.int .i64 f1,.string f2,.slice f3 f4 f5,.string f6,.slice f7 f8 f9] 30))
 have HR1:=Lib.hid (heap_alloc_new w1 (.cells #[.int .i64 f0,.int .i64 f1,.string f2,.slice f3 f4 f5,.string f6,.slice f7 f8 f9] 30))
 have H2:=Lib.hid build2
 clear hn1 hb1
 dsimp only
 go_wp2_with fail
 refine(H2.out _).mono ?_
 rintro e w2 ⟨g0,g1,g2,g3,g4,g5,g6,g7,g8,g9,rfl,hn2,hb2⟩
 obtain⟨W3,hW3⟩: ∃W3,W3=w2.alloc (.cells #[.int .i64 g0,.int .i64 g1,.string g2,.slice g3 g4 g5,.string g6,.slice g7 g8 g9] 30):=⟨_,rfl⟩
 have hb3:Below w.heap.size w W3:=by rw[hW3];exact(belowCall HB1.out hb2).alloc (belowCall HB1.out hb2).size _
 have hra:W3.heap[w1.heap.size]?=some (.cells #[.int .i64 f0,.int .i64 f1,.string f2,.slice f3 f4 f5,.string f6,.slice f7 f8 f9] 30 (0,0)):=by
  have h4:=(hb2.block _ (row_lt HR1.out)).trans HR1.out
  rw[hW3]
  exact(Below.heap_alloc w2 _ _ (row_lt h4)).trans h4
 have hrb:W3.heap[w2.heap.size]?=some (.cells #[.int .i64 g0,.int .i64 g1,.string g2,.slice g3 g4 g5,.string g6,.slice g7 g8 g9] 30 (0,0)):=by rw[hW3];exact heap_alloc_new _ _
 have hna:NodeC Non W3 (nodeV f0 f1 f2 f3 f4 f5 f6 f7 f8 f9) tr1:=by
  rw[hW3]
  exact(HN1.out.kept ((Keeps.refl _ _).alloc _)).kept ((Keeps.ofBelow hb2).alloc _)
 have hnb:NodeC Non W3 (nodeV g0 g1 g2 g3 g4 g5 g6 g7 g8 g9) tr2:=by
  rw[hW3]
  exact hn2.kept ((Keeps.refl _ _).alloc _)
 have CA:=Lib.hid (fun u (hu:Below W3.heap.size W3 u)=>(cells6 ((hu.block _ (row_lt hra)).trans hra)).1)
 have CB:=Lib.hid (fun u (hu:Below W3.heap.size W3 u)=>(cells6 ((hu.block _ (row_lt hrb)).trans hrb)).1)
 have HT1:=Lib.hid (fun u (hu:Below W3.heap.size W3 u)=>told_any 20 tr1 u _ (by decide +kernel) (by rw[told1];decide) (hna.kept (Keeps.ofBelow hu)))
 have HT2:=Lib.hid (fun u (hu:Below W3.heap.size W3 u)=>told_any 20 tr2 u _ cnt2 (by rw[told2];decide) (hnb.kept (Keeps.ofBelow hu)))
 have HC1:=Lib.hid (fun u (hu:Below W3.heap.size W3 u)=>bcount_any 20 tr1 u _ (by decide +kernel) (by decide) (hna.kept (Keeps.ofBelow hu)))
 have HD1:=Lib.hid (fun u (hu:Below W3.heap.size W3 u)=>bdepth_any 20 tr1 u _ (by decide +kernel) (by decide) (hna.kept (Keeps.ofBelow hu)))
 rw[told1]at HT1
 rw[told2]at HT2
 rw[cnt1]at HC1
 rw[dep1]at HD1
 unfold nodeV at HT1 HT2 HC1 HD1
 have HB3:=Lib.hid hb3
 have HW3:=Lib.hid hW3
 obtain⟨a0,a1,a2,a3,a4,a5⟩:=CA.out _ (Below.refl _ _)
 have hr0:=Lib.hid (Below.refl W3.heap.size W3)
 clear hb2 hn2 hra hrb hna hnb hb3 HN1 HB1 HR1 H2 H1 hW3
 dsimp only
 rw[HW3.out]at a0 a1 a2 a3 a4 a5
 go_wp2_with fail
 rw[←HW3.out]
 refine(HT1.out _ hr0.out).mono ?_
 rintro e w4 ⟨rfl,hb4⟩
 have H4:=Lib.hid hb4
 obtain⟨b0,b1,b2,b3,b4,b5⟩:=CB.out _ hb4
 clear a0 a1 a2 a3 a4 a5 hb4
 dsimp only
 go_wp2_with fail
 refine(HT2.out _ H4.out).mono ?_
 rintro e w5 ⟨rfl,hb5⟩
 have H5:=Lib.hid (belowCall H4.out hb5)
 obtain⟨a0,a1,a2,a3,a4,a5⟩:=CA.out _ H5.out
 clear b0 b1 b2 b3 b4 b5 hb5
 dsimp only
 go_wp2_with fail
 refine(HC1.out _ H5.out).mono ?_
 rintro e w6 ⟨rfl,hb6⟩
 have H6:=Lib.hid (belowCall H5.out hb6)
 clear a0 a1 a2 a3 a4 a5 hb6
 obtain⟨a0,a1,a2,a3,a4,a5⟩:=CA.out _ H6.out
 dsimp only
 go_wp2_with fail
 refine(HD1.out _ H6.out).mono ?_
 rintro e w7 ⟨rfl,hb7⟩
 have H7:=Lib.hid (belowCall H6.out hb7)
 clear a0 a1 a2 a3 a4 a5 hb7
 dsimp only
 go_wp2_with fail
 go_ret
 exact⟨rfl,belowCall HB3.out H7.out⟩
end Go.Proofs.YteckmpcgdgknoaaGreatDoor
