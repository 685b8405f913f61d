/- Texts joined for a claim: BuRc: plain laws and contracts. No conditions beyond those that each lemma types. -/
import Derived.Test.YtpnagbgpbajfeaaGreatDoorQ34
set_option linter.unusedVariables false
set_option linter.unusedSimpArgs false
set_option maxRecDepth 100000
set_option maxHeartbeats 8000000
namespace Go.Proofs.YtpnagbgpbajfeaaGreatDoor
open Go.RowKit Mem
theorem rcount_step (kind space:Int) (name:ByteArray) (a:Option Addr) (an ac:Nat) (text:ByteArray) (ka:Option Addr) (kc:Nat) (kids:List NT) (css:List (List Value)) (w:World)
 (k1:kids.length≤kc) (k2:kc≤maxLen) (k4:AtF Non w ka css.flatten) (hl:css.length=kids.length) (hk: ∀i (h:i<css.length) (h':i<kids.length),NodeC Non w css[i] kids[i]) (hm:1+ntCounts kids≤1000000000000)
 (ih: ∀j (h:j<kids.length) (cs:List Value) (u:World),NodeC Non u cs kids[j]→Calls Tryz.prog 6 #[.agg cs.toArray] u fun e u'=>e= .returned (.int .i64 (ntCount kids[j]))∧Below u.heap.size u u') :
 Calls Tryz.prog 6 #[.agg #[.int .i64 kind,.int .i64 space,.string name,.slice a an ac,.string text,.slice ka kids.length kc]] w fun e w'=>e= .returned (.int .i64 ((1+ntCounts kids:Nat):Int))∧Below w.heap.size w w':=by
 have HK4:=Lib.hid k4
 have HK:=Lib.hid hk
 have HIH:=Lib.hid ih
 have HL:=Lib.hid hl
 have hB:=heap_alloc_new w (.cells #[.int .i64 kind,.int .i64 space,.string name,.slice a an ac,.string text,.slice ka kids.length kc] 25)
 have hb:=(Below.refl w.heap.size w).alloc (Nat.le_refl _) (.cells #[.int .i64 kind,.int .i64 space,.string name,.slice a an ac,.string text,.slice ka kids.length kc] 25)
 unfold maxLen at k2
 have hkc:kids.length≤9223372036854775807:=by omega
 clear k4 hk ih hl
 go_enter Tryz.func6,Tryz.ntmps6
 go_wp2_with fail
 generalize w.alloc (.cells #[.int .i64 kind,.int .i64 space,.string name,.slice a an ac,.string text,.slice ka kids.length kc] 25)=w1 at *
 have HB:=Lib.hid hB
 have HB1:=Lib.hid hb
 clear hB hb
 go_loopw [4,3] (fun i s wr=> ∃j:Nat,j≤kids.length∧i= .int .i64 j∧(∃acc:Nat,acc=1+ntCounts (kids.take j)∧s= .int .i64 acc)∧Below w1.heap.size w1 wr) (fun i _ _=>kids.length-(intOf i).toNat)
 case atStart=>exact⟨0,Nat.zero_le _,rfl,⟨1,rfl,rfl⟩,Below.refl _ _⟩
 case round =>
  obtain⟨j,hj,rfl,⟨acc,hacc,rfl⟩,hbr⟩:=hrel
  have HBr:=Lib.hid hbr
  have HBw:=Lib.hid (HB1.out.trans (hbr.mono HB1.out.size))
  have hBr:=(hbr.block w.heap.size (row_lt HB.out)).trans HB.out
  obtain⟨⟨_,_,_,_,_,c5⟩,_⟩:=cells6 hBr
  have HACC:=Lib.hid hacc
  clear hacc hbr hBr
  by_cases hlt:j<kids.length
  ·have hlt':j<css.length:=by rw[HL.out];exact hlt
   have hkw:=Keeps.ofBelow (F:=Non) HBw.out
   have hnode:=(HK.out j hlt' hlt).kept hkw
   have h6: ∀c∈css,c.length=6:=by
    intro c hc
    obtain⟨i,hi,rfl⟩:=List.getElem_of_mem hc
    exact(HK.out i hi (by rw[←HL.out];exact hi)).len
   obtain⟨f0,f1,f2,f3,f4,f5,f6,f7,f8,f9,he⟩:=nodeC_form hnode
   obtain⟨b,o,rfl,e0,e1,e2,e3,e4,e5⟩:=kid_cells h6 (HK4.out.kept hkw) hlt' he
   rw[he]at hnode
   have HC:=Lib.hid (HIH.out j hlt _ wr hnode)
   unfold nodeV at HC
   have hc1:=counts_take kids j hlt
   have hc2:=counts_take_le kids (j+1)
   have hw1:IntKind.i64.wrap ((acc:Int)+(ntCount kids[j]:Int))=(acc:Int)+(ntCount kids[j]:Int):=by
    have:=HACC.out
    rw[IntKind.wrap_i64]
    omega
   have HN:Hid (acc+ntCount kids[j]=1+ntCounts (kids.take (j+1))):=Lib.hid (by rw[HACC.out,hc1];omega)
   clear hkw hnode h6 he hc1 hc2
   go_wp2_with fail
   refine HC.out.mono ?_
   rintro e w2 ⟨rfl,hb2⟩
   have HB2:=Lib.hid (belowCall HBr.out hb2)
   clear hb2
   go_wp2_with fail
   go_roundw
   case rel=>exact⟨j+1,by omega,by go_num,⟨acc+ntCount kids[j],HN.out,by simp⟩,HB2.out⟩
   case measure=>simp[intOf];omega
  ·have he:kids.take j=kids:=List.take_of_length_le (by omega)
   go_wp2_with fail
   go_ret
   refine⟨?_,HBw.out⟩
   rw[HACC.out,he]
   rfl
theorem rcount_any: ∀(m:Nat) (n:NT) (w:World) (cs:List Value),ntCount n≤m→m≤1000000000000→NodeC Non w cs n→Calls Tryz.prog 6 #[.agg cs.toArray] w fun e w'=>e= .returned (.int .i64 (ntCount n))∧Below w.heap.size w w'
 |0,.mk _ _ _ _ _ _,_,_,h,_,_=>by
  rw[ntCount]at h
  omega
 |m+1,n,w,cs,h,hm,hn=>by
  cases hn with
  | @mk kind space name a c attrs text ka kc kids css h1 h2 h3 h4 k1 k2 k3 k4 hl hk =>
    rw[ntCount]at h ⊢
    refine rcount_step kind space name a attrs.length c text ka kc kids css w k1 k2 k4 hl hk (by omega) ?_
    intro j hj cs u hc
    have:=counts_mem kids kids[j] (List.getElem_mem hj)
    exact rcount_any m kids[j] u cs (by omega) (by omega) hc
theorem rdepth_step (kind space:Int) (name:ByteArray) (a:Option Addr) (an ac:Nat) (text:ByteArray) (ka:Option Addr) (kc:Nat) (kids:List NT) (css:List (List Value)) (w:World)
 (k1:kids.length≤kc) (k2:kc≤maxLen) (k4:AtF Non w ka css.flatten) (hl:css.length=kids.length) (hk: ∀i (h:i<css.length) (h':i<kids.length),NodeC Non w css[i] kids[i]) (hm:1+ntCounts kids≤1000000000000)
 (ih: ∀j (h:j<kids.length) (cs:List Value) (u:World),NodeC Non u cs kids[j]→Calls Tryz.prog 8 #[.agg cs.toArray] u fun e u'=>e= .returned (.int .i64 (ntDepth kids[j]))∧Below u.heap.size u u') :
 Calls Tryz.prog 8 #[.agg #[.int .i64 kind,.int .i64 space,.string name,.slice a an ac,.string text,.slice ka kids.length kc]] w fun e w'=>e= .returned (.int .i64 ((ntDepths kids+1:Nat):Int))∧Below w.heap.size w w':=by
 have HK4:=Lib.hid k4
 have HK:=Lib.hid hk
 have HIH:=Lib.hid ih
 have HL:=Lib.hid hl
 have hB:=heap_alloc_new w (.cells #[.int .i64 kind,.int .i64 space,.string name,.slice a an ac,.string text,.slice ka kids.length kc] 25)
 have hb:=(Below.refl w.heap.size w).alloc (Nat.le_refl _) (.cells #[.int .i64 kind,.int .i64 space,.string name,.slice a an ac,.string text,.slice ka kids.length kc] 25)
 unfold maxLen at k2
 have hkc:kids.length≤9223372036854775807:=by omega
 clear k4 hk ih hl
 go_enter Tryz.func8,Tryz.ntmps8
 go_wp2_with fail
 generalize w.alloc (.cells #[.int .i64 kind,.int .i64 space,.string name,.slice a an ac,.string text,.slice ka kids.length kc] 25)=w1 at *
 have HB:=Lib.hid hB
 have HB1:=Lib.hid hb
 clear hB hb
 go_loopw [4,3] (fun i s wr=> ∃j:Nat,j≤kids.length∧i= .int .i64 j∧(∃acc:Nat,acc=ntDepths (kids.take j)+1∧s= .int .i64 acc)∧Below w1.heap.size w1 wr) (fun i _ _=>kids.length-(intOf i).toNat)
 case atStart=>exact⟨0,Nat.zero_le _,rfl,⟨1,rfl,rfl⟩,Below.refl _ _⟩
 case round =>
  obtain⟨j,hj,rfl,⟨acc,hacc,rfl⟩,hbr⟩:=hrel
  have HBr:=Lib.hid hbr
  have HBw:=Lib.hid (HB1.out.trans (hbr.mono HB1.out.size))
  have hBr:=(hbr.block w.heap.size (row_lt HB.out)).trans HB.out
  obtain⟨⟨_,_,_,_,_,c5⟩,_⟩:=cells6 hBr
  have HACC:=Lib.hid hacc
  clear hacc hbr hBr
  by_cases hlt:j<kids.length
  ·have hlt':j<css.length:=by rw[HL.out];exact hlt
   have hkw:=Keeps.ofBelow (F:=Non) HBw.out
   have hnode:=(HK.out j hlt' hlt).kept hkw
   have h6: ∀c∈css,c.length=6:=by
    intro c hc
    obtain⟨i,hi,rfl⟩:=List.getElem_of_mem hc
    exact(HK.out i hi (by rw[←HL.out];exact hi)).len
   obtain⟨f0,f1,f2,f3,f4,f5,f6,f7,f8,f9,he⟩:=nodeC_form hnode
   obtain⟨b,o,rfl,e0,e1,e2,e3,e4,e5⟩:=kid_cells h6 (HK4.out.kept hkw) hlt' he
   rw[he]at hnode
   have HC:=Lib.hid (HIH.out j hlt _ wr hnode)
   unfold nodeV at HC
   have hc1:=depths_take kids j hlt
   have hd1:=depth_le_count kids[j]
   have hd2:=counts_mem kids kids[j] (List.getElem_mem hlt)
   obtain⟨d,hd⟩: ∃d,d=ntDepth kids[j]:=⟨_,rfl⟩
   rw[←hd]at HC hc1 hd1
   have hw1:IntKind.i64.wrap ((d:Int)+1)=(d:Int)+1:=by rw[IntKind.wrap_i64];omega
   have HN:Hid (max acc (d+1)=ntDepths (kids.take (j+1))+1):=Lib.hid (by rw[HACC.out,hc1];omega)
   have hd3:(d:Int)≤1000000000000:=by omega
   clear hkw hnode h6 he hc1 hd hd1 hd2
   go_wp2_with fail
   refine HC.out.mono ?_
   rintro e w2 ⟨rfl,hb2⟩
   have HB2:=Lib.hid (belowCall HBr.out hb2)
   clear hb2
   have HNN:=HN.out
   by_cases hgt:acc<d+1
   ·have hgi:(acc:Int)<(d:Int)+1:=by omega
    have HN2:Hid (d+1=ntDepths (kids.take (j+1))+1):=Lib.hid (by omega)
    clear HNN
    go_wp2_with fail
    go_roundw
    case rel=>exact⟨j+1,by omega,by go_num,⟨d+1,HN2.out,by simp⟩,HB2.out⟩
    case measure=>simp[intOf];omega
   ·have hgi: ¬(acc:Int)<(d:Int)+1:=by omega
    have HN2:Hid (acc=ntDepths (kids.take (j+1))+1):=Lib.hid (by omega)
    clear HNN
    go_wp2_with fail
    go_roundw
    case rel=>exact⟨j+1,by omega,by go_num,⟨acc,HN2.out,by simp⟩,HB2.out⟩
    case measure=>simp[intOf];omega
  ·have he:kids.take j=kids:=List.take_of_length_le (by omega)
   go_wp2_with fail
   go_ret
   refine⟨?_,HBw.out⟩
   rw[HACC.out,he]
   rfl
theorem rdepth_any: ∀(m:Nat) (n:NT) (w:World) (cs:List Value),ntCount n≤m→m≤1000000000000→NodeC Non w cs n→Calls Tryz.prog 8 #[.agg cs.toArray] w fun e w'=>e= .returned (.int .i64 (ntDepth n))∧Below w.heap.size w w'
 |0,.mk _ _ _ _ _ _,_,_,h,_,_=>by
  rw[ntCount]at h
  omega
 |m+1,n,w,cs,h,hm,hn=>by
  cases hn with
  | @mk kind space name a c attrs text ka kc kids css h1 h2 h3 h4 k1 k2 k3 k4 hl hk =>
    rw[ntCount]at h
    rw[ntDepth]
    refine rdepth_step kind space name a attrs.length c text ka kc kids css w k1 k2 k4 hl hk (by omega) ?_
    intro j hj cs u hc
    have:=counts_mem kids kids[j] (List.getElem_mem hj)
    exact rdepth_any m kids[j] u cs (by omega) (by omega) hc
end Go.Proofs.YtpnagbgpbajfeaaGreatDoor
