/- Texts joined for a claim: CuCo: plain laws and contracts. No conditions beyond those that each lemma types. -/
import Derived.Test.YtpnagbgpbajfeaaGreatDoorQ44
import Derived.Test.YtpnagbgpbajfeaaGreatDoorQ45
import Derived.Test.YtpnagbgpbajfeaaGreatDoorQ46
set_option linter.unusedVariables false
set_option linter.unusedSimpArgs false
set_option maxRecDepth 100000
set_option maxHeartbeats 8000000
namespace Go.Proofs.YtpnagbgpbajfeaaGreatDoor
open Go.RowKit Mem
theorem lawBuildCounts (na:NT) (a0 a1:Int) (a2:ByteArray) (a3:Option Addr) (a4 a5:Nat) (a6:ByteArray) (a7:Option Addr) (a8 a9:Nat) (nb:NT) (b0 b1:Int) (b2:ByteArray) (b3:Option Addr) (b4 b5:Nat) (b6:ByteArray) (b7:Option Addr) (b8 b9:Nat) (w:World)
 (hna:NodeC Non w (nodeV a0 a1 a2 a3 a4 a5 a6 a7 a8 a9) na) (hca:ntCount na≤1048576) (hnb:NodeC Non w (nodeV b0 b1 b2 b3 b4 b5 b6 b7 b8 b9) nb) (hcb:ntCount nb≤1048576) :
 Calls Tryz.prog 3 #[.agg #[.int .i64 a0,.int .i64 a1,.string a2,.slice a3 a4 a5,.string a6,.slice a7 a8 a9],.agg #[.int .i64 b0,.int .i64 b1,.string b2,.slice b3 b4 b5,.string b6,.slice b7 b8 b9]] w fun e w'=>e= .returned (.bool true)∧Below w.heap.size w w':=by
 obtain⟨W,hW⟩: ∃W,W=(w.alloc (.cells #[.int .i64 a0,.int .i64 a1,.string a2,.slice a3 a4 a5,.string a6,.slice a7 a8 a9] 25)).alloc (.cells #[.int .i64 b0,.int .i64 b1,.string b2,.slice b3 b4 b5,.string b6,.slice b7 b8 b9] 25):=⟨_,rfl⟩
 have hb0:Below w.heap.size w W:=by rw[hW];exact((Below.refl _ _).alloc (Nat.le_refl _) _).alloc (by simp) _
 have hra:W.heap[w.heap.size]?=some (.cells #[.int .i64 a0,.int .i64 a1,.string a2,.slice a3 a4 a5,.string a6,.slice a7 a8 a9] 25 (0,0)):=by
  rw[hW];exact(Below.heap_alloc _ _ _ (by simp)).trans (heap_alloc_new w _)
 have hrb:W.heap[w.heap.size+1]?=some (.cells #[.int .i64 b0,.int .i64 b1,.string b2,.slice b3 b4 b5,.string b6,.slice b7 b8 b9] 25 (0,0)):=by
  rw[hW];exact heap_new_at (by simp)
 have HS:=Lib.hid (shown17_any W)
 have HB0:=Lib.hid hb0
 have HRa:=Lib.hid hra
 have HRb:=Lib.hid hrb
 have HNa:=Lib.hid hna
 have HNb:=Lib.hid hnb
 have HW:=Lib.hid hW
 clear hb0 hra hrb hna hnb
 rw[hW]at HS
 clear hW
 go_enter Tryz.func3,Tryz.ntmps3
 go_wp2_with (go_at_call 4;go_must (refine HS.out.mono ?_;rintro e w1 ⟨rfl,hb1⟩;rw[←HW.out]at hb1;have HB1:=Lib.hid hb1;clear hb1))
 have HBw:=Lib.hid (belowCall HB0.out HB1.out)
 obtain⟨⟨x0,x1,x2,x3,x4,x5⟩,_⟩:=cells6 ((HB1.out.block _ (row_lt HRa.out)).trans HRa.out)
 obtain⟨⟨y0,y1,y2,y3,y4,y5⟩,_⟩:=cells6 ((HB1.out.block _ (row_lt HRb.out)).trans HRb.out)
 have HK:=Lib.hid (fun u (hu:Below w1.heap.size w1 u)=>belowCall HBw.out hu)
 have HA1:=Lib.hid (fun u (hu:Below w1.heap.size w1 u)=>bcount_any 1048576 na u _ hca (by decide) (HNa.out.kept (Keeps.ofBelow (HK.out u hu))))
 have HA2:=Lib.hid (fun u (hu:Below w1.heap.size w1 u)=>rcount_any 1048576 na u _ hca (by decide) (HNa.out.kept (Keeps.ofBelow (HK.out u hu))))
 have HA3:=Lib.hid (fun u (hu:Below w1.heap.size w1 u)=>bdepth_any 1048576 na u _ hca (by decide) (HNa.out.kept (Keeps.ofBelow (HK.out u hu))))
 have HA4:=Lib.hid (fun u (hu:Below w1.heap.size w1 u)=>rdepth_any 1048576 na u _ hca (by decide) (HNa.out.kept (Keeps.ofBelow (HK.out u hu))))
 have HA5:=Lib.hid (fun u (hu:Below w1.heap.size w1 u)=>bsame_any 1048576 na nb u _ _ hca (HNa.out.kept (Keeps.ofBelow (HK.out u hu))) (HNb.out.kept (Keeps.ofBelow (HK.out u hu))))
 have HA6:=Lib.hid (fun u (hu:Below w1.heap.size w1 u)=>nsame_any 1048576 na nb u _ _ hca (HNa.out.kept (Keeps.ofBelow (HK.out u hu))) (HNb.out.kept (Keeps.ofBelow (HK.out u hu))))
 have HA7:=Lib.hid (fun u (hu:Below w1.heap.size w1 u)=>bsame_any 1048576 na na u _ _ hca (HNa.out.kept (Keeps.ofBelow (HK.out u hu))) (HNa.out.kept (Keeps.ofBelow (HK.out u hu))))
 have HA8:=Lib.hid (fun u (hu:Below w1.heap.size w1 u)=>bsame_any 1048576 nb na u _ _ hcb (HNb.out.kept (Keeps.ofBelow (HK.out u hu))) (HNa.out.kept (Keeps.ofBelow (HK.out u hu))))
 rw[sameB_yes]at HA7
 rw[sameB_flip nb na]at HA8
 unfold nodeV at HA1 HA2 HA3 HA4 HA5 HA6 HA7 HA8
 generalize sameB na nb=t at HA5 HA6 HA8
 generalize ntCount na=n1 at HA1 HA2
 generalize ntDepth na=n2 at HA3 HA4
 clear HS HNa HNb HRa HRb HB0 HK
 cases t
 case false =>
  skip
  refine wp_region_calm (by kernel_rfl) (by kernel_rfl) ?_
  repeat
   with_reducible refine wpQuiet_step (fun K hK=> ?_)
   first
    |(with_reducible apply calm_skip
      ·rfl
      simp only[Act.put,List.setIfInBounds_toArray,List.set_cons_zero,List.set_cons_succ]
      refine hK _ ?_
      clear hK K)
    |(with_reducible apply calm_run
      ·rfl
      ·intro wq hC
       have zx0:=cell_later hC.out x0
       have zx1:=cell_later hC.out x1
       have zx2:=cell_later hC.out x2
       have zx3:=cell_later hC.out x3
       have zx4:=cell_later hC.out x4
       have zx5:=cell_later hC.out x5
       have zy0:=cell_later hC.out y0
       have zy1:=cell_later hC.out y1
       have zy2:=cell_later hC.out y2
       have zy3:=cell_later hC.out y3
       have zy4:=cell_later hC.out y4
       have zy5:=cell_later hC.out y5
       unfold Oper.quietAt
       go_simp
       first|done|(go_at_call 5;refine(HA1.out _ hC.out).mono ?_;rintro e wx ⟨rfl,hbx⟩;exact⟨rfl,Lib.hid (belowCall hC.out hbx)⟩)|(go_at_call 6;refine(HA2.out _ hC.out).mono ?_;rintro e wx ⟨rfl,hbx⟩;exact⟨rfl,Lib.hid (belowCall hC.out hbx)⟩)|(go_at_call 7;refine(HA3.out _ hC.out).mono ?_;rintro e wx ⟨rfl,hbx⟩;exact⟨rfl,Lib.hid (belowCall hC.out hbx)⟩)|(go_at_call 8;refine(HA4.out _ hC.out).mono ?_;rintro e wx ⟨rfl,hbx⟩;exact⟨rfl,Lib.hid (belowCall hC.out hbx)⟩)|(go_at_call 10;refine(HA6.out _ hC.out).mono ?_;rintro e wx ⟨rfl,hbx⟩;exact⟨rfl,Lib.hid (belowCall hC.out hbx)⟩)|(go_at_call 9;(first|with_reducible refine(HA5.out _ hC.out).mono ?_|with_reducible refine(HA7.out _ hC.out).mono ?_|with_reducible refine(HA8.out _ hC.out).mono ?_);rintro e wx ⟨rfl,hbx⟩;exact⟨rfl,Lib.hid (belowCall hC.out hbx)⟩)|with_reducible rfl|rfl
      simp only[Act.put,List.setIfInBounds_toArray,List.set_cons_zero,List.set_cons_succ]
      refine hK _ ?_
      clear hK K)
  with_reducible refine wpQuiet_nil ?_
  intro wq HQ
  have zx0:=cell_later HQ.out x0
  have zx1:=cell_later HQ.out x1
  have zx2:=cell_later HQ.out x2
  have zx3:=cell_later HQ.out x3
  have zx4:=cell_later HQ.out x4
  have zx5:=cell_later HQ.out x5
  have zy0:=cell_later HQ.out y0
  have zy1:=cell_later HQ.out y1
  have zy2:=cell_later HQ.out y2
  have zy3:=cell_later HQ.out y3
  have zy4:=cell_later HQ.out y4
  have zy5:=cell_later HQ.out y5
  have HB3:=Lib.hid (belowCall HBw.out HQ.out)
  go_wp2_with fail
  go_ret
  exact⟨rfl,HB3.out⟩
 case true =>
  skip
  refine wp_region_calm (by kernel_rfl) (by kernel_rfl) ?_
  repeat
   with_reducible refine wpQuiet_step (fun K hK=> ?_)
   first
    |(with_reducible apply calm_skip
      ·rfl
      simp only[Act.put,List.setIfInBounds_toArray,List.set_cons_zero,List.set_cons_succ]
      refine hK _ ?_
      clear hK K)
    |(with_reducible apply calm_run
      ·rfl
      ·intro wq hC
       have zx0:=cell_later hC.out x0
       have zx1:=cell_later hC.out x1
       have zx2:=cell_later hC.out x2
       have zx3:=cell_later hC.out x3
       have zx4:=cell_later hC.out x4
       have zx5:=cell_later hC.out x5
       have zy0:=cell_later hC.out y0
       have zy1:=cell_later hC.out y1
       have zy2:=cell_later hC.out y2
       have zy3:=cell_later hC.out y3
       have zy4:=cell_later hC.out y4
       have zy5:=cell_later hC.out y5
       unfold Oper.quietAt
       go_simp
       first|done|(go_at_call 5;refine(HA1.out _ hC.out).mono ?_;rintro e wx ⟨rfl,hbx⟩;exact⟨rfl,Lib.hid (belowCall hC.out hbx)⟩)|(go_at_call 6;refine(HA2.out _ hC.out).mono ?_;rintro e wx ⟨rfl,hbx⟩;exact⟨rfl,Lib.hid (belowCall hC.out hbx)⟩)|(go_at_call 7;refine(HA3.out _ hC.out).mono ?_;rintro e wx ⟨rfl,hbx⟩;exact⟨rfl,Lib.hid (belowCall hC.out hbx)⟩)|(go_at_call 8;refine(HA4.out _ hC.out).mono ?_;rintro e wx ⟨rfl,hbx⟩;exact⟨rfl,Lib.hid (belowCall hC.out hbx)⟩)|(go_at_call 10;refine(HA6.out _ hC.out).mono ?_;rintro e wx ⟨rfl,hbx⟩;exact⟨rfl,Lib.hid (belowCall hC.out hbx)⟩)|(go_at_call 9;(first|with_reducible refine(HA5.out _ hC.out).mono ?_|with_reducible refine(HA7.out _ hC.out).mono ?_|with_reducible refine(HA8.out _ hC.out).mono ?_);rintro e wx ⟨rfl,hbx⟩;exact⟨rfl,Lib.hid (belowCall hC.out hbx)⟩)|with_reducible rfl|rfl
      simp only[Act.put,List.setIfInBounds_toArray,List.set_cons_zero,List.set_cons_succ]
      refine hK _ ?_
      clear hK K)
  with_reducible refine wpQuiet_nil ?_
  intro wq HQ
  have zx0:=cell_later HQ.out x0
  have zx1:=cell_later HQ.out x1
  have zx2:=cell_later HQ.out x2
  have zx3:=cell_later HQ.out x3
  have zx4:=cell_later HQ.out x4
  have zx5:=cell_later HQ.out x5
  have zy0:=cell_later HQ.out y0
  have zy1:=cell_later HQ.out y1
  have zy2:=cell_later HQ.out y2
  have zy3:=cell_later HQ.out y3
  have zy4:=cell_later HQ.out y4
  have zy5:=cell_later HQ.out y5
  have HB3:=Lib.hid (belowCall HBw.out HQ.out)
  go_wp2_with fail
  go_ret
  exact⟨rfl,HB3.out⟩
end Go.Proofs.YtpnagbgpbajfeaaGreatDoor
