/- Texts joined for a claim: ForL, ForC, ForD: plain laws and contracts. No conditions beyond those that each lemma types. -/
import Derived.Test.YtpnagbgpbajfeaaGreatDoorQ01
import Derived.Test.YtpnagbgpbajfeaaGreatDoorQ15
import Derived.Test.YtpnagbgpbajfeaaGreatDoorQ19
set_option linter.unusedVariables false
set_option linter.unusedSimpArgs false
set_option maxRecDepth 100000
set_option maxHeartbeats 8000000
namespace Go.Proofs.YtpnagbgpbajfeaaGreatDoor
open Go.RowKit Mem
def svgAttrs:List ByteArray:= [⟨#[97,116,116,114,105,98,117,116,101,78,97,109,101]⟩,⟨#[103,114,97,100,105,101,110,116,84,114,97,110,115,102,111,114,109]⟩,⟨#[103,114,97,100,105,101,110,116,85,110,105,116,115]⟩,⟨#[112,97,116,104,76,101,110,103,116,104]⟩,⟨#[112,97,116,116,101,114,110,85,110,105,116,115]⟩,⟨#[112,114,101,115,101,114,118,101,65,115,112,101,99,116,82,97,116,105,111]⟩,⟨#[114,101,102,88]⟩,⟨#[114,101,102,89]⟩,⟨#[115,116,100,68,101,118,105,97,116,105,111,110]⟩,⟨#[116,101,120,116,76,101,110,103,116,104]⟩,⟨#[118,105,101,119,66,111,120]⟩]
def mathAttrs:List ByteArray:= [⟨#[100,101,102,105,110,105,116,105,111,110,85,82,76]⟩]
def wordsOf (space:Int):List ByteArray:=if space=1 then svgAttrs else if space=2 then mathAttrs else []
def adjust (words:List ByteArray) (p:Pair):Pair:=(large words p.1,p.2)
def attrsF (space:Int) (l:List Pair):List Pair:=l.map (adjust (wordsOf space))
theorem info_attr:(Tryz.prog.info? 34).map (fun i=>(i.zero,i.size,i.bytes))=some (some (.agg #[.string ⟨#[]⟩,.string ⟨#[]⟩]),2,32):=by kernel_rfl
theorem cell_next {X:Array Value} {e:TypeId} {j:Nat} {v:Value} (w:World) (h:X[j]?=some v):(w.alloc (.cells X e)).drew.cell? ⟨w.heap.size,j,none⟩=some v:=by
 rw[World.cell?_drew,World.cell?_alloc_new];exact h
theorem cell_old {w:World} {o:Obj} {b j:Nat} {v:Value} (hb:b<w.heap.size) (h:w.cell? ⟨b,j,none⟩=some v):(w.alloc o).drew.cell? ⟨b,j,none⟩=some v:=by
 rw[World.cell?_drew,World.cell?_alloc_past _ _ _ hb];exact h
theorem froz_old {w wx:World} {o:Obj} {b j:Nat} (hx:Below (w.alloc o).drew.heap.size (w.alloc o).drew wx) (hb:b<w.heap.size) (h:w.frozen? ⟨b,j,none⟩=false):wx.frozen? ⟨b,j,none⟩=false:=by
 rw[hx.frozen (p:=⟨b,j,none⟩) (by simp;omega),World.frozen?_drew,World.frozen?_alloc_past _ _ _ hb];exact h
def part (words:List ByteArray) (l:List Pair) (k:Nat):List Pair:=(l.take k).map (adjust words)++blanks (l.length-k)
theorem part_zero (words:List ByteArray) (l:List Pair):part words l 0=blanks l.length:=by simp[part]
theorem part_all (words:List ByteArray) (l:List Pair):part words l l.length=l.map (adjust words):=by simp[part,blanks]
theorem part_length (words:List ByteArray) (l:List Pair) (k:Nat) (h:k≤l.length):(part words l k).length=l.length:=by simp[part,blanks];omega
theorem part_succ (words:List ByteArray) (l:List Pair) (k:Nat) (h:k<l.length):(part words l k).set k (adjust words l[k])=part words l (k+1):=by
 simp only[part,blanks]
 rw[List.set_append_right _ _ (by simp;omega)]
 simp only[List.length_map,List.length_take,Nat.min_eq_left (Nat.le_of_lt h),Nat.sub_self]
 rw[show l.length-k=(l.length-(k+1))+1 from by omega,List.replicate_succ,List.set_cons_zero,List.take_succ_eq_append_getElem h,List.map_append]
 simp
theorem part_step (words:List ByteArray) (l:List Pair) (k:Nat) (h:k<l.length):((pairsV (part words l k)).set (k*2) (.string (large words l[k].1))).set (k*2+1) (.string l[k].2)=pairsV (part words l (k+1)):=by
 have h2:=pairsV_set (part words l k) k (adjust words l[k])
 rw[part_succ words l k h]at h2
 exact h2
theorem attrs_svg (l:List Pair) (a:Option Addr) (c:Nat) (w:World) (hl:l.length≤2097152) (ha:At w a (pairsV l)) :
 Calls Tryz.prog 99 #[.int .i64 1,.slice a l.length c] w fun e w'=> ∃v,e= .returned v∧w'.ownsRow w.heap.size 34 2 v l.length (pairsV (attrsF 1 l))∧Below w.heap.size w w':=by
 obtain⟨i0,hi,hz0,hz1,hz2⟩:=info_parts info_attr
 have HA:=Lib.hid ha
 clear ha
 go_enter Tryz.func99,Tryz.ntmps99
 have hb2:i0.bytes*l.length≤281474976710656:=by rw[hz2];omega
 have hb3:l.length≤maxLen:=by unfold maxLen;omega
 go_wp2_with (at_make;refine wpList_make_full _ rfl _ _ 22 rfl w.heap.size 34 i0 _ 2 Tryz.underlying22 hi hz0 hz1 .i64 .i64 (l.length:Int) (l.length:Int) l.length rfl rfl rfl rfl hb2 hb3 (by simp) ?_;intro w1 hown hgr;have HO:=Lib.hid hown;have HG:=Lib.hid hgr;clear hown hgr hi hz0 hz1 hz2 hb2 hb3)
 go_loopw [21] (fun i wr=> ∃k:Nat,k≤l.length∧i= .int .i64 k∧Below w.heap.size w wr∧Row wr w.heap.size (strsV svgAttrs)∧wr.ownsRow w.heap.size 34 2 (.slice (some ⟨w.heap.size+1,0,none⟩) l.length l.length) l.length (pairsV (part (svgAttrs) l k))) (fun i _=>l.length-(intOf i).toNat)
 case atStart =>
  refine⟨0,Nat.zero_le _,rfl,((Below.refl _ _).alloc (Nat.le_refl _) _).grown HG.out (by simp) (fun k h=>by cases h),(Row.alloc w _ _).kept (HG.out.block _ (by simp) (by simp)),?_⟩
  rw[part_zero,←made_pairs]
  have h:=HO.out
  simp only[World.size_alloc,Value.cells]at h
  exact h
 case round =>
  obtain⟨k,hk,rfl,hb,hwd,ho⟩:=hrel
  clear HO HG
  have HB:=Lib.hid hb
  have HW:=Lib.hid hwd
  have HO:=Lib.hid ho
  by_cases hlt:k<l.length
  ·obtain⟨b,o,rfl,hlb,h1,h2⟩:=pair_cells (HA.out.below hb) hlt
   have hn:(part (svgAttrs) l k).length=l.length:=part_length _ l k hk
   have hkp:k<(part (svgAttrs) l k).length:=by rw[hn];exact hlt
   have g1:wr.cell? ⟨w.heap.size+1,k*2,none⟩=some (.string (part (svgAttrs) l k)[k].1):=(own_row ho).cell (pairsV_get0 _ k hkp)
   have g2:wr.cell? ⟨w.heap.size+1,k*2+1,none⟩=some (.string (part (svgAttrs) l k)[k].2):=(own_row ho).cell (pairsV_get1 _ k hkp)
   have f1:wr.frozen? ⟨w.heap.size+1,k*2,none⟩=false:=ho.frozenAt _
   have f2:wr.frozen? ⟨w.heap.size+1,k*2+1,none⟩=false:=ho.frozenAt _
   have hg:=(own_row ho).lt
   have HN:=Lib.hid hn
   clear hb hwd ho hn
   go_wp2_with fail
   go_region_with (go_at_call 151;refine(written_any _ (svgAttrs) _ _ _ (by decide) (by decide) ?_).mono ?_;(exact(HW.out.below (((Below.refl _ _).alloc (Nat.le_refl _) _).drew) HW.out.lt).at);rintro e wx ⟨rfl,hbx⟩;have p0:=cell_later hbx (cell_next (X:= #[.string l[k].1,.string l[k].2]) (e:=34) (j:=1) (v:= .string l[k].2) wr rfl);have p1:=cell_later hbx (cell_old (o:= .cells #[.string l[k].1,.string l[k].2] 34) hg g1);have p2:=cell_later hbx (cell_old (o:= .cells #[.string l[k].1,.string l[k].2] 34) hg g2);have p3:=froz_old (o:= .cells #[.string l[k].1,.string l[k].2] 34) hbx hg f1;have p4:=froz_old (o:= .cells #[.string l[k].1,.string l[k].2] 34) hbx hg f2;have hzx:wr.heap.size<wx.heap.size:=(by have hz0:=hbx.size;simp at hz0;omega);have HX:=Lib.hid hbx;clear hbx)
   all_goals
    go_wp2
    go_roundw
    case rel =>
     have hB:=belowCall ((HB.out.alloc HB.out.size (.cells #[.string l[k].1,.string l[k].2] 34)).drew) HX.out
     have hO:=own_below (own_below HO.out (((Below.refl _ _).alloc (Nat.le_refl _) (.cells #[.string l[k].1,.string l[k].2] 34)).drew)) HX.out
     have hR:=HW.out.below (((Below.refl _ _).alloc (Nat.le_refl _) (.cells #[.string l[k].1,.string l[k].2] 34)).drew) HW.out.lt
     have hR':=hR.below HX.out hR.lt
     refine⟨k+1,by omega,by go_num,(hB.setCell (by simp) _).setCell (by simp) _,?_,?_⟩
     ·exact(hR'.kept (heap_setCell_other _ _ _ _ (by simp))).kept (heap_setCell_other _ _ _ _ (by simp))
     ·have hS:=((hO.stored (k*2) (.string (large svgAttrs l[k].1))).1.stored (k*2+1) (.string l[k].2)).1
      rw[part_step svgAttrs l k hlt]at hS
      exact hS
    case measure=>simp[intOf];omega
  ·obtain rfl:k=l.length:=by omega
   clear hb hwd ho
   go_wp2_with fail
   go_ret
   exact⟨_,rfl,by have:=HO.out;rw[part_all]at this;exact this,HB.out⟩
theorem attrs_math (l:List Pair) (a:Option Addr) (c:Nat) (w:World) (hl:l.length≤2097152) (ha:At w a (pairsV l)) :
 Calls Tryz.prog 99 #[.int .i64 2,.slice a l.length c] w fun e w'=> ∃v,e= .returned v∧w'.ownsRow w.heap.size 34 2 v l.length (pairsV (attrsF 2 l))∧Below w.heap.size w w':=by
 obtain⟨i0,hi,hz0,hz1,hz2⟩:=info_parts info_attr
 have HA:=Lib.hid ha
 clear ha
 go_enter Tryz.func99,Tryz.ntmps99
 have hb2:i0.bytes*l.length≤281474976710656:=by rw[hz2];omega
 have hb3:l.length≤maxLen:=by unfold maxLen;omega
 go_wp2_with (at_make;refine wpList_make_full _ rfl _ _ 22 rfl w.heap.size 34 i0 _ 2 Tryz.underlying22 hi hz0 hz1 .i64 .i64 (l.length:Int) (l.length:Int) l.length rfl rfl rfl rfl hb2 hb3 (by simp) ?_;intro w1 hown hgr;have HO:=Lib.hid hown;have HG:=Lib.hid hgr;clear hown hgr hi hz0 hz1 hz2 hb2 hb3)
 go_loopw [21] (fun i wr=> ∃k:Nat,k≤l.length∧i= .int .i64 k∧Below w.heap.size w wr∧Row wr w.heap.size (strsV mathAttrs)∧wr.ownsRow w.heap.size 34 2 (.slice (some ⟨w.heap.size+1,0,none⟩) l.length l.length) l.length (pairsV (part (mathAttrs) l k))) (fun i _=>l.length-(intOf i).toNat)
 case atStart =>
  refine⟨0,Nat.zero_le _,rfl,((Below.refl _ _).alloc (Nat.le_refl _) _).grown HG.out (by simp) (fun k h=>by cases h),(Row.alloc w _ _).kept (HG.out.block _ (by simp) (by simp)),?_⟩
  rw[part_zero,←made_pairs]
  have h:=HO.out
  simp only[World.size_alloc,Value.cells]at h
  exact h
 case round =>
  obtain⟨k,hk,rfl,hb,hwd,ho⟩:=hrel
  clear HO HG
  have HB:=Lib.hid hb
  have HW:=Lib.hid hwd
  have HO:=Lib.hid ho
  by_cases hlt:k<l.length
  ·obtain⟨b,o,rfl,hlb,h1,h2⟩:=pair_cells (HA.out.below hb) hlt
   have hn:(part (mathAttrs) l k).length=l.length:=part_length _ l k hk
   have hkp:k<(part (mathAttrs) l k).length:=by rw[hn];exact hlt
   have g1:wr.cell? ⟨w.heap.size+1,k*2,none⟩=some (.string (part (mathAttrs) l k)[k].1):=(own_row ho).cell (pairsV_get0 _ k hkp)
   have g2:wr.cell? ⟨w.heap.size+1,k*2+1,none⟩=some (.string (part (mathAttrs) l k)[k].2):=(own_row ho).cell (pairsV_get1 _ k hkp)
   have f1:wr.frozen? ⟨w.heap.size+1,k*2,none⟩=false:=ho.frozenAt _
   have f2:wr.frozen? ⟨w.heap.size+1,k*2+1,none⟩=false:=ho.frozenAt _
   have hg:=(own_row ho).lt
   have HN:=Lib.hid hn
   clear hb hwd ho hn
   go_wp2_with fail
   go_region_with (go_at_call 151;refine(written_any _ (mathAttrs) _ _ _ (by decide) (by decide) ?_).mono ?_;(exact(HW.out.below (((Below.refl _ _).alloc (Nat.le_refl _) _).drew) HW.out.lt).at);rintro e wx ⟨rfl,hbx⟩;have p0:=cell_later hbx (cell_next (X:= #[.string l[k].1,.string l[k].2]) (e:=34) (j:=1) (v:= .string l[k].2) wr rfl);have p1:=cell_later hbx (cell_old (o:= .cells #[.string l[k].1,.string l[k].2] 34) hg g1);have p2:=cell_later hbx (cell_old (o:= .cells #[.string l[k].1,.string l[k].2] 34) hg g2);have p3:=froz_old (o:= .cells #[.string l[k].1,.string l[k].2] 34) hbx hg f1;have p4:=froz_old (o:= .cells #[.string l[k].1,.string l[k].2] 34) hbx hg f2;have hzx:wr.heap.size<wx.heap.size:=(by have hz0:=hbx.size;simp at hz0;omega);have HX:=Lib.hid hbx;clear hbx)
   all_goals
    go_wp2
    go_roundw
    case rel =>
     have hB:=belowCall ((HB.out.alloc HB.out.size (.cells #[.string l[k].1,.string l[k].2] 34)).drew) HX.out
     have hO:=own_below (own_below HO.out (((Below.refl _ _).alloc (Nat.le_refl _) (.cells #[.string l[k].1,.string l[k].2] 34)).drew)) HX.out
     have hR:=HW.out.below (((Below.refl _ _).alloc (Nat.le_refl _) (.cells #[.string l[k].1,.string l[k].2] 34)).drew) HW.out.lt
     have hR':=hR.below HX.out hR.lt
     refine⟨k+1,by omega,by go_num,(hB.setCell (by simp) _).setCell (by simp) _,?_,?_⟩
     ·exact(hR'.kept (heap_setCell_other _ _ _ _ (by simp))).kept (heap_setCell_other _ _ _ _ (by simp))
     ·have hS:=((hO.stored (k*2) (.string (large mathAttrs l[k].1))).1.stored (k*2+1) (.string l[k].2)).1
      rw[part_step mathAttrs l k hlt]at hS
      exact hS
    case measure=>simp[intOf];omega
  ·obtain rfl:k=l.length:=by omega
   clear hb hwd ho
   go_wp2_with fail
   go_ret
   exact⟨_,rfl,by have:=HO.out;rw[part_all]at this;exact this,HB.out⟩
theorem attrs_other (space:Int) (h1:(space==1)=false) (h2':(space==2)=false) (l:List Pair) (a:Option Addr) (c:Nat) (w:World) (hl:l.length≤2097152) (ha:At w a (pairsV l)) :
 Calls Tryz.prog 99 #[.int .i64 space,.slice a l.length c] w fun e w'=> ∃v,e= .returned v∧w'.ownsRow w.heap.size 34 2 v l.length (pairsV (attrsF space l))∧Below w.heap.size w w':=by
 have HE:Hid (attrsF space l=l.map (adjust [])):=by show _=_;rw[attrsF,wordsOf,if_neg (by simpa using h1),if_neg (by simpa using h2')]
 obtain⟨i0,hi,hz0,hz1,hz2⟩:=info_parts info_attr
 have HA:=Lib.hid ha
 clear ha
 go_enter Tryz.func99,Tryz.ntmps99
 have hb2:i0.bytes*l.length≤281474976710656:=by rw[hz2];omega
 have hb3:l.length≤maxLen:=by unfold maxLen;omega
 go_wp2_with (at_make;refine wpList_make_full _ rfl _ _ 22 rfl w.heap.size 34 i0 _ 2 Tryz.underlying22 hi hz0 hz1 .i64 .i64 (l.length:Int) (l.length:Int) l.length rfl rfl rfl rfl hb2 hb3 (by simp) ?_;intro w1 hown hgr;have HO:=Lib.hid hown;have HG:=Lib.hid hgr;clear hown hgr hi hz0 hz1 hz2 hb2 hb3)
 go_loopw [21] (fun i wr=> ∃k:Nat,k≤l.length∧i= .int .i64 k∧Below w.heap.size w wr∧wr.ownsRow w.heap.size 34 2 (.slice (some ⟨w.heap.size,0,none⟩) l.length l.length) l.length (pairsV (part (([]:List ByteArray)) l k))) (fun i _=>l.length-(intOf i).toNat)
 case atStart =>
  refine⟨0,Nat.zero_le _,rfl,(Below.refl _ _).grown HG.out (by simp) (fun k h=>by cases h),?_⟩
  rw[part_zero,←made_pairs]
  have h:=HO.out
  simp only[Value.cells]at h
  exact h
 case round =>
  obtain⟨k,hk,rfl,hb,ho⟩:=hrel
  clear HO HG
  have HB:=Lib.hid hb
  have HO:=Lib.hid ho
  by_cases hlt:k<l.length
  ·obtain⟨b,o,rfl,hlb,h1,h2⟩:=pair_cells (HA.out.below hb) hlt
   have hn:(part (([]:List ByteArray)) l k).length=l.length:=part_length _ l k hk
   have hkp:k<(part (([]:List ByteArray)) l k).length:=by rw[hn];exact hlt
   have g1:wr.cell? ⟨w.heap.size,k*2,none⟩=some (.string (part (([]:List ByteArray)) l k)[k].1):=(own_row ho).cell (pairsV_get0 _ k hkp)
   have g2:wr.cell? ⟨w.heap.size,k*2+1,none⟩=some (.string (part (([]:List ByteArray)) l k)[k].2):=(own_row ho).cell (pairsV_get1 _ k hkp)
   have f1:wr.frozen? ⟨w.heap.size,k*2,none⟩=false:=ho.frozenAt _
   have f2:wr.frozen? ⟨w.heap.size,k*2+1,none⟩=false:=ho.frozenAt _
   have hg:=(own_row ho).lt
   have HN:=Lib.hid hn
   clear hb ho hn
   go_wp2_with fail
   go_region_with (go_at_call 151;refine(written_any _ (([]:List ByteArray)) _ _ _ (by decide) (by decide) ?_).mono ?_;(exact At.nil _ _);rintro e wx ⟨rfl,hbx⟩;have p0:=cell_later hbx (cell_next (X:= #[.string l[k].1,.string l[k].2]) (e:=34) (j:=1) (v:= .string l[k].2) wr rfl);have p1:=cell_later hbx (cell_old (o:= .cells #[.string l[k].1,.string l[k].2] 34) hg g1);have p2:=cell_later hbx (cell_old (o:= .cells #[.string l[k].1,.string l[k].2] 34) hg g2);have p3:=froz_old (o:= .cells #[.string l[k].1,.string l[k].2] 34) hbx hg f1;have p4:=froz_old (o:= .cells #[.string l[k].1,.string l[k].2] 34) hbx hg f2;have hzx:wr.heap.size<wx.heap.size:=(by have hz0:=hbx.size;simp at hz0;omega);have HX:=Lib.hid hbx;clear hbx)
   all_goals
    go_wp2
    go_roundw
    case rel =>
     have hB:=belowCall ((HB.out.alloc HB.out.size (.cells #[.string l[k].1,.string l[k].2] 34)).drew) HX.out
     have hO:=own_below (own_below HO.out (((Below.refl _ _).alloc (Nat.le_refl _) (.cells #[.string l[k].1,.string l[k].2] 34)).drew)) HX.out
     refine⟨k+1,by omega,by go_num,(hB.setCell (by simp) _).setCell (by simp) _,?_⟩
     ·have hS:=((hO.stored (k*2) (.string (large ([]:List ByteArray) l[k].1))).1.stored (k*2+1) (.string l[k].2)).1
      rw[part_step ([]:List ByteArray) l k hlt]at hS
      exact hS
    case measure=>simp[intOf];omega
  ·obtain rfl:k=l.length:=by omega
   clear hb ho
   go_wp2_with fail
   go_ret
   exact⟨_,rfl,by have:=HO.out;rw[part_all,←HE.out]at this;exact this,HB.out⟩
theorem attrs_any (space:Int) (l:List Pair) (a:Option Addr) (c:Nat) (w:World) (hl:l.length≤2097152) (ha:At w a (pairsV l)) :
 Calls Tryz.prog 99 #[.int .i64 space,.slice a l.length c] w fun e w'=> ∃v,e= .returned v∧w'.ownsRow w.heap.size 34 2 v l.length (pairsV (attrsF space l))∧Below w.heap.size w w':=by
 by_cases h1:space=1
 ·subst h1;exact attrs_svg l a c w hl ha
 ·by_cases h2:space=2
  ·subst h2;exact attrs_math l a c w hl ha
  ·exact attrs_other space (by simpa using h1) (by simpa using h2) l a c w hl ha
theorem valueOf_size (attrs:List Pair) (n:ByteArray) (hs: ∀p∈attrs,p.2.size≤maxLen):(valueOf attrs n).size≤maxLen:=by
 induction attrs with
 |nil=>rw[valueOf];decide
 |cons p r ih =>
  rw[valueOf]
  split
  ·exact hs p List.mem_cons_self
  ·exact ih fun q hq=>hs q (List.mem_cons_of_mem _ hq)
section
def brkNames:List ByteArray:= [⟨#[98]⟩,⟨#[98,105,103]⟩,⟨#[98,108,111,99,107,113,117,111,116,101]⟩,⟨#[98,111,100,121]⟩,⟨#[98,114]⟩,⟨#[99,101,110,116,101,114]⟩,⟨#[99,111,100,101]⟩,⟨#[100,100]⟩,⟨#[100,105,118]⟩,⟨#[100,108]⟩,⟨#[100,116]⟩,⟨#[101,109]⟩,⟨#[101,109,98,101,100]⟩,⟨#[104,49]⟩,⟨#[104,50]⟩,⟨#[104,51]⟩,⟨#[104,52]⟩,⟨#[104,53]⟩,⟨#[104,54]⟩,⟨#[104,101,97,100]⟩,⟨#[104,114]⟩,⟨#[105]⟩,⟨#[105,109,103]⟩,⟨#[108,105]⟩,⟨#[108,105,115,116,105,110,103]⟩,⟨#[109,101,110,117]⟩,⟨#[109,101,116,97]⟩,⟨#[110,111,98,114]⟩,⟨#[111,108]⟩,⟨#[112]⟩,⟨#[112,114,101]⟩,⟨#[114,117,98,121]⟩,⟨#[115]⟩,⟨#[115,109,97,108,108]⟩,⟨#[115,112,97,110]⟩,⟨#[115,116,114,111,110,103]⟩,⟨#[115,116,114,105,107,101]⟩,⟨#[115,117,98]⟩,⟨#[115,117,112]⟩,⟨#[116,97,98,108,101]⟩,⟨#[116,116]⟩,⟨#[117]⟩,⟨#[117,108]⟩,⟨#[118,97,114]⟩]
def endNames:List ByteArray:= [⟨#[98,114]⟩,⟨#[112]⟩]
def sizeNames:List ByteArray:= [⟨#[99,111,108,111,114]⟩,⟨#[102,97,99,101]⟩,⟨#[115,105,122,101]⟩]
def anySize (l:List Pair):Bool:=l.any fun p=>isIn sizeNames p.1
def breaksF (kind:Int) (name:ByteArray) (attrs:List Pair):Bool :=
 if kind=3 then isIn endNames name else if kind=2 then(if isIn brkNames name then true else if name=(⟨#[102,111,110,116]⟩:ByteArray)then anySize attrs else false)else false
abbrev markA (kind:Int) (name:ByteArray) (a:Option Addr) (n c:Nat) (self:Bool) (text:ByteArray):Value :=
 .agg #[.int .i64 kind,.string name,.slice a n c,.bool self,.string text]
theorem anySize_step (l:List Pair) (k:Nat) (h:k<l.length) (hne:isIn sizeNames l[k].1=false):anySize (l.drop k)=anySize (l.drop (k+1)):=by
 rw[anySize,List.drop_eq_getElem_cons h,List.any_cons,hne,Bool.false_or];rfl
theorem anySize_hit (l:List Pair) (k:Nat) (h:k<l.length) (he:isIn sizeNames l[k].1=true):anySize (l.drop k)=true:=by
 rw[anySize,List.drop_eq_getElem_cons h,List.any_cons,he,Bool.true_or]
section
variable (name:ByteArray) (attrs:List Pair) (a:Option Addr) (c:Nat) (self:Bool) (text:ByteArray) (w:World)
theorem breaks_end :
 Calls Tryz.prog 58 #[markA 3 name a attrs.length c self text] w fun e w'=>e= .returned (.bool (breaksF 3 name attrs))∧Below w.heap.size w w':=by
 have HP:Hid (breaksF 3 name attrs=isIn endNames name):=by show _=_;simp[breaksF]
 cases hin:isIn endNames name
 ·have HI:=Lib.hid hin
  rw[isIn_mk]at hin
  have no0:(name.toList== [98,114])=false:=isIn_no hin [98,114] (by decide);have no1:(name.toList== [112])=false:=isIn_no hin [112] (by decide)
  clear hin
  go_enter Tryz.func58,Tryz.ntmps58
  go_wp2_with fail
  go_ret
  exact⟨ret_bool (by rw[HP.out,HI.out]),(Below.refl _ _).alloc (Nat.le_refl _) _⟩
 ·have HI:=Lib.hid hin
  have h:=isIn_mem hin
  clear hin
  simp only[endNames,List.mem_cons,List.not_mem_nil,or_false,eq_mk_iff]at h
  rcases h with h|h
  all_goals
   go_enter Tryz.func58,Tryz.ntmps58
   go_wp2_with fail
   go_ret
   exact⟨ret_bool (by rw[HP.out,HI.out]),(Below.refl _ _).alloc (Nat.le_refl _) _⟩
theorem breaks_none (kind:Int) (h3:(kind==3)=false) (h2:(kind==2)=false) :
 Calls Tryz.prog 58 #[markA kind name a attrs.length c self text] w fun e w'=>e= .returned (.bool (breaksF kind name attrs))∧Below w.heap.size w w':=by
 have HP:Hid (breaksF kind name attrs=false):=by show _=_;rw[breaksF,if_neg (by simpa using h3),if_neg (by simpa using h2)]
 have h2':(kind !=2)=true:=by simpa using h2
 go_enter Tryz.func58,Tryz.ntmps58
 go_wp2_with fail
 go_ret
 exact⟨ret_bool HP.out.symm,(Below.refl _ _).alloc (Nat.le_refl _) _⟩
theorem breaks_no (h2f:isIn brkNames name=false) (hf:(name.toList==([102,111,110,116]:List UInt8))=false) :
 Calls Tryz.prog 58 #[markA 2 name a attrs.length c self text] w fun e w'=>e= .returned (.bool (breaksF 2 name attrs))∧Below w.heap.size w w':=by
 have HP:Hid (breaksF 2 name attrs=false):=by
  show _=_
  rw[breaksF,if_neg (by decide),if_pos rfl,h2f,if_neg (by decide),if_neg]
  intro e
  rw[eq_mk_iff]at e
  rw[e]at hf
  simp at hf
 rw[isIn_mk]at h2f
 have no0:(name.toList== [98])=false:=isIn_no h2f [98] (by decide);have no1:(name.toList== [98,105,103])=false:=isIn_no h2f [98,105,103] (by decide);have no2:(name.toList== [98,108,111,99,107,113,117,111,116,101])=false:=isIn_no h2f [98,108,111,99,107,113,117,111,116,101] (by decide);have no3:(name.toList== [98,111,100,121])=false:=isIn_no h2f [98,111,100,121] (by decide);have no4:(name.toList== [98,114])=false:=isIn_no h2f [98,114] (by decide);have no5:(name.toList== [99,101,110,116,101,114])=false:=isIn_no h2f [99,101,110,116,101,114] (by decide);have no6:(name.toList== [99,111,100,101])=false:=isIn_no h2f [99,111,100,101] (by decide);have no7:(name.toList== [100,100])=false:=isIn_no h2f [100,100] (by decide);have no8:(name.toList== [100,105,118])=false:=isIn_no h2f [100,105,118] (by decide);have no9:(name.toList== [100,108])=false:=isIn_no h2f [100,108] (by decide);have no10:(name.toList== [100,116])=false:=isIn_no h2f [100,116] (by decide);have no11:(name.toList== [101,109])=false:=isIn_no h2f [101,109] (by decide);have no12:(name.toList== [101,109,98,101,100])=false:=isIn_no h2f [101,109,98,101,100] (by decide);have no13:(name.toList== [104,49])=false:=isIn_no h2f [104,49] (by decide);have no14:(name.toList== [104,50])=false:=isIn_no h2f [104,50] (by decide);have no15:(name.toList== [104,51])=false:=isIn_no h2f [104,51] (by decide);have no16:(name.toList== [104,52])=false:=isIn_no h2f [104,52] (by decide);have no17:(name.toList== [104,53])=false:=isIn_no h2f [104,53] (by decide);have no18:(name.toList== [104,54])=false:=isIn_no h2f [104,54] (by decide);have no19:(name.toList== [104,101,97,100])=false:=isIn_no h2f [104,101,97,100] (by decide);have no20:(name.toList== [104,114])=false:=isIn_no h2f [104,114] (by decide);have no21:(name.toList== [105])=false:=isIn_no h2f [105] (by decide);have no22:(name.toList== [105,109,103])=false:=isIn_no h2f [105,109,103] (by decide);have no23:(name.toList== [108,105])=false:=isIn_no h2f [108,105] (by decide);have no24:(name.toList== [108,105,115,116,105,110,103])=false:=isIn_no h2f [108,105,115,116,105,110,103] (by decide);have no25:(name.toList== [109,101,110,117])=false:=isIn_no h2f [109,101,110,117] (by decide);have no26:(name.toList== [109,101,116,97])=false:=isIn_no h2f [109,101,116,97] (by decide);have no27:(name.toList== [110,111,98,114])=false:=isIn_no h2f [110,111,98,114] (by decide);have no28:(name.toList== [111,108])=false:=isIn_no h2f [111,108] (by decide);have no29:(name.toList== [112])=false:=isIn_no h2f [112] (by decide);have no30:(name.toList== [112,114,101])=false:=isIn_no h2f [112,114,101] (by decide);have no31:(name.toList== [114,117,98,121])=false:=isIn_no h2f [114,117,98,121] (by decide);have no32:(name.toList== [115])=false:=isIn_no h2f [115] (by decide);have no33:(name.toList== [115,109,97,108,108])=false:=isIn_no h2f [115,109,97,108,108] (by decide);have no34:(name.toList== [115,112,97,110])=false:=isIn_no h2f [115,112,97,110] (by decide);have no35:(name.toList== [115,116,114,111,110,103])=false:=isIn_no h2f [115,116,114,111,110,103] (by decide);have no36:(name.toList== [115,116,114,105,107,101])=false:=isIn_no h2f [115,116,114,105,107,101] (by decide);have no37:(name.toList== [115,117,98])=false:=isIn_no h2f [115,117,98] (by decide);have no38:(name.toList== [115,117,112])=false:=isIn_no h2f [115,117,112] (by decide);have no39:(name.toList== [116,97,98,108,101])=false:=isIn_no h2f [116,97,98,108,101] (by decide);have no40:(name.toList== [116,116])=false:=isIn_no h2f [116,116] (by decide);have no41:(name.toList== [117])=false:=isIn_no h2f [117] (by decide);have no42:(name.toList== [117,108])=false:=isIn_no h2f [117,108] (by decide);have no43:(name.toList== [118,97,114])=false:=isIn_no h2f [118,97,114] (by decide)
 clear h2f
 go_enter Tryz.func58,Tryz.ntmps58
 go_wp2_with fail
 go_ret
 exact⟨ret_bool HP.out.symm,(Below.refl _ _).alloc (Nat.le_refl _) _⟩
theorem breaks_font (h2f:isIn brkNames name=false) (hf:name.toList=([102,111,110,116]:List UInt8)) (hl:attrs.length≤maxLen) (ha:At w a (pairsV attrs)) :
 Calls Tryz.prog 58 #[markA 2 name a attrs.length c self text] w fun e w'=>e= .returned (.bool (breaksF 2 name attrs))∧Below w.heap.size w w':=by
 have HP:Hid (breaksF 2 name attrs=anySize attrs):=by
  show _=_
  rw[breaksF,if_neg (by decide),if_pos rfl,h2f,if_neg (by decide),if_pos ((eq_mk_iff _ _).2 hf)]
 have HA:=Lib.hid ha
 clear ha h2f
 unfold maxLen at hl
 go_enter Tryz.func58,Tryz.ntmps58
 go_wp2_with fail
 go_loopw [71] (fun i wr=> ∃k:Nat,k≤attrs.length∧i= .int .i64 k∧Below w.heap.size w wr∧anySize attrs=anySize (attrs.drop k)) (fun i _=>attrs.length-(intOf i).toNat)
 case atStart=>exact⟨0,Nat.zero_le _,rfl,(Below.refl _ _).alloc (Nat.le_refl _) _,rfl⟩
 case round =>
  obtain⟨k,hk,rfl,hb,hv⟩:=hrel
  have HV:=Lib.hid hv
  have HB:=Lib.hid hb
  by_cases hlt:k<attrs.length
  ·obtain⟨b,o,rfl,hlb,h1,h2⟩:=pair_cells (HA.out.below hb) hlt
   clear hv hb
   cases hin:isIn sizeNames attrs[k].1
   ·have HI:=Lib.hid hin
    rw[isIn_mk]at hin
    have no0:(attrs[k].1.toList== [99,111,108,111,114])=false:=isIn_no hin [99,111,108,111,114] (by decide);have no1:(attrs[k].1.toList== [102,97,99,101])=false:=isIn_no hin [102,97,99,101] (by decide);have no2:(attrs[k].1.toList== [115,105,122,101])=false:=isIn_no hin [115,105,122,101] (by decide)
    clear hin
    go_wp2_with fail
    go_roundw
    case rel=>exact⟨k+1,by omega,by go_num,HB.out.alloc HB.out.size _,by rw[HV.out,anySize_step attrs k hlt HI.out]⟩
    case measure=>simp[intOf];omega
   ·have HI:=Lib.hid hin
    have h:=isIn_mem hin
    clear hin
    simp only[sizeNames,List.mem_cons,List.not_mem_nil,or_false,eq_mk_iff]at h
    rcases h with h|h|h
    all_goals
     go_wp2_with fail
     go_ret
     exact⟨ret_bool (by rw[HP.out,HV.out,anySize_hit attrs k hlt HI.out]),HB.out.alloc HB.out.size _⟩
  ·clear hb hv
   go_wp2_with fail
   go_ret
   exact⟨ret_bool (by rw[HP.out,HV.out,List.drop_of_length_le (by omega)];rfl),HB.out⟩
end
end
end Go.Proofs.YtpnagbgpbajfeaaGreatDoor
