/- Texts joined for a claim: CuPx, BuNs: plain laws and contracts. No conditions beyond those that each lemma types. -/
import Derived.Test.YtgepobccoffnaaaGreatDoorQ31
import Derived.Test.YtgepobccoffnaaaGreatDoorQ42
import Derived.Test.YtgepobccoffnaaaGreatDoorQ43
import Derived.Test.YtgepobccoffnaaaGreatDoorQ03
import Derived.Test.YtgepobccoffnaaaGreatDoorQ11
import Derived.Test.YtgepobccoffnaaaGreatDoorQ29
set_option linter.unusedVariables false
set_option linter.unusedSimpArgs false
set_option maxRecDepth 100000
set_option maxHeartbeats 8000000
namespace Go.Proofs.YtgepobccoffnaaaGreatDoor
open Go.RowKit Mem
theorem bm_text (t:List UInt8):bmOf (Rd.textM t)=textK (Rd.strB t):=rfl
theorem bytes_strB (t:List UInt8):(Rd.strB t).toList=t:=Rd.toList_strB t
theorem dot_k (t:List UInt8):restF (Rd.strB (46::t))=Rd.strB (46::t)∧aheadF (Rd.strB (46::t))=⟨#[]⟩∧(Rd.strB (46::t)).toList.isEmpty=false:=by
 unfold restF aheadF
 rw[bytes_strB]
 exact⟨rfl,rfl,rfl⟩
theorem plain_lit {t:List UInt8} (ht:Rd.OkB (46::t)) (hl:t.length≤5000000):litR 100 (Rd.newP (Rd.escS false (46::t))) newB=some (plainT (Rd.strB (46::t)),0):=by
 obtain⟨h1,h2,h0⟩:=dot_k t
 obtain⟨r1,r2⟩:=Rd.read_esc ht (List.cons_ne_nil _ _)
 have hsz:(Rd.strB (46::t)).size≠0:=by rw[Rd.strB_size];simp
 obtain⟨p1,p2⟩:=page_k hsz
 have hd:newB.DoF (bmOf (Rd.textM (46::t)))=pg5 (Rd.strB (46::t)):=by rw[bm_text];exact do_k h1 h2 h0
 have he:(pg5 (Rd.strB (46::t))).err=0:=by rw[pg5_S hsz];exact pg_err.2.2.2.2
 have hr:(pg5 (Rd.strB (46::t))).raw=0:=by rw[pg5_S hsz];kernel_rfl
 have hel:=Rd.escG_len false (46::t) false
 have heb:(Rd.newP (Rd.escS false (46::t))).buf.length≤100000000:=by
  show(Rd.putF false (Rd.escS false (46::t))).length≤_
  have:=Rd.putF_len (Rd.escS false (46::t)) false
  have h3:(Rd.escS false (46::t)).length≤6*(46::t).length:=hel
  simp only[List.length_cons]at h3
  omega
 rw[litR,if_pos (by rw[r2,decide_eq_true heb];rfl)]
 simp only[r1]
 rw[hd]
 rw[if_pos (by
  rw[he,hr]
  simp only[Rd.textM,List.isEmpty_nil,Bool.true_and,decide_true,Bool.and_true,Bool.and_eq_true,decide_eq_true_eq,List.length_nil,List.length_cons]
  refine⟨⟨rfl,rfl⟩,decide_eq_true (by omega)⟩)]
 obtain⟨e1,e2⟩:=Rd.read_end (Rd.escS false (46::t)) ((pg5 (Rd.strB (46::t))).tops !=0)
 show litR 99 (Rd.endP (Rd.escS false (46::t)) ((pg5 (Rd.strB (46::t))).tops !=0)) (pg5 (Rd.strB (46::t)))=_
 rw[litR,if_pos (by rw[e2];rfl)]
 simp only[e1]
 rw[if_pos (show(Rd.endP (Rd.escS false (46::t)) ((pg5 (Rd.strB (46::t))).tops !=0)).err=0 from rfl),p1,p2]
theorem plain_B (t:List UInt8) (ht:Rd.OkB (46::t)) (hl:t.length≤5000000) (w:World) :
 Calls Tryz.prog 7 #[.string (Rd.strB (Rd.escS false (46::t)))] w fun r w'=> ∃cs,r= .returned (.tuple #[.agg cs.toArray,.int .i64 0])∧NodeC (· <w.heap.size) w' cs (plainT (Rd.strB (46::t)))∧Below w.heap.size w w':=by
 have h:=plain_lit ht hl
 rw[←Rd.toList_strB (Rd.escS false (46::t))]at h
 have hel:=Rd.escG_len false (46::t) false
 have h3:(Rd.escS false (46::t)).length≤6*(46::t).length:=hel
 simp only[List.length_cons]at h3
 exact Build_lite _ _ h w (by rw[Rd.strB_size];omega)
noncomputable def sameB (n n':NT):Bool:= @decide (n=n') (Classical.propDecidable _)
theorem sameB_no {n n':NT} (h:n≠n'):sameB n n'=false:=by simp[sameB,h]
theorem sameB_yes (n:NT):sameB n n=true:=by simp[sameB]
theorem sameB_iff {n n':NT}:sameB n n'=true↔n=n':=by simp[sameB]
theorem pairs_differ {l m:List Pair} {j:Nat} (h:j<l.length) (h':j<m.length) (hne:l[j]≠m[j]):l≠m:=fun e=>by subst e;exact hne rfl
theorem kids_differ {l m:List NT} {j:Nat} (h:j<l.length) (h':j<m.length) (hne:sameB l[j] m[j]=false):l≠m:=fun e=>by subst e;rw[sameB_yes]at hne;cases hne
theorem pairs_same {l m:List Pair} (hl:l.length=m.length) (h: ∀i (h:i<l.length) (h':i<m.length),l[i]=m[i]):l=m:=List.ext_getElem hl h
theorem kids_same {l m:List NT} (hl:l.length=m.length) (h: ∀i (h:i<l.length) (h':i<m.length),sameB l[i] m[i]=true):l=m:=List.ext_getElem hl fun i h1 h2=>sameB_iff.1 (h i h1 h2)
theorem nsame_step (kind space kind' space':Int) (name text name' text':ByteArray) (at1 at2:List Pair) (a a':Option Addr) (ac ac':Nat) (ka ka':Option Addr) (kc kc':Nat) (kids kids':List NT) (css css':List (List Value)) (w:World)
 (h1:at1.length≤ac) (h2:ac≤maxLen) (h1':at2.length≤ac') (h2':ac'≤maxLen) (h4:AtF Non w a (pairsV at1)) (h4':AtF Non w a' (pairsV at2))
 (k1:kids.length≤kc) (k2:kc≤maxLen) (k1':kids'.length≤kc') (k2':kc'≤maxLen) (k4:AtF Non w ka css.flatten) (k4':AtF Non w ka' css'.flatten) (hl:css.length=kids.length) (hl':css'.length=kids'.length)
 (hk: ∀i (h:i<css.length) (h':i<kids.length),NodeC Non w css[i] kids[i]) (hk': ∀i (h:i<css'.length) (h':i<kids'.length),NodeC Non w css'[i] kids'[i])
 (ih: ∀j (h:j<kids.length) (h':j<kids'.length) (cs cs':List Value) (u:World),NodeC Non u cs kids[j]→NodeC Non u cs' kids'[j]→Calls Tryz.prog 13 #[.agg cs.toArray,.agg cs'.toArray] u fun e u'=>e= .returned (.bool (sameB kids[j] kids'[j]))∧Below u.heap.size u u') :
 Calls Tryz.prog 13 #[.agg #[.int .i64 kind,.int .i64 space,.string name,.slice a at1.length ac,.string text,.slice ka kids.length kc],.agg #[.int .i64 kind',.int .i64 space',.string name',.slice a' at2.length ac',.string text',.slice ka' kids'.length kc']] w fun e w'=>e= .returned (.bool (sameB (.mk kind space name at1 text kids) (.mk kind' space' name' at2 text' kids')))∧Below w.heap.size w w':=by
 have HA:=Lib.hid h4
 have HA':=Lib.hid h4'
 have HK4:=Lib.hid k4
 have HK4':=Lib.hid k4'
 have HK:=Lib.hid hk
 have HK':=Lib.hid hk'
 have HIH:=Lib.hid ih
 have HL:=Lib.hid hl
 have HL':=Lib.hid hl'
 unfold maxLen at h2 k2 h2' k2'
 have hkc:kids.length≤9223372036854775807:=by omega
 have hac:at1.length≤9223372036854775807:=by omega
 have hkc':kids'.length≤9223372036854775807:=by omega
 have hac':at2.length≤9223372036854775807:=by omega
 clear h4 h4' k4 k4' hk hk' ih hl hl' h1 h2 h1' h2' k1 k2 k1' k2'
 have HN:Hid (∀s1 s2,(NT.mk kind space name at1 text kids)≠(.mk kind' space' name' at2 text' kids')→Below w.heap.size s1 s2→Ending.returned (.bool false)= .returned (.bool (sameB (.mk kind space name at1 text kids) (.mk kind' space' name' at2 text' kids')))∧Below w.heap.size s1 s2):=Lib.hid fun s1 s2 h hb=>⟨by rw[sameB_no h],hb⟩
 have HB0:Hid (Below w.heap.size w (((w.alloc (.cells #[.int .i64 kind,.int .i64 space,.string name,.slice a at1.length ac,.string text,.slice ka kids.length kc] 26))).alloc (.cells #[.int .i64 kind',.int .i64 space',.string name',.slice a' at2.length ac',.string text',.slice ka' kids'.length kc'] 26))):=Lib.hid (((Below.refl w.heap.size w).alloc (Nat.le_refl _) (.cells #[.int .i64 kind,.int .i64 space,.string name,.slice a at1.length ac,.string text,.slice ka kids.length kc] 26)).alloc (by simp) (.cells #[.int .i64 kind',.int .i64 space',.string name',.slice a' at2.length ac',.string text',.slice ka' kids'.length kc'] 26))
 by_cases e1:kind=kind'
 case neg =>
  have f1:(kind !=kind')=true:=by simpa using e1
  go_enter Tryz.func13,Tryz.ntmps13
  go_wp2_with fail
  go_ret
  exact HN.out _ _ (fun h=>e1 (NT.mk.inj h).1) HB0.out
 subst e1
 by_cases e2:space=space'
 case neg =>
  have f1:(space !=space')=true:=by simpa using e2
  go_enter Tryz.func13,Tryz.ntmps13
  go_wp2_with fail
  go_ret
  exact HN.out _ _ (fun h=>e2 (NT.mk.inj h).2.1) HB0.out
 subst e2
 by_cases e3:name=name'
 case neg =>
  have f1: ¬name.toList=name'.toList:=fun e=>e3 (toList_inj e)
  have f2:(name.toList==name'.toList)=false:=by simpa using f1
  go_enter Tryz.func13,Tryz.ntmps13
  go_wp2_with fail
  go_ret
  exact HN.out _ _ (fun h=>e3 (NT.mk.inj h).2.2.1) HB0.out
 subst e3
 by_cases e4:text=text'
 case neg =>
  have f1: ¬text.toList=text'.toList:=fun e=>e4 (toList_inj e)
  have f2:(text.toList==text'.toList)=false:=by simpa using f1
  go_enter Tryz.func13,Tryz.ntmps13
  go_wp2_with fail
  go_ret
  exact HN.out _ _ (fun h=>e4 (NT.mk.inj h).2.2.2.2.1) HB0.out
 subst e4
 by_cases e5:at1.length=at2.length
 case neg =>
  have f1:((at1.length:Int) !=(at2.length:Int))=true:=by simp;omega
  go_enter Tryz.func13,Tryz.ntmps13
  go_wp2_with fail
  go_ret
  exact HN.out _ _ (fun h=>e5 (congrArg List.length (NT.mk.inj h).2.2.2.1)) HB0.out
 by_cases e6:kids.length=kids'.length
 case neg =>
  have f0:((at1.length:Int) !=(at2.length:Int))=false:=by simp;omega
  have f1:((kids.length:Int) !=(kids'.length:Int))=true:=by simp;omega
  clear e5
  go_enter Tryz.func13,Tryz.ntmps13
  go_wp2_with fail
  go_ret
  exact HN.out _ _ (fun h=>e6 (congrArg List.length (NT.mk.inj h).2.2.2.2.2)) HB0.out
 have f0:((at1.length:Int) !=(at2.length:Int))=false:=by simp;omega
 have f1:((kids.length:Int) !=(kids'.length:Int))=false:=by simp;omega
 have E5:=Lib.hid e5
 have E6:=Lib.hid e6
 clear e5 e6
 have HX:=Lib.hid ((Below.heap_alloc (w.alloc (.cells #[.int .i64 kind,.int .i64 space,.string name,.slice a at1.length ac,.string text,.slice ka kids.length kc] 26)) (.cells #[.int .i64 kind,.int .i64 space,.string name,.slice a' at2.length ac',.string text,.slice ka' kids'.length kc'] 26) w.heap.size (by simp)).trans (heap_alloc_new w (.cells #[.int .i64 kind,.int .i64 space,.string name,.slice a at1.length ac,.string text,.slice ka kids.length kc] 26)))
 have HY:=Lib.hid (heap_new_at (w:=(w.alloc (.cells #[.int .i64 kind,.int .i64 space,.string name,.slice a at1.length ac,.string text,.slice ka kids.length kc] 26))) (n:=w.heap.size+1) (o:= .cells #[.int .i64 kind,.int .i64 space,.string name,.slice a' at2.length ac',.string text,.slice ka' kids'.length kc'] 26) (by simp))
 go_enter Tryz.func13,Tryz.ntmps13
 go_wp2_with fail
 generalize ((w.alloc (.cells #[.int .i64 kind,.int .i64 space,.string name,.slice a at1.length ac,.string text,.slice ka kids.length kc] 26))).alloc (.cells #[.int .i64 kind,.int .i64 space,.string name,.slice a' at2.length ac',.string text,.slice ka' kids'.length kc'] 26)=w1 at *
 go_loopw [5] (fun i wr=> ∃j:Nat,j≤at1.length∧i= .int .i64 j∧Hid (∀i (h:i<at1.length) (h':i<at2.length),i<j→at1[i]=at2[i])∧Hid (Below w1.heap.size w1 wr)) (fun i _=>at1.length-(intOf i).toNat)
 case atStart=>exact⟨0,Nat.zero_le _,rfl,Lib.hid fun i _ _ h=>by omega,Lib.hid (Below.refl _ _)⟩
 case round =>
  obtain⟨j,hj,rfl,HP,HBr⟩:=hrel
  have HBw:=Lib.hid (HB0.out.trans (HBr.out.mono HB0.out.size))
  obtain⟨⟨_,_,_,x3,_,x5⟩,_⟩:=cells6 ((HBr.out.block w.heap.size (row_lt HX.out)).trans HX.out)
  obtain⟨⟨_,_,_,y3,_,y5⟩,_⟩:=cells6 ((HBr.out.block (w.heap.size+1) (row_lt HY.out)).trans HY.out)
  by_cases hlt:j<at1.length
  ·have hlt2:j<at2.length:=by rw[←E5.out];exact hlt
   obtain⟨b,o,rfl,_,p1,p2⟩:=pair_cells (HA.out.kept (Keeps.ofBelow HBw.out)).at hlt
   obtain⟨b',o',rfl,_,q1,q2⟩:=pair_cells (HA'.out.kept (Keeps.ofBelow HBw.out)).at hlt2
   have hne:=neq_attr at1[j] at2[j]
   by_cases hd:at1[j]=at2[j]
   ·rw[decide_eq_true hd]at hne
    have HPn:Hid (∀i (h:i<at1.length) (h':i<at2.length),i<j+1→at1[i]=at2[i]):=Lib.hid (fun i h1 h2 h3=>by
     rcases Nat.lt_or_ge i j with hh|hh
     ·exact HP.out i h1 h2 hh
     ·obtain rfl:i=j:=by omega
      exact hd)
    clear hd
    generalize at2[j]=pr2 at *
    generalize at1[j]=pr1 at *
    go_wp2_with fail
    refine wp_region_calm (by kernel_rfl) (by kernel_rfl) ?_
    repeat
     with_reducible refine wpQuiet_step (fun K hK=> ?_)
     first
      |(with_reducible apply calm_skip
        ·rfl
        simp only[Act.put,List.setIfInBounds_toArray,List.set_cons_zero,List.set_cons_succ]
        refine hK _ ?_
        clear hK K)
      |(with_reducible apply calm_run
        ·rfl
        ·intro wq hC
         have zx3:=cell_later hC.out x3
         have zy3:=cell_later hC.out y3
         have zp1:=cell_later hC.out p1
         have zp2:=cell_later hC.out p2
         have zq1:=cell_later hC.out q1
         have zq2:=cell_later hC.out q2
         unfold Oper.quietAt
         go_simp
         first|done|with_reducible rfl|rfl
        simp only[Act.put,List.setIfInBounds_toArray,List.set_cons_zero,List.set_cons_succ]
        refine hK _ ?_
        clear hK K)
    with_reducible refine wpQuiet_nil ?_
    intro wq HQ
    have zx3:=cell_later HQ.out x3
    have zy3:=cell_later HQ.out y3
    have zp1:=cell_later HQ.out p1
    have zp2:=cell_later HQ.out p2
    have zq1:=cell_later HQ.out q1
    have zq2:=cell_later HQ.out q2
    have HB3:=Lib.hid (belowCall HBr.out HQ.out)
    go_wp2_with fail
    go_roundw
    case rel=>exact⟨j+1,by omega,by go_num,HPn,HB3⟩
    case measure=>simp[intOf];omega
   ·rw[decide_eq_false hd]at hne
    have HD:=Lib.hid (pairs_differ hlt hlt2 hd)
    clear hd
    generalize at2[j]=pr2 at *
    generalize at1[j]=pr1 at *
    go_wp2_with fail
    refine wp_region_calm (by kernel_rfl) (by kernel_rfl) ?_
    repeat
     with_reducible refine wpQuiet_step (fun K hK=> ?_)
     first
      |(with_reducible apply calm_skip
        ·rfl
        simp only[Act.put,List.setIfInBounds_toArray,List.set_cons_zero,List.set_cons_succ]
        refine hK _ ?_
        clear hK K)
      |(with_reducible apply calm_run
        ·rfl
        ·intro wq hC
         have zx3:=cell_later hC.out x3
         have zy3:=cell_later hC.out y3
         have zp1:=cell_later hC.out p1
         have zp2:=cell_later hC.out p2
         have zq1:=cell_later hC.out q1
         have zq2:=cell_later hC.out q2
         unfold Oper.quietAt
         go_simp
         first|done|with_reducible rfl|rfl
        simp only[Act.put,List.setIfInBounds_toArray,List.set_cons_zero,List.set_cons_succ]
        refine hK _ ?_
        clear hK K)
    with_reducible refine wpQuiet_nil ?_
    intro wq HQ
    have zx3:=cell_later HQ.out x3
    have zy3:=cell_later HQ.out y3
    have zp1:=cell_later HQ.out p1
    have zp2:=cell_later HQ.out p2
    have zq1:=cell_later HQ.out q1
    have zq2:=cell_later HQ.out q2
    have HB3:=Lib.hid (belowCall HBw.out HQ.out)
    go_wp2_with fail
    go_ret
    exact HN.out _ _ (fun h=>HD.out (NT.mk.inj h).2.2.2.1) HB3.out
  ·have HAt:=Lib.hid (pairs_same E5.out fun i h h'=>HP.out i h h' (by omega))
   clear HP
   go_wp2_with fail
   obtain⟨wo,rfl⟩: ∃wo:World,wo=wr:=⟨_,rfl⟩
   go_loopw [6,7] (fun i _ wr=> ∃j:Nat,j≤kids.length∧i= .int .i64 j∧Hid (∀i (h:i<kids.length) (h':i<kids'.length),i<j→sameB kids[i] kids'[i]=true)∧Hid (Below w1.heap.size w1 wr)) (fun i _ _=>kids.length-(intOf i).toNat)
   case atStart=>exact⟨0,Nat.zero_le _,rfl,Lib.hid fun i _ _ h=>by omega,HBr⟩
   case round =>
    clear x3 x5 y3 y5 HBw HBr
    obtain⟨j,hj,rfl,HP,HBr⟩:=hrel
    have HBw:=Lib.hid (HB0.out.trans (HBr.out.mono HB0.out.size))
    obtain⟨⟨_,_,_,_,_,x5⟩,_⟩:=cells6 ((HBr.out.block w.heap.size (row_lt HX.out)).trans HX.out)
    obtain⟨⟨_,_,_,_,_,y5⟩,_⟩:=cells6 ((HBr.out.block (w.heap.size+1) (row_lt HY.out)).trans HY.out)
    by_cases hlt:j<kids.length
    ·have hlt2:j<kids'.length:=by rw[←E6.out];exact hlt
     have hc1:j<css.length:=by rw[HL.out];exact hlt
     have hc2:j<css'.length:=by rw[HL'.out];exact hlt2
     have hkw:=Keeps.ofBelow (F:=Non) HBw.out
     have hn1:=(HK.out j hc1 hlt).kept hkw
     have hn2:=(HK'.out j hc2 hlt2).kept hkw
     have h6: ∀c∈css,c.length=6:=by
      intro c hc
      obtain⟨i,hi,rfl⟩:=List.getElem_of_mem hc
      exact(HK.out i hi (by rw[←HL.out];exact hi)).len
     have h6': ∀c∈css',c.length=6:=by
      intro c hc
      obtain⟨i,hi,rfl⟩:=List.getElem_of_mem hc
      exact(HK'.out i hi (by rw[←HL'.out];exact hi)).len
     obtain⟨f0,f1',f2,f3,f4,f5,f6,f7,f8,f9,he⟩:=nodeC_form hn1
     obtain⟨g0,g1,g2,g3,g4,g5,g6,g7,g8,g9,he'⟩:=nodeC_form hn2
     obtain⟨b,o,rfl,e0,e1,e2,e3,e4,e5⟩:=kid_cells h6 (HK4.out.kept hkw) hc1 he
     obtain⟨b',o',rfl,d0,d1,d2,d3,d4,d5⟩:=kid_cells h6' (HK4'.out.kept hkw) hc2 he'
     rw[he]at hn1
     rw[he']at hn2
     have HC:=Lib.hid (fun u (hu:Below wr.heap.size wr u)=>HIH.out j hlt hlt2 _ _ u (hn1.kept (Keeps.ofBelow hu)) (hn2.kept (Keeps.ofBelow hu)))
     unfold nodeV at HC
     have HPn:Hid (sameB kids[j] kids'[j]=true→ ∀i (h:i<kids.length) (h':i<kids'.length),i<j+1→sameB kids[i] kids'[i]=true):=Lib.hid (fun hd i h1 h2 h3=>by
      rcases Nat.lt_or_ge i j with hh|hh
      ·exact HP.out i h1 h2 hh
      ·obtain rfl:i=j:=by omega
       exact hd)
     have HD:Hid (sameB kids[j] kids'[j]=false→kids≠kids'):=Lib.hid (kids_differ hlt hlt2)
     generalize sameB kids[j] kids'[j]=t at *
     clear hkw hn1 hn2 h6 h6' he he'
     cases t
     ·go_wp2_with fail
      refine wp_region_calm (by kernel_rfl) (by kernel_rfl) ?_
      repeat
       with_reducible refine wpQuiet_step (fun K hK=> ?_)
       first
        |(with_reducible apply calm_skip
          ·rfl
          simp only[Act.put,List.setIfInBounds_toArray,List.set_cons_zero,List.set_cons_succ]
          refine hK _ ?_
          clear hK K)
        |(with_reducible apply calm_run
          ·rfl
          ·intro wq hC
           have zx5:=cell_later hC.out x5
           have zy5:=cell_later hC.out y5
           have ze0:=cell_later hC.out e0
           have ze1:=cell_later hC.out e1
           have ze2:=cell_later hC.out e2
           have ze3:=cell_later hC.out e3
           have ze4:=cell_later hC.out e4
           have ze5:=cell_later hC.out e5
           have zd0:=cell_later hC.out d0
           have zd1:=cell_later hC.out d1
           have zd2:=cell_later hC.out d2
           have zd3:=cell_later hC.out d3
           have zd4:=cell_later hC.out d4
           have zd5:=cell_later hC.out d5
           unfold Oper.quietAt
           go_simp
           first|done|(go_at_call 13;refine(HC.out _ hC.out).mono ?_;rintro e wx ⟨rfl,hbx⟩;exact⟨rfl,Lib.hid (belowCall hC.out hbx)⟩)|with_reducible rfl|rfl
          simp only[Act.put,List.setIfInBounds_toArray,List.set_cons_zero,List.set_cons_succ]
          refine hK _ ?_
          clear hK K)
      with_reducible refine wpQuiet_nil ?_
      intro wq HQ
      have zx5:=cell_later HQ.out x5
      have zy5:=cell_later HQ.out y5
      have ze0:=cell_later HQ.out e0
      have ze1:=cell_later HQ.out e1
      have ze2:=cell_later HQ.out e2
      have ze3:=cell_later HQ.out e3
      have ze4:=cell_later HQ.out e4
      have ze5:=cell_later HQ.out e5
      have zd0:=cell_later HQ.out d0
      have zd1:=cell_later HQ.out d1
      have zd2:=cell_later HQ.out d2
      have zd3:=cell_later HQ.out d3
      have zd4:=cell_later HQ.out d4
      have zd5:=cell_later HQ.out d5
      have HB3:=Lib.hid (belowCall HBw.out HQ.out)
      go_wp2_with fail
      go_ret
      exact HN.out _ _ (fun h=>HD.out (by first|trivial|rfl) (NT.mk.inj h).2.2.2.2.2) HB3.out
     ·go_wp2_with fail
      refine wp_region_calm (by kernel_rfl) (by kernel_rfl) ?_
      repeat
       with_reducible refine wpQuiet_step (fun K hK=> ?_)
       first
        |(with_reducible apply calm_skip
          ·rfl
          simp only[Act.put,List.setIfInBounds_toArray,List.set_cons_zero,List.set_cons_succ]
          refine hK _ ?_
          clear hK K)
        |(with_reducible apply calm_run
          ·rfl
          ·intro wq hC
           have zx5:=cell_later hC.out x5
           have zy5:=cell_later hC.out y5
           have ze0:=cell_later hC.out e0
           have ze1:=cell_later hC.out e1
           have ze2:=cell_later hC.out e2
           have ze3:=cell_later hC.out e3
           have ze4:=cell_later hC.out e4
           have ze5:=cell_later hC.out e5
           have zd0:=cell_later hC.out d0
           have zd1:=cell_later hC.out d1
           have zd2:=cell_later hC.out d2
           have zd3:=cell_later hC.out d3
           have zd4:=cell_later hC.out d4
           have zd5:=cell_later hC.out d5
           unfold Oper.quietAt
           go_simp
           first|done|(go_at_call 13;refine(HC.out _ hC.out).mono ?_;rintro e wx ⟨rfl,hbx⟩;exact⟨rfl,Lib.hid (belowCall hC.out hbx)⟩)|with_reducible rfl|rfl
          simp only[Act.put,List.setIfInBounds_toArray,List.set_cons_zero,List.set_cons_succ]
          refine hK _ ?_
          clear hK K)
      with_reducible refine wpQuiet_nil ?_
      intro wq HQ
      have zx5:=cell_later HQ.out x5
      have zy5:=cell_later HQ.out y5
      have ze0:=cell_later HQ.out e0
      have ze1:=cell_later HQ.out e1
      have ze2:=cell_later HQ.out e2
      have ze3:=cell_later HQ.out e3
      have ze4:=cell_later HQ.out e4
      have ze5:=cell_later HQ.out e5
      have zd0:=cell_later HQ.out d0
      have zd1:=cell_later HQ.out d1
      have zd2:=cell_later HQ.out d2
      have zd3:=cell_later HQ.out d3
      have zd4:=cell_later HQ.out d4
      have zd5:=cell_later HQ.out d5
      have HB3:=Lib.hid (belowCall HBr.out HQ.out)
      go_wp2_with fail
      go_roundw
      case rel=>exact⟨j+1,by omega,by go_num,Lib.hid (HPn.out (by first|trivial|rfl)),HB3⟩
      case measure=>simp[intOf];omega
    ·have HKt:=Lib.hid (kids_same E6.out fun i h h'=>HP.out i h h' (by omega))
     clear HP
     go_wp2_with fail
     go_ret
     rw[HAt.out,HKt.out,sameB_yes]
     exact⟨rfl,HBw.out⟩
theorem nsame_any: ∀(m:Nat) (n n':NT) (w:World) (cs cs':List Value),ntCount n≤m→NodeC Non w cs n→NodeC Non w cs' n'→Calls Tryz.prog 13 #[.agg cs.toArray,.agg cs'.toArray] w fun e w'=>e= .returned (.bool (sameB n n'))∧Below w.heap.size w w'
 |0,.mk _ _ _ _ _ _,_,_,_,_,h,_,_=>by
  rw[ntCount]at h
  omega
 |m+1,n,n',w,cs,cs',h,hn,hn'=>by
  cases hn with
  | @mk kind space name a c attrs text ka kc kids css h1 h2 h3 h4 k1 k2 k3 k4 hl hk =>
    cases hn' with
    | @mk kind' space' name' a' c' attrs' text' ka' kc' kids' css' h1' h2' h3' h4' k1' k2' k3' k4' hl' hk' =>
      rw[ntCount]at h
      refine nsame_step kind space kind' space' name text name' text' attrs attrs' a a' c c' ka ka' kc kc' kids kids' css css' w h1 h2 h1' h2' h4 h4' k1 k2 k1' k2' k4 k4' hl hl' hk hk' ?_
      intro j hj hj' ds ds' u hc hc'
      have:=counts_mem kids kids[j] (List.getElem_mem hj)
      exact nsame_any m kids[j] kids'[j] u ds ds' (by omega) hc hc'
end Go.Proofs.YtgepobccoffnaaaGreatDoor
