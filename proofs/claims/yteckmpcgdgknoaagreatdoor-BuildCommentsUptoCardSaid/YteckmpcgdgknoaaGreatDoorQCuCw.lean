/-
  The walk of BuildComments. No conditions beyond those that each lemma types.
-/
import Derived.Test.YteckmpcgdgknoaaGreatDoorQCuDp
import Derived.Test.YteckmpcgdgknoaaGreatDoorQCuSh
set_option linter.unusedVariables false
set_option linter.unusedSimpArgs false
namespace Go.Proofs.YteckmpcgdgknoaaGreatDoor
open Go.RowKit Mem
theorem asides_app (i:Int): ∀(A B:List Int) (k:Nat),asides i k (A++B)=asides i k A++asides i (k+A.length) B
 | [],B,k=>by rw[List.nil_append];rfl
 |x::A,B,k=>by
  rw[List.cons_append,asides,asides,asides_app i A B (k+1),List.append_assoc,List.length_cons,show k+(A.length+1)=k+1+A.length by omega]
theorem asides_take (i:Int) (ws:List Int) {j:Nat} (h:j<ws.length):asides i 0 (ws.take (j+1))=asides i 0 (ws.take j)++if ws[j]=i then [asideM j]else []:=by
 rw[List.take_succ_eq_append_getElem h,asides_app,asides,asides,List.append_nil,List.length_take,Nat.min_eq_left (by omega),Nat.zero_add]
theorem asides_len (i:Int): ∀(A:List Int) (k:Nat),(asides i k A).length≤A.length
 | [],_=>Nat.le_refl _
 |x::A,k=>by
  rw[asides,List.length_append,List.length_cons]
  have:=asides_len i A (k+1)
  split
  ·show 1+_≤_;omega
  ·show 0+_≤_;omega
structure CW (w:World) (l:List MkA) (ws:List Int) (k:Nat) (own odd:List MkA) (vo vd:Value) (wr:World):Prop where
 two:Rw2 w own odd vo vd wr
 od:Odd (own.map (·.m)) (odd.map (·.m))
 lo:own.length≤k
 ld:odd.length≤k*(ws.length+1)
 tx1:txtN own≤txtN (l.take k)
 tx2:txtN odd≤txtN (l.take k)
 ko: ∀x∈own,x.m.kind≠6
 kd: ∀x∈odd,x.m.kind≠6
section
variable {w wr w':World} {l:List MkA} {ws:List Int} {k:Nat} {own odd:List MkA} {vo vd:Value}
theorem CW.world (h:CW w l ws k own odd vo vd wr) (hb:Below wr.heap.size wr w'):CW w l ws k own odd vo vd w':=⟨h.two.world hb,h.od,h.lo,h.ld,h.tx1,h.tx2,h.ko,h.kd⟩
theorem CW.skip (h:CW w l ws k own odd vo vd wr) (hlt:k<l.length):CW w l ws (k+1) own odd vo vd wr:=by
 obtain⟨t1, -⟩:=txt_take l k hlt
 refine⟨h.two,h.od,Nat.le_succ_of_le h.lo,Nat.le_trans h.ld (Nat.mul_le_mul_right _ (Nat.le_succ k)),Nat.le_trans h.tx1 (by omega),Nat.le_trans h.tx2 (by omega),h.ko,h.kd⟩
theorem txt_asides (l:List BMark) (h: ∀m∈l,m.text.size=0):txtN (l.map asA)=0:=by
 induction l with
 |nil=>rfl
 |cons m r ih =>
  rw[List.map_cons,txtN,ih fun x hx=>h x (List.mem_cons_of_mem _ hx)]
  exact h m List.mem_cons_self
theorem asides_in (i:Int): ∀(A:List Int) (k:Nat),∀m∈asides i k A,∃j,m=asideM j
 | [],_,m,h=>by cases h
 |x::A,k,m,h=>by
  rw[asides]at h
  rcases List.mem_append.1 h with h|h
  ·split at h
   ·exact⟨k,List.mem_singleton.1 h⟩
   ·cases h
  ·exact asides_in i A (k+1) m h
theorem CW.more (h:CW w l ws k own odd vo vd wr) (hlt:k<l.length) (hk:1≤l[k].m.kind∧l[k].m.kind≤3) (hm:okN l[k].m.name) (ht:l[k].m.kind=1→ ∀y,own.getLast?=some y→y.m.kind≠1) {vo' vd':Value} (h2:Rw2 w (own++ [l[k]]) (odd++ [l[k]]++(asides k 0 ws).map asA) vo' vd' w'):CW w l ws (k+1) (own++ [l[k]]) (odd++ [l[k]]++(asides k 0 ws).map asA) vo' vd' w':=by
 obtain⟨t1, -⟩:=txt_take l k hlt
 have hin:=asides_in (k:Int) ws 0
 refine⟨h2,?_,by rw[List.length_append];have:=h.lo;simp;omega,?_,?_,?_,?_,?_⟩
 ·rw[List.map_append,List.map_append,List.map_append,asA_map,List.map_cons,List.map_nil]
  refine h.od.more hk hm (fun he y hy=> ?_) k ws
  rw[List.getLast?_map]at hy
  cases hl:own.getLast? with
  |none=>rw[hl]at hy;cases hy
  |some z =>
   rw[hl]at hy
   cases hy
   exact ht he z hl
 ·have h3:=asides_len (k:Int) ws 0
  have h4:=h.ld
  rw[List.length_append,List.length_append,List.length_map,Nat.succ_mul]
  simp only[List.length_cons,List.length_nil]
  omega
 ·rw[txt_app,t1]
  have:=h.tx1
  show _+(l[k].m.text.size+0)≤_
  omega
 ·rw[txt_app,txt_app,t1,txt_asides _ fun m hm=>by obtain⟨j,rfl⟩:=hin m hm;rfl]
  have:=h.tx2
  show _+(l[k].m.text.size+0)+0≤_
  omega
 ·intro y hy
  rcases List.mem_append.1 hy with hy|hy
  ·exact h.ko y hy
  ·rw[List.mem_singleton.1 hy];omega
 ·intro y hy
  rcases List.mem_append.1 hy with hy|hy
  ·rcases List.mem_append.1 hy with hy|hy
   ·exact h.kd y hy
   ·rw[List.mem_singleton.1 hy];omega
  ·obtain⟨m,hm,rfl⟩:=List.mem_map.1 hy
   obtain⟨j,rfl⟩:=hin m hm
   have:=aside_kind j
   show(asideM j).kind≠6
   omega
theorem CW.ends (h:CW w l ws k own odd vo vd wr):(marksB odd).endN=(marksB own).endN∧(marksB odd).endE=(marksB own).endE:=by
 rw[all_kinds h.ko,all_kinds h.kd]
 exact h.od.ends
end
set_option maxRecDepth 100000 in
set_option maxHeartbeats 8000000 in
theorem lawBuildComments (l:List MkA) (a:Option Addr) (c:Nat) (ws:List Int) (a1:Option Addr) (c1:Nat) (w:World) (hl:l.length≤1048576) (hat:At w a (mksV l)) (hm: ∀x∈l,MA Non w x.m x.a x.c) (htx:txtN l≤1048576) (hws:ws.length≤1048576) (hatw:At w a1 (intsV ws)) :
 Calls Tryz.prog 3 #[.slice a l.length c,.slice a1 ws.length c1] w fun e w'=>e= .returned (.bool true)∧Below w.heap.size w w':=by
 have HS:=Lib.hid (shown17_any w)
 have HAT:=Lib.hid (at_non hat)
 have HAW:=Lib.hid (at_non hatw)
 have HM:=Lib.hid hm
 have HT:=Lib.hid htx
 clear hat hatw hm htx
 go_enter Tryz.func3,Tryz.ntmps3
 go_wp2_with (go_at_call 5;go_must (refine HS.out.mono ?_;rintro e w1 ⟨rfl,hb1⟩;have HB1:=Lib.hid hb1;clear hb1))
 clear HS
 go_loopw [6,7,8] (fun vo vd i wr=> ∃(k:Nat) (own odd:List MkA),k≤l.length∧i= .int .i64 (k:Nat)∧Hid (CW w l ws k own odd vo vd wr)) (fun _ _ i _=>l.length-(intOf i).toNat)
 case atStart=>exact⟨0,[],[],Nat.zero_le _,rfl,Lib.hid ⟨Rw2.nil HB1.out,Odd.nil,Nat.zero_le _,Nat.zero_le _,Nat.zero_le _,Nat.zero_le _,(fun x h=>by cases h),(fun x h=>by cases h)⟩⟩
 case round =>
  obtain⟨k,own,odd,hk,rfl,HCW⟩:=hrel
  clear HB1
  by_cases hlt:k<l.length
  ·obtain⟨bk,o,rfl,e0,e1,e2,e3,e4⟩:=mks_cells (HAT.out.kept (Keeps.ofBelow (F:=Non) HCW.out.two.below)) hlt
   have HMx:=Lib.hid (HM.out _ (List.getElem_mem hlt))
   have HMore:=Lib.hid (fun h1 h2 h3 vo' vd' w'=>HCW.out.more (w':=w') (vo':=vo') (vd':=vd') hlt h1 h2 h3)
   obtain⟨x,hx⟩: ∃x,x=l[k]:=⟨_,rfl⟩
   rw[←hx]at e0 e1 e2 e3 e4 HMx HMore
   clear hx
   have HBM:=Lib.hid ((Below.refl wr.heap.size wr).alloc (Nat.le_refl _) (.cells #[.int .i64 x.m.kind,.string x.m.name,.slice x.a x.m.attrs.length x.c,.bool x.m.self,.string x.m.text] 27))
   cases h1:(x.m.name.toList==([112,114,101]:List UInt8))
   case true =>
    go_wp2_with fail
    go_roundw
    case rel=>exact⟨k+1,own,odd,by omega,by go_num,Lib.hid ((HCW.out.world HBM.out).skip hlt)⟩
    case measure=>simp[intOf];omega
   cases h2:(x.m.name.toList==([108,105,115,116,105,110,103]:List UInt8))
   case true =>
    go_wp2_with fail
    go_roundw
    case rel=>exact⟨k+1,own,odd,by omega,by go_num,Lib.hid ((HCW.out.world HBM.out).skip hlt)⟩
    case measure=>simp[intOf];omega
   cases h3:(x.m.name.toList==([116,101,120,116,97,114,101,97]:List UInt8))
   case true =>
    go_wp2_with fail
    go_roundw
    case rel=>exact⟨k+1,own,odd,by omega,by go_num,Lib.hid ((HCW.out.world HBM.out).skip hlt)⟩
    case measure=>simp[intOf];omega
   by_cases k1:x.m.kind<1
   ·skip
    go_wp2_with fail
    go_roundw
    case rel=>exact⟨k+1,own,odd,by omega,by go_num,Lib.hid ((HCW.out.world HBM.out).skip hlt)⟩
    case measure=>simp[intOf];omega
   by_cases k3:3<x.m.kind
   ·skip
    go_wp2_with fail
    go_roundw
    case rel=>exact⟨k+1,own,odd,by omega,by go_num,Lib.hid ((HCW.out.world HBM.out).skip hlt)⟩
    case measure=>simp[intOf];omega
   have hokn:okN x.m.name:=⟨h1,h2,h3⟩
   by_cases kt:x.m.kind=1
   ·have ktb:(x.m.kind==1)=true:=beq_iff_eq.2 kt
    have HKT:=Lib.hid kt
    clear kt
    have hcase:own= []∨ ∃p y,own.length=p+1∧own[p]?=some y:=by
     rcases List.eq_nil_or_concat own with h|⟨o',y,h⟩
     ·exact .inl h
     ·right
      subst h
      exact⟨o'.length,y,by simp,by simp⟩
    rcases hcase with hown|⟨p,y,hp1,hp2⟩
    ·have hl0:own.length=0:=by rw[hown];rfl
     have hlast:x.m.kind=1→ ∀y,own.getLast?=some y→y.m.kind≠1:=fun _ y hy=>by rw[hown]at hy;cases hy
     obtain⟨ao,co,hvo, -⟩:=own_at HCW.out.two.ro
     rw[hl0]at hvo
     subst hvo
     clear hown
     obtain⟨i0,hi,hz0,hz1,hz2⟩:=info_parts info_mark5
     have hlo:=HCW.out.lo
     have hld:=HCW.out.ld
     have hb1:own.length+1≤maxLen:=by unfold maxLen;omega
     have hb2:(own.length+1)*72≤140737488355328:=by omega
     have hb5:(k+1)*(ws.length+1)≤1048577*1048577:=Nat.mul_le_mul (by omega) (by omega)
     have hb6:k*(ws.length+1)≤1048577*1048577:=Nat.mul_le_mul (by omega) (by omega)
     have hb3:odd.length+1≤maxLen:=by unfold maxLen;omega
     have hb4:(odd.length+1)*72≤140737488355328:=by omega
     have HT0:=Lib.hid (HCW.out.world HBM.out).two
     have HT1:=Lib.hid (HT0.out.world ((Below.refl (wr.alloc (.cells #[.int .i64 x.m.kind,.string x.m.name,.slice x.a x.m.attrs.length x.c,.bool x.m.self,.string x.m.text] 27)).heap.size (wr.alloc (.cells #[.int .i64 x.m.kind,.string x.m.name,.slice x.a x.m.attrs.length x.c,.bool x.m.self,.string x.m.text] 27))).alloc (Nat.le_refl _) (.cells #[.int .i64 x.m.kind,.string x.m.name,.slice x.a x.m.attrs.length x.c,.bool x.m.self,.string x.m.text] 27)))
     have HO1:=Lib.hid HT1.out.ro
     have HN1:=Lib.hid ((at_alloc (w:=wr.alloc (.cells #[.int .i64 x.m.kind,.string x.m.name,.slice x.a x.m.attrs.length x.c,.bool x.m.self,.string x.m.text] 27)) (g:=wr.heap.size+1) (cur:= #[.int .i64 x.m.kind,.string x.m.name,.slice x.a x.m.attrs.length x.c,.bool x.m.self,.string x.m.text]) (e:=27) (xs:=mkV x) (by simp) rfl).news)
     have HZ1:=Lib.hid HT1.out.below.size
     have HF1:=Lib.hid HCW.out.two.fresh
     have HG1:=Lib.hid (show((wr.alloc (.cells #[.int .i64 x.m.kind,.string x.m.name,.slice x.a x.m.attrs.length x.c,.bool x.m.self,.string x.m.text] 27)).alloc (.cells #[.int .i64 x.m.kind,.string x.m.name,.slice x.a x.m.attrs.length x.c,.bool x.m.self,.string x.m.text] 27)).heap[wr.heap.size]?=some (.cells #[.int .i64 x.m.kind,.string x.m.name,.slice x.a x.m.attrs.length x.c,.bool x.m.self,.string x.m.text] 27)from(Below.heap_alloc _ _ _ (by simp)).trans (heap_alloc_new wr _))
     have hod:odd.length≤1048577*1048577:=by omega
     clear hlo hld
     go_wp2_with (first
      |(at_builtin;(refine wpList_append_own_at _ rfl (.tmp 69) (.tmp 71) 22 rfl w.heap.size 27 i0 _ 5 72 Tryz.underlying22 hi hz0 hz1 hz2 rfl (by decide) _ own.length _ rfl HO1.out _ 1 1 (mkV x) rfl rfl HN1.out (mkV_one x) hb1 hb2 HZ1.out ?_;intro v2 u2 hown2 hgr2 _ hat2;have HG2:=Lib.hid (HT1.out.stays hgr2 HG1.out HF1.out.1);have HT2:=Lib.hid (HT1.out.push HMx.out hown2 hgr2 hat2);obtain⟨⟨y0,y1,y2,y3,y4⟩, -⟩:=cells5 HG2.out;have HT3:=Lib.hid (HT2.out.world ((Below.refl u2.heap.size u2).alloc (Nat.le_refl _) (.cells #[.int .i64 x.m.kind,.string x.m.name,.slice x.a x.m.attrs.length x.c,.bool x.m.self,.string x.m.text] 27)));have HO3:=Lib.hid HT3.out.rd;have HN3:=Lib.hid ((at_alloc (w:=u2) (cur:= #[.int .i64 x.m.kind,.string x.m.name,.slice x.a x.m.attrs.length x.c,.bool x.m.self,.string x.m.text]) (e:=27) (xs:=mkV x) rfl rfl).news);have HZ3:=Lib.hid HT3.out.below.size;clear hown2 hgr2 hat2))
      |(at_builtin;go_must (refine wpList_append_own_at _ rfl (.tmp 73) (.tmp 75) 22 rfl w.heap.size 27 i0 _ 5 72 Tryz.underlying22 hi hz0 hz1 hz2 rfl (by decide) _ odd.length _ rfl HO3.out _ 1 1 (mkV x) rfl rfl HN3.out (mkV_one x) hb3 hb4 HZ3.out ?_;intro v4 u4 hown4 hgr4 _ hat4;have HT4:=Lib.hid (HT3.out.swap.push HMx.out hown4 hgr4 hat4).swap;clear hown4 hgr4 hat4)))
     clear HT0 HT1 HO1 HN1 HZ1 HF1 HG1 HG2 HT2 y0 y1 y2 y3 y4 HT3 HO3 HN3 HZ3 HCW HBM e0 e1 e2 e3 e4 hb1 hb2 hb3 hb4
     go_loopw [7,11] (fun vd j wr=> ∃jn:Nat,jn≤ws.length∧j= .int .i64 (jn:Nat)∧Hid (Rw2 w (own++ [x]) (odd++ [x]++(asides k 0 (ws.take jn)).map asA) v2 vd wr)) (fun _ j _=>ws.length-(intOf j).toNat)
     case atStart=>exact⟨0,Nat.zero_le _,rfl,Lib.hid (by rw[List.take_zero];show Rw2 w _ (odd++ [x]++ []) _ _ _;rw[List.append_nil];exact HT4.out)⟩
     case round =>
      clear HT4
      obtain⟨jn,hjn,rfl,HR2⟩:=hrel
      by_cases hj:jn<ws.length
      ·obtain⟨b1,o1,rfl,hc1⟩:=ints_get (HAW.out.kept (Keeps.ofBelow (F:=Non) HR2.out.below)) hj
       have HAs:=Lib.hid (asides_take (k:Int) ws hj)
       have hal:=asides_len (k:Int) (ws.take jn) 0
       rw[List.length_take,Nat.min_eq_left hjn]at hal
       generalize ws[jn]=cv at hc1 HAs
       by_cases hcv:cv=(k:Int)
       ·have hcb:(cv==(k:Int))=true:=beq_iff_eq.2 hcv
        have hbit:=and1 jn
        have hwrp:IntKind.i64.wrap (4+((jn%2:Nat):Int))=4+((jn%2:Nat):Int):=by rw[IntKind.wrap_i64];omega
        rw[if_pos hcv]at HAs
        have HNext:=Lib.hid (fun vd' w' (h:Rw2 w (own++ [x]) ((odd++ [x]++(asides k 0 (ws.take jn)).map asA)++ [asA (asideM jn)]) v2 vd' w')=>(show Rw2 w (own++ [x]) (odd++ [x]++(asides k 0 (ws.take (jn+1))).map asA) v2 vd' w' from by rw[HAs.out,List.map_append,←List.append_assoc];exact h))
        have hlen:(odd++ [x]++(asides k 0 (ws.take jn)).map asA).length≤1048577*1048577+1+1048576:=by
         rw[List.length_append,List.length_append,List.length_map]
         simp only[List.length_cons,List.length_nil]
         omega
        have hb1:(odd++ [x]++(asides k 0 (ws.take jn)).map asA).length+1≤maxLen:=by unfold maxLen;omega
        have hb2:((odd++ [x]++(asides k 0 (ws.take jn)).map asA).length+1)*72≤140737488355328:=by omega
        have HMA:=Lib.hid (asA_ma (w:=w) (m:=asideM jn) rfl (Nat.zero_le _) (Nat.zero_le _))
        generalize (odd++ [x]++(asides k 0 (ws.take jn)).map asA)=od at *
        have HT5:=Lib.hid (HR2.out.world ((Below.refl wr.heap.size wr).alloc (Nat.le_refl _) (.cells #[.int .i64 (4+((jn%2:Nat):Int)),.string ⟨#[]⟩,.slice none 0 0,.bool false,.string ⟨#[]⟩] 27)))
        have HO5:=Lib.hid HT5.out.rd
        have HN5:=Lib.hid ((at_alloc (w:=wr) (g:=wr.heap.size) (cur:= #[.int .i64 (4+((jn%2:Nat):Int)),.string ⟨#[]⟩,.slice none 0 0,.bool false,.string ⟨#[]⟩]) (e:=27) (xs:=mkV (asA (asideM jn))) rfl rfl).news)
        have HZ5:=Lib.hid HT5.out.below.size
        have HJ:=Lib.hid hj
        clear HR2 HAs hal hlen hcv
        go_wp2_with (at_builtin;go_must (refine wpList_append_own_at _ rfl (.tmp 89) (.tmp 94) 22 rfl w.heap.size 27 i0 _ 5 72 Tryz.underlying22 hi hz0 hz1 hz2 rfl (by decide) _ od.length _ rfl HO5.out _ 1 1 (mkV (asA (asideM jn))) rfl rfl HN5.out (mkV_one _) hb1 hb2 HZ5.out ?_;intro v6 u6 hown6 hgr6 _ hat6;have HT6:=Lib.hid (HT5.out.swap.push HMA.out hown6 hgr6 hat6).swap;clear hown6 hgr6 hat6))
        go_roundw
        case rel=>exact⟨jn+1,by omega,by go_num,Lib.hid (HNext.out _ _ HT6.out)⟩
        case measure=>simp[intOf];omega
       ·have hcb:(cv==(k:Int))=false:=beq_eq_false_iff_ne.2 hcv
        rw[if_neg hcv,List.append_nil]at HAs
        clear hcv hal
        go_wp2_with fail
        go_roundw
        case rel=>exact⟨jn+1,by omega,by go_num,Lib.hid (by rw[HAs.out];exact HR2.out)⟩
        case measure=>simp[intOf];omega
      ·obtain rfl:jn=ws.length:=by omega
       have HDone:=Lib.hid (HMore.out ⟨by omega,by omega⟩ hokn hlast _ _ _ (by have:=HR2.out;rw[List.take_of_length_le (Nat.le_refl _)]at this;exact this))
       clear HR2
       go_wp2_with fail
       go_roundw
       case rel=>exact⟨k+1,_,_,by omega,by go_num,HDone⟩
       case measure=>simp[intOf];omega
    ·obtain⟨g,cap,hvo,hg0,hg1,hg2⟩:=own_some HCW.out.two.ro (by omega)
     have hyk:wr.cell? ⟨g,p*5,none⟩=some (.int .i64 y.m.kind):=by
      have h5:=HCW.out.two.ro.cells (g:=g) (by rw[hvo];rfl) (p*5) (.int .i64 y.m.kind) (mks_kind hp2)
      have he5:(⟨g,0,none⟩:Addr).add (p*5)=⟨g,p*5,none⟩:=by
       unfold Addr.add
       split
       ·rename_i hz;rw[hz]
       ·simp
      rw[he5]at h5
      exact h5
     rw[hp1]at hvo
     subst hvo
     replace hyk:=cell_later HBM.out hyk
     have hwp:IntKind.i64.wrap (((p+1:Nat):Int)-1)=(p:Int):=by rw[IntKind.wrap_i64];have:=HCW.out.lo;omega
     by_cases hyk1:y.m.kind=1
     ·have hykb:(y.m.kind==1)=true:=beq_iff_eq.2 hyk1
      clear hyk1 hp2
      generalize y.m.kind=yk at hyk hykb
      have hlo:=HCW.out.lo
      have hpk:p≤1048576:=by omega
      go_wp2_with fail
      go_roundw
      case rel=>exact⟨k+1,own,odd,by omega,by go_num,Lib.hid ((HCW.out.world HBM.out).skip hlt)⟩
      case measure=>simp[intOf];omega
     ·have hykb:(y.m.kind==1)=false:=beq_eq_false_iff_ne.2 hyk1
      have hlast:x.m.kind=1→ ∀z,own.getLast?=some z→z.m.kind≠1:=fun _ z hz=>by
       rw[List.getLast?_eq_getElem?,hp1,Nat.add_sub_cancel,hp2]at hz
       cases hz
       exact hyk1
      clear hyk1 hp2
      obtain⟨i0,hi,hz0,hz1,hz2⟩:=info_parts info_mark5
      have hlo:=HCW.out.lo
      have hld:=HCW.out.ld
      have hb1:own.length+1≤maxLen:=by unfold maxLen;omega
      have hb2:(own.length+1)*72≤140737488355328:=by omega
      have hb5:(k+1)*(ws.length+1)≤1048577*1048577:=Nat.mul_le_mul (by omega) (by omega)
      have hb6:k*(ws.length+1)≤1048577*1048577:=Nat.mul_le_mul (by omega) (by omega)
      have hb3:odd.length+1≤maxLen:=by unfold maxLen;omega
      have hb4:(odd.length+1)*72≤140737488355328:=by omega
      have HT0:=Lib.hid (HCW.out.world HBM.out).two
      have HT1:=Lib.hid (HT0.out.world ((Below.refl (wr.alloc (.cells #[.int .i64 x.m.kind,.string x.m.name,.slice x.a x.m.attrs.length x.c,.bool x.m.self,.string x.m.text] 27)).heap.size (wr.alloc (.cells #[.int .i64 x.m.kind,.string x.m.name,.slice x.a x.m.attrs.length x.c,.bool x.m.self,.string x.m.text] 27))).alloc (Nat.le_refl _) (.cells #[.int .i64 x.m.kind,.string x.m.name,.slice x.a x.m.attrs.length x.c,.bool x.m.self,.string x.m.text] 27)))
      have HO1:=Lib.hid HT1.out.ro
      have HN1:=Lib.hid ((at_alloc (w:=wr.alloc (.cells #[.int .i64 x.m.kind,.string x.m.name,.slice x.a x.m.attrs.length x.c,.bool x.m.self,.string x.m.text] 27)) (g:=wr.heap.size+1) (cur:= #[.int .i64 x.m.kind,.string x.m.name,.slice x.a x.m.attrs.length x.c,.bool x.m.self,.string x.m.text]) (e:=27) (xs:=mkV x) (by simp) rfl).news)
      have HZ1:=Lib.hid HT1.out.below.size
      have HF1:=Lib.hid HCW.out.two.fresh
      have HG1:=Lib.hid (show((wr.alloc (.cells #[.int .i64 x.m.kind,.string x.m.name,.slice x.a x.m.attrs.length x.c,.bool x.m.self,.string x.m.text] 27)).alloc (.cells #[.int .i64 x.m.kind,.string x.m.name,.slice x.a x.m.attrs.length x.c,.bool x.m.self,.string x.m.text] 27)).heap[wr.heap.size]?=some (.cells #[.int .i64 x.m.kind,.string x.m.name,.slice x.a x.m.attrs.length x.c,.bool x.m.self,.string x.m.text] 27)from(Below.heap_alloc _ _ _ (by simp)).trans (heap_alloc_new wr _))
      have hod:odd.length≤1048577*1048577:=by omega
      clear hlo hld
      go_wp2_with (first
       |(at_builtin;(refine wpList_append_own_at _ rfl (.tmp 69) (.tmp 71) 22 rfl w.heap.size 27 i0 _ 5 72 Tryz.underlying22 hi hz0 hz1 hz2 rfl (by decide) _ own.length _ rfl HO1.out _ 1 1 (mkV x) rfl rfl HN1.out (mkV_one x) hb1 hb2 HZ1.out ?_;intro v2 u2 hown2 hgr2 _ hat2;have HG2:=Lib.hid (HT1.out.stays hgr2 HG1.out HF1.out.1);have HT2:=Lib.hid (HT1.out.push HMx.out hown2 hgr2 hat2);obtain⟨⟨y0,y1,y2,y3,y4⟩, -⟩:=cells5 HG2.out;have HT3:=Lib.hid (HT2.out.world ((Below.refl u2.heap.size u2).alloc (Nat.le_refl _) (.cells #[.int .i64 x.m.kind,.string x.m.name,.slice x.a x.m.attrs.length x.c,.bool x.m.self,.string x.m.text] 27)));have HO3:=Lib.hid HT3.out.rd;have HN3:=Lib.hid ((at_alloc (w:=u2) (cur:= #[.int .i64 x.m.kind,.string x.m.name,.slice x.a x.m.attrs.length x.c,.bool x.m.self,.string x.m.text]) (e:=27) (xs:=mkV x) rfl rfl).news);have HZ3:=Lib.hid HT3.out.below.size;clear hown2 hgr2 hat2))
       |(at_builtin;go_must (refine wpList_append_own_at _ rfl (.tmp 73) (.tmp 75) 22 rfl w.heap.size 27 i0 _ 5 72 Tryz.underlying22 hi hz0 hz1 hz2 rfl (by decide) _ odd.length _ rfl HO3.out _ 1 1 (mkV x) rfl rfl HN3.out (mkV_one x) hb3 hb4 HZ3.out ?_;intro v4 u4 hown4 hgr4 _ hat4;have HT4:=Lib.hid (HT3.out.swap.push HMx.out hown4 hgr4 hat4).swap;clear hown4 hgr4 hat4)))
      clear HT0 HT1 HO1 HN1 HZ1 HF1 HG1 HG2 HT2 y0 y1 y2 y3 y4 HT3 HO3 HN3 HZ3 HCW HBM e0 e1 e2 e3 e4 hb1 hb2 hb3 hb4
      go_loopw [7,11] (fun vd j wr=> ∃jn:Nat,jn≤ws.length∧j= .int .i64 (jn:Nat)∧Hid (Rw2 w (own++ [x]) (odd++ [x]++(asides k 0 (ws.take jn)).map asA) v2 vd wr)) (fun _ j _=>ws.length-(intOf j).toNat)
      case atStart=>exact⟨0,Nat.zero_le _,rfl,Lib.hid (by rw[List.take_zero];show Rw2 w _ (odd++ [x]++ []) _ _ _;rw[List.append_nil];exact HT4.out)⟩
      case round =>
       clear HT4
       obtain⟨jn,hjn,rfl,HR2⟩:=hrel
       by_cases hj:jn<ws.length
       ·obtain⟨b1,o1,rfl,hc1⟩:=ints_get (HAW.out.kept (Keeps.ofBelow (F:=Non) HR2.out.below)) hj
        have HAs:=Lib.hid (asides_take (k:Int) ws hj)
        have hal:=asides_len (k:Int) (ws.take jn) 0
        rw[List.length_take,Nat.min_eq_left hjn]at hal
        generalize ws[jn]=cv at hc1 HAs
        by_cases hcv:cv=(k:Int)
        ·have hcb:(cv==(k:Int))=true:=beq_iff_eq.2 hcv
         have hbit:=and1 jn
         have hwrp:IntKind.i64.wrap (4+((jn%2:Nat):Int))=4+((jn%2:Nat):Int):=by rw[IntKind.wrap_i64];omega
         rw[if_pos hcv]at HAs
         have HNext:=Lib.hid (fun vd' w' (h:Rw2 w (own++ [x]) ((odd++ [x]++(asides k 0 (ws.take jn)).map asA)++ [asA (asideM jn)]) v2 vd' w')=>(show Rw2 w (own++ [x]) (odd++ [x]++(asides k 0 (ws.take (jn+1))).map asA) v2 vd' w' from by rw[HAs.out,List.map_append,←List.append_assoc];exact h))
         have hlen:(odd++ [x]++(asides k 0 (ws.take jn)).map asA).length≤1048577*1048577+1+1048576:=by
          rw[List.length_append,List.length_append,List.length_map]
          simp only[List.length_cons,List.length_nil]
          omega
         have hb1:(odd++ [x]++(asides k 0 (ws.take jn)).map asA).length+1≤maxLen:=by unfold maxLen;omega
         have hb2:((odd++ [x]++(asides k 0 (ws.take jn)).map asA).length+1)*72≤140737488355328:=by omega
         have HMA:=Lib.hid (asA_ma (w:=w) (m:=asideM jn) rfl (Nat.zero_le _) (Nat.zero_le _))
         generalize (odd++ [x]++(asides k 0 (ws.take jn)).map asA)=od at *
         have HT5:=Lib.hid (HR2.out.world ((Below.refl wr.heap.size wr).alloc (Nat.le_refl _) (.cells #[.int .i64 (4+((jn%2:Nat):Int)),.string ⟨#[]⟩,.slice none 0 0,.bool false,.string ⟨#[]⟩] 27)))
         have HO5:=Lib.hid HT5.out.rd
         have HN5:=Lib.hid ((at_alloc (w:=wr) (g:=wr.heap.size) (cur:= #[.int .i64 (4+((jn%2:Nat):Int)),.string ⟨#[]⟩,.slice none 0 0,.bool false,.string ⟨#[]⟩]) (e:=27) (xs:=mkV (asA (asideM jn))) rfl rfl).news)
         have HZ5:=Lib.hid HT5.out.below.size
         have HJ:=Lib.hid hj
         clear HR2 HAs hal hlen hcv
         go_wp2_with (at_builtin;go_must (refine wpList_append_own_at _ rfl (.tmp 89) (.tmp 94) 22 rfl w.heap.size 27 i0 _ 5 72 Tryz.underlying22 hi hz0 hz1 hz2 rfl (by decide) _ od.length _ rfl HO5.out _ 1 1 (mkV (asA (asideM jn))) rfl rfl HN5.out (mkV_one _) hb1 hb2 HZ5.out ?_;intro v6 u6 hown6 hgr6 _ hat6;have HT6:=Lib.hid (HT5.out.swap.push HMA.out hown6 hgr6 hat6).swap;clear hown6 hgr6 hat6))
         go_roundw
         case rel=>exact⟨jn+1,by omega,by go_num,Lib.hid (HNext.out _ _ HT6.out)⟩
         case measure=>simp[intOf];omega
        ·have hcb:(cv==(k:Int))=false:=beq_eq_false_iff_ne.2 hcv
         rw[if_neg hcv,List.append_nil]at HAs
         clear hcv hal
         go_wp2_with fail
         go_roundw
         case rel=>exact⟨jn+1,by omega,by go_num,Lib.hid (by rw[HAs.out];exact HR2.out)⟩
         case measure=>simp[intOf];omega
       ·obtain rfl:jn=ws.length:=by omega
        have HDone:=Lib.hid (HMore.out ⟨by omega,by omega⟩ hokn hlast _ _ _ (by have:=HR2.out;rw[List.take_of_length_le (Nat.le_refl _)]at this;exact this))
        clear HR2
        go_wp2_with fail
        go_roundw
        case rel=>exact⟨k+1,_,_,by omega,by go_num,HDone⟩
        case measure=>simp[intOf];omega
   ·have ktb:(x.m.kind==1)=false:=beq_eq_false_iff_ne.2 kt
    have hlast:x.m.kind=1→ ∀y,own.getLast?=some y→y.m.kind≠1:=fun h=>absurd h kt
    obtain⟨i0,hi,hz0,hz1,hz2⟩:=info_parts info_mark5
    have hlo:=HCW.out.lo
    have hld:=HCW.out.ld
    have hb1:own.length+1≤maxLen:=by unfold maxLen;omega
    have hb2:(own.length+1)*72≤140737488355328:=by omega
    have hb5:(k+1)*(ws.length+1)≤1048577*1048577:=Nat.mul_le_mul (by omega) (by omega)
    have hb6:k*(ws.length+1)≤1048577*1048577:=Nat.mul_le_mul (by omega) (by omega)
    have hb3:odd.length+1≤maxLen:=by unfold maxLen;omega
    have hb4:(odd.length+1)*72≤140737488355328:=by omega
    have HT0:=Lib.hid (HCW.out.world HBM.out).two
    have HT1:=Lib.hid (HT0.out.world ((Below.refl (wr.alloc (.cells #[.int .i64 x.m.kind,.string x.m.name,.slice x.a x.m.attrs.length x.c,.bool x.m.self,.string x.m.text] 27)).heap.size (wr.alloc (.cells #[.int .i64 x.m.kind,.string x.m.name,.slice x.a x.m.attrs.length x.c,.bool x.m.self,.string x.m.text] 27))).alloc (Nat.le_refl _) (.cells #[.int .i64 x.m.kind,.string x.m.name,.slice x.a x.m.attrs.length x.c,.bool x.m.self,.string x.m.text] 27)))
    have HO1:=Lib.hid HT1.out.ro
    have HN1:=Lib.hid ((at_alloc (w:=wr.alloc (.cells #[.int .i64 x.m.kind,.string x.m.name,.slice x.a x.m.attrs.length x.c,.bool x.m.self,.string x.m.text] 27)) (g:=wr.heap.size+1) (cur:= #[.int .i64 x.m.kind,.string x.m.name,.slice x.a x.m.attrs.length x.c,.bool x.m.self,.string x.m.text]) (e:=27) (xs:=mkV x) (by simp) rfl).news)
    have HZ1:=Lib.hid HT1.out.below.size
    have HF1:=Lib.hid HCW.out.two.fresh
    have HG1:=Lib.hid (show((wr.alloc (.cells #[.int .i64 x.m.kind,.string x.m.name,.slice x.a x.m.attrs.length x.c,.bool x.m.self,.string x.m.text] 27)).alloc (.cells #[.int .i64 x.m.kind,.string x.m.name,.slice x.a x.m.attrs.length x.c,.bool x.m.self,.string x.m.text] 27)).heap[wr.heap.size]?=some (.cells #[.int .i64 x.m.kind,.string x.m.name,.slice x.a x.m.attrs.length x.c,.bool x.m.self,.string x.m.text] 27)from(Below.heap_alloc _ _ _ (by simp)).trans (heap_alloc_new wr _))
    have hod:odd.length≤1048577*1048577:=by omega
    clear hlo hld
    go_wp2_with (first
     |(at_builtin;(refine wpList_append_own_at _ rfl (.tmp 69) (.tmp 71) 22 rfl w.heap.size 27 i0 _ 5 72 Tryz.underlying22 hi hz0 hz1 hz2 rfl (by decide) _ own.length _ rfl HO1.out _ 1 1 (mkV x) rfl rfl HN1.out (mkV_one x) hb1 hb2 HZ1.out ?_;intro v2 u2 hown2 hgr2 _ hat2;have HG2:=Lib.hid (HT1.out.stays hgr2 HG1.out HF1.out.1);have HT2:=Lib.hid (HT1.out.push HMx.out hown2 hgr2 hat2);obtain⟨⟨y0,y1,y2,y3,y4⟩, -⟩:=cells5 HG2.out;have HT3:=Lib.hid (HT2.out.world ((Below.refl u2.heap.size u2).alloc (Nat.le_refl _) (.cells #[.int .i64 x.m.kind,.string x.m.name,.slice x.a x.m.attrs.length x.c,.bool x.m.self,.string x.m.text] 27)));have HO3:=Lib.hid HT3.out.rd;have HN3:=Lib.hid ((at_alloc (w:=u2) (cur:= #[.int .i64 x.m.kind,.string x.m.name,.slice x.a x.m.attrs.length x.c,.bool x.m.self,.string x.m.text]) (e:=27) (xs:=mkV x) rfl rfl).news);have HZ3:=Lib.hid HT3.out.below.size;clear hown2 hgr2 hat2))
     |(at_builtin;go_must (refine wpList_append_own_at _ rfl (.tmp 73) (.tmp 75) 22 rfl w.heap.size 27 i0 _ 5 72 Tryz.underlying22 hi hz0 hz1 hz2 rfl (by decide) _ odd.length _ rfl HO3.out _ 1 1 (mkV x) rfl rfl HN3.out (mkV_one x) hb3 hb4 HZ3.out ?_;intro v4 u4 hown4 hgr4 _ hat4;have HT4:=Lib.hid (HT3.out.swap.push HMx.out hown4 hgr4 hat4).swap;clear hown4 hgr4 hat4)))
    clear HT0 HT1 HO1 HN1 HZ1 HF1 HG1 HG2 HT2 y0 y1 y2 y3 y4 HT3 HO3 HN3 HZ3 HCW HBM e0 e1 e2 e3 e4 hb1 hb2 hb3 hb4
    go_loopw [7,11] (fun vd j wr=> ∃jn:Nat,jn≤ws.length∧j= .int .i64 (jn:Nat)∧Hid (Rw2 w (own++ [x]) (odd++ [x]++(asides k 0 (ws.take jn)).map asA) v2 vd wr)) (fun _ j _=>ws.length-(intOf j).toNat)
    case atStart=>exact⟨0,Nat.zero_le _,rfl,Lib.hid (by rw[List.take_zero];show Rw2 w _ (odd++ [x]++ []) _ _ _;rw[List.append_nil];exact HT4.out)⟩
    case round =>
     clear HT4
     obtain⟨jn,hjn,rfl,HR2⟩:=hrel
     by_cases hj:jn<ws.length
     ·obtain⟨b1,o1,rfl,hc1⟩:=ints_get (HAW.out.kept (Keeps.ofBelow (F:=Non) HR2.out.below)) hj
      have HAs:=Lib.hid (asides_take (k:Int) ws hj)
      have hal:=asides_len (k:Int) (ws.take jn) 0
      rw[List.length_take,Nat.min_eq_left hjn]at hal
      generalize ws[jn]=cv at hc1 HAs
      by_cases hcv:cv=(k:Int)
      ·have hcb:(cv==(k:Int))=true:=beq_iff_eq.2 hcv
       have hbit:=and1 jn
       have hwrp:IntKind.i64.wrap (4+((jn%2:Nat):Int))=4+((jn%2:Nat):Int):=by rw[IntKind.wrap_i64];omega
       rw[if_pos hcv]at HAs
       have HNext:=Lib.hid (fun vd' w' (h:Rw2 w (own++ [x]) ((odd++ [x]++(asides k 0 (ws.take jn)).map asA)++ [asA (asideM jn)]) v2 vd' w')=>(show Rw2 w (own++ [x]) (odd++ [x]++(asides k 0 (ws.take (jn+1))).map asA) v2 vd' w' from by rw[HAs.out,List.map_append,←List.append_assoc];exact h))
       have hlen:(odd++ [x]++(asides k 0 (ws.take jn)).map asA).length≤1048577*1048577+1+1048576:=by
        rw[List.length_append,List.length_append,List.length_map]
        simp only[List.length_cons,List.length_nil]
        omega
       have hb1:(odd++ [x]++(asides k 0 (ws.take jn)).map asA).length+1≤maxLen:=by unfold maxLen;omega
       have hb2:((odd++ [x]++(asides k 0 (ws.take jn)).map asA).length+1)*72≤140737488355328:=by omega
       have HMA:=Lib.hid (asA_ma (w:=w) (m:=asideM jn) rfl (Nat.zero_le _) (Nat.zero_le _))
       generalize (odd++ [x]++(asides k 0 (ws.take jn)).map asA)=od at *
       have HT5:=Lib.hid (HR2.out.world ((Below.refl wr.heap.size wr).alloc (Nat.le_refl _) (.cells #[.int .i64 (4+((jn%2:Nat):Int)),.string ⟨#[]⟩,.slice none 0 0,.bool false,.string ⟨#[]⟩] 27)))
       have HO5:=Lib.hid HT5.out.rd
       have HN5:=Lib.hid ((at_alloc (w:=wr) (g:=wr.heap.size) (cur:= #[.int .i64 (4+((jn%2:Nat):Int)),.string ⟨#[]⟩,.slice none 0 0,.bool false,.string ⟨#[]⟩]) (e:=27) (xs:=mkV (asA (asideM jn))) rfl rfl).news)
       have HZ5:=Lib.hid HT5.out.below.size
       have HJ:=Lib.hid hj
       clear HR2 HAs hal hlen hcv
       go_wp2_with (at_builtin;go_must (refine wpList_append_own_at _ rfl (.tmp 89) (.tmp 94) 22 rfl w.heap.size 27 i0 _ 5 72 Tryz.underlying22 hi hz0 hz1 hz2 rfl (by decide) _ od.length _ rfl HO5.out _ 1 1 (mkV (asA (asideM jn))) rfl rfl HN5.out (mkV_one _) hb1 hb2 HZ5.out ?_;intro v6 u6 hown6 hgr6 _ hat6;have HT6:=Lib.hid (HT5.out.swap.push HMA.out hown6 hgr6 hat6).swap;clear hown6 hgr6 hat6))
       go_roundw
       case rel=>exact⟨jn+1,by omega,by go_num,Lib.hid (HNext.out _ _ HT6.out)⟩
       case measure=>simp[intOf];omega
      ·have hcb:(cv==(k:Int))=false:=beq_eq_false_iff_ne.2 hcv
       rw[if_neg hcv,List.append_nil]at HAs
       clear hcv hal
       go_wp2_with fail
       go_roundw
       case rel=>exact⟨jn+1,by omega,by go_num,Lib.hid (by rw[HAs.out];exact HR2.out)⟩
       case measure=>simp[intOf];omega
     ·obtain rfl:jn=ws.length:=by omega
      have HDone:=Lib.hid (HMore.out ⟨by omega,by omega⟩ hokn hlast _ _ _ (by have:=HR2.out;rw[List.take_of_length_le (Nat.le_refl _)]at this;exact this))
      clear HR2
      go_wp2_with fail
      go_roundw
      case rel=>exact⟨k+1,_,_,by omega,by go_num,HDone⟩
      case measure=>simp[intOf];omega
  ·obtain rfl:k=l.length:=by omega
   have HEnd:=Lib.hid HCW.out.ends
   have HT1:=Lib.hid HCW.out.two
   have h9:txtN (l.take l.length)≤1048576:=by rw[List.take_of_length_le (Nat.le_refl _)];exact HT.out
   have hb6:l.length*(ws.length+1)≤1048576*1048577:=Nat.mul_le_mul hl (by omega)
   have HMa:=Lib.hid (HT1.out.marks (by have:=HCW.out.lo;omega) (by have:=HCW.out.tx1;omega))
   have HMb:=Lib.hid (fun u (hu:Below wr.heap.size wr u)=>(HT1.out.swap.world hu).marks (by have:=HCW.out.ld;omega) (by have:=HCW.out.tx2;omega))
   have HBw:=Lib.hid HT1.out.below
   rw[HEnd.out.1,HEnd.out.2]at HMb
   have hsn:=fun u cs cs' (h1:NodeC Non u cs (marksB own).endN) (h2:NodeC Non u cs' (marksB own).endN)=>nsame_any _ _ _ u cs cs' (Nat.le_refl _) h1 h2
   rw[sameB_yes]at hsn
   have HSn:=Lib.hid hsn
   generalize (marksB own).endN=nt at *
   generalize (marksB own).endE=ee at *
   clear HCW HT1 HEnd hsn hb6 h9 HAT HAW HM HT
   go_wp2_with fail
   refine HMa.out.mono ?_
   rintro e u1 ⟨cs,rfl,hn1,hu1⟩
   obtain⟨f0,f1,f2,f3,f4,f5,f6,f7,f8,f9,rfl⟩:=nodeC_form hn1
   have HX1:=Lib.hid (heap_alloc_new u1 (.cells #[.int .i64 f0,.int .i64 f1,.string f2,.slice f3 f4 f5,.string f6,.slice f7 f8 f9] 30))
   have HU2:=Lib.hid (show Below wr.heap.size wr (u1.alloc (.cells #[.int .i64 f0,.int .i64 f1,.string f2,.slice f3 f4 f5,.string f6,.slice f7 f8 f9] 30))from hu1.alloc hu1.size _)
   have HN1:=Lib.hid ((hn1.other (G:=Non) fun j _ hx=>hx.elim).kept (Keeps.ofBelow (F:=Non) ((Below.refl u1.heap.size u1).alloc (Nat.le_refl _) (.cells #[.int .i64 f0,.int .i64 f1,.string f2,.slice f3 f4 f5,.string f6,.slice f7 f8 f9] 30))))
   have HMc:=Lib.hid (HMb.out _ HU2.out)
   clear hn1 hu1 HMa HMb
   unfold nodeV
   dsimp only
   go_wp2_with fail
   refine HMc.out.mono ?_
   rintro e u3 ⟨cs2,rfl,hn2,hu3⟩
   obtain⟨g0,g1,g2,g3,g4,g5,g6,g7,g8,g9,rfl⟩:=nodeC_form hn2
   have hb4:Below u3.heap.size u3 (u3.alloc (.cells #[.int .i64 g0,.int .i64 g1,.string g2,.slice g3 g4 g5,.string g6,.slice g7 g8 g9] 30)):=(Below.refl u3.heap.size u3).alloc (Nat.le_refl _) (.cells #[.int .i64 g0,.int .i64 g1,.string g2,.slice g3 g4 g5,.string g6,.slice g7 g8 g9] 30)
   have HX3:=Lib.hid (heap_alloc_new u3 (.cells #[.int .i64 g0,.int .i64 g1,.string g2,.slice g3 g4 g5,.string g6,.slice g7 g8 g9] 30))
   have HX2:=Lib.hid (show(u3.alloc (.cells #[.int .i64 g0,.int .i64 g1,.string g2,.slice g3 g4 g5,.string g6,.slice g7 g8 g9] 30)).heap[u1.heap.size]?=some (.cells #[.int .i64 f0,.int .i64 f1,.string f2,.slice f3 f4 f5,.string f6,.slice f7 f8 f9] 30)from(hb4.block _ (Nat.lt_of_lt_of_le (row_lt HX1.out) hu3.size)).trans ((hu3.block _ (row_lt HX1.out)).trans HX1.out))
   have HBW:=Lib.hid (belowCall (belowCall (belowCall HBw.out HU2.out) hu3) hb4)
   have HS4:=Lib.hid (HSn.out (u3.alloc (.cells #[.int .i64 g0,.int .i64 g1,.string g2,.slice g3 g4 g5,.string g6,.slice g7 g8 g9] 30)) _ _ ((HN1.out.kept (Keeps.ofBelow (F:=Non) hu3)).kept (Keeps.ofBelow (F:=Non) hb4)) ((hn2.other (G:=Non) fun j _ hx=>hx.elim).kept (Keeps.ofBelow (F:=Non) hb4)))
   unfold nodeV
   unfold nodeV at HS4
   obtain⟨⟨x0,x1,x2,x3,x4,x5⟩,_⟩:=cells6 HX2.out
   obtain⟨⟨y0,y1,y2,y3,y4,y5⟩,_⟩:=cells6 HX3.out
   clear hn2 hu3 hb4 HX2 HX3 HX1 HN1 HSn HMc HU2
   dsimp only
   go_wp2_with (go_at_call 7;go_must (refine HS4.out.mono ?_;rintro e u5 ⟨rfl,hb5⟩;have HB5:=Lib.hid (belowCall HBW.out hb5);clear hb5))
   go_ret
   exact⟨rfl,HB5.out⟩
end Go.Proofs.YteckmpcgdgknoaaGreatDoor
