/-
  The law BuildCuts returns true for every input within the bound, its card, with its walk. Conditions: none beyond the statement's own.
-/
import Derived.Test.YteckmpcgdgknoaaGreatDoorQCuDp
import Derived.Test.YteckmpcgdgknoaaGreatDoorQCuSh
import Derived.Test.YteckmpcgdgknoaaGreatDoorQCuCv
import Derived.Test.YteckmpcgdgknoaaGreatDoorQCuMz
import Derived.Test.YteckmpcgdgknoaaGreatDoorQLawM
import Derived.Test.YteckmpcgdgknoaaGreatDoorQLawB
import Derived.Test.YteckmpcgdgknoaaGreatDoorQ42
import Derived.Test.YteckmpcgdgknoaaGreatDoorCards
import Derived.Test.YteckmpcgdgknoaaGreatDoorTie
import Derived.ProofKit
import Derived.OpenShut
import Derived.Deep.DeepHandedRow
import Derived.LaidMore
import Derived.Lay
import Derived.SevenTiedAt
import Derived.Stop.Joined
import Derived.Shelf.Vars
set_option linter.unusedVariables false
set_option linter.unusedSimpArgs false
namespace Go.Proofs.YteckmpcgdgknoaaGreatDoor
open Go.RowKit Mem
def ahM (l:List MkA):List BMark:=(l.map (·.m)).takeWhile fun m=>m.kind !=6
def has6 (l:List MkA):Bool:=l.any fun x=>x.m.kind==6
theorem up_go {l:List MkA} (h:has6 l=false) (r:List MkA):ahM (l++r)=l.map (·.m)++ahM r:=by
 unfold ahM
 rw[List.map_append]
 refine List.takeWhile_append_of_pos fun m hm=> ?_
 obtain⟨x,hx,rfl⟩:=List.mem_map.1 hm
 have:=List.any_eq_false.1 h x hx
 simpa using this
theorem up_all {l:List MkA} (h:has6 l=false):ahM l=l.map (·.m):=by
 have:=up_go h []
 rw[List.append_nil]at this
 rw[this]
 exact List.append_nil _
theorem up_stop {l:List MkA} (h:has6 l=true) (r:List MkA):ahM (l++r)=ahM l:=by
 unfold ahM
 rw[List.map_append,List.takeWhile_append,if_neg]
 intro e
 obtain⟨x,hx,hk⟩:=List.any_eq_true.1 h
 have h1:=List.takeWhile_append_dropWhile (p:=fun m:BMark=>m.kind !=6) (l:=l.map (·.m))
 have h2:=congrArg List.length h1
 rw[List.length_append]at h2
 have h3:(l.map (·.m)).dropWhile (fun m:BMark=>m.kind !=6)= []:=List.eq_nil_of_length_eq_zero (by omega)
 rw[h3,List.append_nil]at h1
 have h4:x.m∈(l.map (·.m)).takeWhile (fun m:BMark=>m.kind !=6):=by rw[h1];exact List.mem_map_of_mem hx
 have h5:=List.all_eq_true.1 (List.all_takeWhile (l:=l.map (·.m)) (p:=fun m:BMark=>m.kind !=6)) x.m h4
 rw[beq_iff_eq]at hk
 simp[hk]at h5
theorem has6_app (A B:List MkA):has6 (A++B)=(has6 A||has6 B):=List.any_append
structure DW (w:World) (l:List MkA) (k:Nat) (own odd:List MkA) (vo vd:Value) (wr:World):Prop where
 two:Rw2 w own odd vo vd wr
 cu:Cuts (ahM own) (ahM odd)
 st:has6 odd=has6 own
 lo:own.length≤k
 ld:odd.length≤2*k
 tx1:txtN own≤txtN (l.take k)
 tx2:txtN odd≤txtN (l.take k)
section
variable {w wr w':World} {l:List MkA} {k:Nat} {own odd:List MkA} {vo vd vo' vd':Value}
theorem DW.world (h:DW w l k own odd vo vd wr) (hb:Below wr.heap.size wr w'):DW w l k own odd vo vd w':=⟨h.two.world hb,h.cu,h.st,h.lo,h.ld,h.tx1,h.tx2⟩
theorem DW.skip (h:DW w l k own odd vo vd wr) (hlt:k<l.length):DW w l (k+1) own odd vo vd wr:=by
 obtain⟨t1, -⟩:=txt_take l k hlt
 exact⟨h.two,h.cu,h.st,Nat.le_succ_of_le h.lo,Nat.le_trans h.ld (by omega),Nat.le_trans h.tx1 (by omega),Nat.le_trans h.tx2 (by omega)⟩
theorem DW.same (h:DW w l k own odd vo vd wr) (hlt:k<l.length) (hm:okN l[k].m.name) (h2:Rw2 w (own++ [l[k]]) (odd++ [l[k]]) vo' vd' w'):DW w l (k+1) (own++ [l[k]]) (odd++ [l[k]]) vo' vd' w':=by
 obtain⟨t1, -⟩:=txt_take l k hlt
 have q1:=h.lo
 have q2:=h.ld
 have q3:=h.tx1
 have q4:=h.tx2
 refine⟨h2,?_,by rw[has6_app,has6_app,h.st],by rw[List.length_append];simp;omega,by rw[List.length_append];simp;omega,?_,?_⟩
 ·cases hs:has6 own with
  |true=>rw[up_stop hs,up_stop (h.st.trans hs)];exact h.cu
  |false =>
   have hc:=h.cu
   rw[up_all hs,up_all (h.st.trans hs)]at hc
   rw[up_go hs,up_go (h.st.trans hs)]
   by_cases h6:l[k].m.kind=6
   ·have e:ahM [l[k]]= []:=List.takeWhile_cons_of_neg (by rw[h6];decide)
    rw[e,List.append_nil,List.append_nil]
    exact hc
   ·have e:ahM [l[k]]= [l[k].m]:=by
     show List.takeWhile _ (l[k].m:: [])=_
     exact List.takeWhile_cons_of_pos (p:=fun m:BMark=>m.kind !=6) (l:= []) (a:=l[k].m) (bne_iff_ne.2 h6)
    rw[e]
    exact hc.same hm
 ·rw[txt_app,t1];show _+(l[k].m.text.size+0)≤_;omega
 ·rw[txt_app,t1];show _+(l[k].m.text.size+0)≤_;omega
def pieceB (x:MkA) (n:Nat):MkA:=⟨tM x.m.name x.m.attrs x.m.self (x.m.text.extract n x.m.text.size),x.a,x.c⟩
def pieceA (x:MkA) (n:Nat):MkA:=asA (tM ⟨#[]⟩ [] false (x.m.text.extract 0 n))
theorem DW.cut (h:DW w l k own odd vo vd wr) (hlt:k<l.length) (hm:okN l[k].m.name) (h1:l[k].m.kind=1) {n:Nat} (hn:n≤l[k].m.text.size) (h2:Rw2 w (own++ [l[k]]) (odd++ [pieceA l[k] n]++ [pieceB l[k] n]) vo' vd' w'):DW w l (k+1) (own++ [l[k]]) (odd++ [pieceA l[k] n]++ [pieceB l[k] n]) vo' vd' w':=by
 obtain⟨t1, -⟩:=txt_take l k hlt
 have q1:=h.lo
 have q2:=h.ld
 have q3:=h.tx1
 have q4:=h.tx2
 have hp:=text_parts l[k].m.text hn
 have hs2:=congrArg ByteArray.size hp
 rw[ByteArray.size_append]at hs2
 have hx:l[k].m=tM l[k].m.name l[k].m.attrs l[k].m.self (l[k].m.text.extract 0 n++l[k].m.text.extract n l[k].m.text.size):=by
  rw[hp]
  generalize l[k].m=m at h1
  cases m
  cases h1
  rfl
 have n1:has6 [l[k]]=false:=by show(l[k].m.kind==6||false)=false;rw[h1];rfl
 have n2:has6 [pieceA l[k] n]=false:=rfl
 have n3:has6 [pieceB l[k] n]=false:=rfl
 refine⟨h2,?_,by rw[has6_app,has6_app,has6_app,n1,n2,n3,h.st];simp,by rw[List.length_append];simp;omega,by rw[List.length_append,List.length_append];simp;omega,?_,?_⟩
 ·cases hs:has6 own with
  |true=>rw[up_stop hs,List.append_assoc,up_stop (h.st.trans hs)];exact h.cu
  |false =>
   have hc:=h.cu
   rw[up_all hs,up_all (h.st.trans hs)]at hc
   rw[up_all (by rw[has6_app,hs,n1];rfl),up_all (by rw[has6_app,has6_app,h.st.trans hs,n2,n3];rfl),List.map_append,List.map_append,List.map_append]
   have:=hc.two (nm:=l[k].m.name) (al:=l[k].m.attrs) (sf:=l[k].m.self) (l[k].m.text.extract 0 n) (l[k].m.text.extract n l[k].m.text.size) hm
   rw[←hx]at this
   exact this
 ·rw[txt_app,t1];show _+(l[k].m.text.size+0)≤_;omega
 ·rw[txt_app,txt_app,t1]
  show txtN odd+((l[k].m.text.extract 0 n).size+0)+((l[k].m.text.extract n l[k].m.text.size).size+0)≤_
  omega
def pA0:MkA:=asA (tM ⟨#[]⟩ [] false ByteArray.empty)
def pB0 (x:MkA):MkA:=⟨tM x.m.name x.m.attrs x.m.self x.m.text,x.a,x.c⟩
theorem DW.cut0 (h:DW w l k own odd vo vd wr) (hlt:k<l.length) (hm:okN l[k].m.name) (h1:l[k].m.kind=1) (h2:Rw2 w (own++ [l[k]]) (odd++ [pA0]++ [pB0 l[k]]) vo' vd' w'):DW w l (k+1) (own++ [l[k]]) (odd++ [pA0]++ [pB0 l[k]]) vo' vd' w':=by
 have e1:pieceA l[k] 0=pA0:=by simp[pieceA,pA0]
 have e2:pieceB l[k] 0=pB0 l[k]:=by simp[pieceB,pB0]
 rw[←e1,←e2]at h2 ⊢
 exact h.cut hlt hm h1 (Nat.zero_le _) h2
theorem DW.ends (h:DW w l k own odd vo vd wr):(marksB odd).endN=(marksB own).endN∧(marksB odd).endE=(marksB own).endE:=h.cu.ends
end
set_option maxRecDepth 100000 in
set_option maxHeartbeats 8000000 in
theorem lawBuildCuts (l:List MkA) (a:Option Addr) (c:Nat) (ws:List Int) (a1:Option Addr) (c1:Nat) (w:World) (hl:l.length≤1048576) (hat:At w a (mksV l)) (hm: ∀x∈l,MA Non w x.m x.a x.c) (htx:txtN l≤1048576) (hws:ws.length≤1048576) (hatw:At w a1 (intsV ws)) :
 Calls Tryz.prog 4 #[.slice a l.length c,.slice a1 ws.length c1] w fun e w'=>e= .returned (.bool true)∧Below w.heap.size w w':=by
 have HS:=Lib.hid (shown17_any w)
 have HAT:=Lib.hid (at_non hat)
 have HAW:=Lib.hid (at_non hatw)
 have HM:=Lib.hid hm
 have HT:=Lib.hid htx
 clear hat hatw hm htx
 go_enter Tryz.func4,Tryz.ntmps4
 go_wp2_with (go_at_call 5;go_must (refine HS.out.mono ?_;rintro e w1 ⟨rfl,hb1⟩;have HB1:=Lib.hid hb1;clear hb1))
 clear HS
 go_loopw [6,7,8] (fun vo vd i wr=> ∃(k:Nat) (own odd:List MkA),k≤l.length∧i= .int .i64 (k:Nat)∧Hid (DW w l k own odd vo vd wr)) (fun _ _ i _=>l.length-(intOf i).toNat)
 case atStart=>exact⟨0,[],[],Nat.zero_le _,rfl,Lib.hid ⟨Rw2.nil HB1.out,Cuts.nil,rfl,Nat.zero_le _,Nat.zero_le _,Nat.zero_le _,Nat.zero_le _⟩⟩
 case round =>
  obtain⟨k,own,odd,hk,rfl,HDW⟩:=hrel
  clear HB1
  by_cases hlt:k<l.length
  ·obtain⟨bk,o,rfl,e0,e1,e2,e3,e4⟩:=mks_cells (HAT.out.kept (Keeps.ofBelow (F:=Non) HDW.out.two.below)) hlt
   have HMx:=Lib.hid (HM.out _ (List.getElem_mem hlt))
   have HSame:=Lib.hid (fun vo' vd' w' h1=>HDW.out.same (w':=w') (vo':=vo') (vd':=vd') hlt h1)
   have HCut:=Lib.hid (fun n vo' vd' w' h1 h2 h3=>HDW.out.cut (n:=n) (w':=w') (vo':=vo') (vd':=vd') hlt h1 h2 h3)
   have HCut0:=Lib.hid (fun vo' vd' w' h1 h2 h3=>HDW.out.cut0 (w':=w') (vo':=vo') (vd':=vd') hlt h1 h2 h3)
   obtain⟨x,hx⟩: ∃x,x=l[k]:=⟨_,rfl⟩
   rw[←hx]at e0 e1 e2 e3 e4 HMx HSame HCut HCut0
   clear hx
   have HBM:=Lib.hid ((Below.refl wr.heap.size wr).alloc (Nat.le_refl _) (.cells #[.int .i64 x.m.kind,.string x.m.name,.slice x.a x.m.attrs.length x.c,.bool x.m.self,.string x.m.text] 27))
   cases h1:(x.m.name.toList==([112,114,101]:List UInt8))
   case true =>
    go_wp2_with fail
    go_roundw
    case rel=>exact⟨k+1,own,odd,by omega,by go_num,Lib.hid ((HDW.out.world HBM.out).skip hlt)⟩
    case measure=>simp[intOf];omega
   cases h2:(x.m.name.toList==([108,105,115,116,105,110,103]:List UInt8))
   case true =>
    go_wp2_with fail
    go_roundw
    case rel=>exact⟨k+1,own,odd,by omega,by go_num,Lib.hid ((HDW.out.world HBM.out).skip hlt)⟩
    case measure=>simp[intOf];omega
   cases h3:(x.m.name.toList==([116,101,120,116,97,114,101,97]:List UInt8))
   case true =>
    go_wp2_with fail
    go_roundw
    case rel=>exact⟨k+1,own,odd,by omega,by go_num,Lib.hid ((HDW.out.world HBM.out).skip hlt)⟩
    case measure=>simp[intOf];omega
   have hokn:okN x.m.name:=⟨h1,h2,h3⟩
   obtain⟨i0,hi,hz0,hz1,hz2⟩:=info_parts info_mark5
   have hlo:=HDW.out.lo
   have hld:=HDW.out.ld
   have hb1:own.length+1≤maxLen:=by unfold maxLen;omega
   have hb2:(own.length+1)*72≤140737488355328:=by omega
   have hb3:odd.length+1≤maxLen:=by unfold maxLen;omega
   have hb4:(odd.length+1)*72≤140737488355328:=by omega
   have hle: ∀y:MkA,(odd++ [y]).length=odd.length+1:=fun y=>List.length_append
   have hb5: ∀y:MkA,(odd++ [y]).length+1≤maxLen:=fun y=>by have:=hle y;unfold maxLen;omega
   have hb6: ∀y:MkA,((odd++ [y]).length+1)*72≤140737488355328:=fun y=>by have:=hle y;omega
   clear hle
   have HZg:=Lib.hid (HDW.out.two.below.size)
   have HT0:=Lib.hid (HDW.out.world HBM.out).two
   have HT1:=Lib.hid (HT0.out.world ((Below.refl (wr.alloc (.cells #[.int .i64 x.m.kind,.string x.m.name,.slice x.a x.m.attrs.length x.c,.bool x.m.self,.string x.m.text] 27)).heap.size (wr.alloc (.cells #[.int .i64 x.m.kind,.string x.m.name,.slice x.a x.m.attrs.length x.c,.bool x.m.self,.string x.m.text] 27))).alloc (Nat.le_refl _) (.cells #[.int .i64 x.m.kind,.string x.m.name,.slice x.a x.m.attrs.length x.c,.bool x.m.self,.string x.m.text] 27)))
   have HO1:=Lib.hid HT1.out.ro
   have HN1:=Lib.hid ((at_alloc (w:=wr.alloc (.cells #[.int .i64 x.m.kind,.string x.m.name,.slice x.a x.m.attrs.length x.c,.bool x.m.self,.string x.m.text] 27)) (cur:= #[.int .i64 x.m.kind,.string x.m.name,.slice x.a x.m.attrs.length x.c,.bool x.m.self,.string x.m.text]) (g:=wr.heap.size+1) (e:=27) (xs:=mkV x) (by simp) rfl).news)
   have HZ1:=Lib.hid HT1.out.below.size
   have HF1:=Lib.hid HDW.out.two.fresh
   have HG1:=Lib.hid (show((wr.alloc (.cells #[.int .i64 x.m.kind,.string x.m.name,.slice x.a x.m.attrs.length x.c,.bool x.m.self,.string x.m.text] 27)).alloc (.cells #[.int .i64 x.m.kind,.string x.m.name,.slice x.a x.m.attrs.length x.c,.bool x.m.self,.string x.m.text] 27)).heap[wr.heap.size]?=some (.cells #[.int .i64 x.m.kind,.string x.m.name,.slice x.a x.m.attrs.length x.c,.bool x.m.self,.string x.m.text] 27)from(Below.heap_alloc _ _ _ (by simp)).trans (heap_alloc_new wr _))
   clear hlo hld
   by_cases hw0:ws.length=0
   ·rw[hw0]
    clear hw0
    by_cases kt:x.m.kind=1
    ·have ktb:(x.m.kind==1)=true:=beq_iff_eq.2 kt
     have HMA:=Lib.hid (asA_ma (w:=w) (m:=tM ⟨#[]⟩ [] false (ByteArray.empty)) rfl (Nat.zero_le _) (Nat.zero_le _))
     have HMB:Hid (MA Non w (pB0 x).m (pB0 x).a (pB0 x).c):=Lib.hid ⟨HMx.out.att,HMx.out.nil,HMx.out.alen,HMx.out.ash,HMx.out.tlen,HMx.out.nlen⟩
     have HK:Hid ((#[.int .i64 x.m.kind,.string x.m.name,.slice x.a x.m.attrs.length x.c,.bool x.m.self,.string x.m.text].toList:List Value)=mkV (pB0 x)):=Lib.hid (by show [Value.int .i64 x.m.kind,_,_,_,_]= [Value.int .i64 1,_,_,_,_];rw[kt];rfl)
     have HONE:Hid (∀u∈(#[.int .i64 x.m.kind,.string x.m.name,.slice x.a x.m.attrs.length x.c,.bool x.m.self,.string x.m.text].toList:List Value),u.oneCell'=true):=Lib.hid (fun u hu=>by rw[HK.out]at hu;exact mkV_one _ u hu)
     have hb5:=hb5 pA0
     have hb6:=hb6 pA0
     have HKT:=Lib.hid kt
     have htl:=HMx.out.tlen
     clear kt
     go_wp2_with (first
      |(at_builtin;(refine wpList_append_own_at _ rfl (.tmp 39) (.tmp 41) 22 rfl w.heap.size 27 i0 _ 5 72 Tryz.underlying22 hi hz0 hz1 hz2 rfl (by decide) _ own.length _ rfl HO1.out _ 1 1 (mkV x) rfl rfl HN1.out (mkV_one x) hb1 hb2 HZ1.out ?_;intro v2 u2 hown2 hgr2 _ hat2;have HG2:=Lib.hid (HT1.out.stays hgr2 HG1.out HF1.out.1);have HT2:=Lib.hid (HT1.out.push HMx.out hown2 hgr2 hat2);obtain⟨⟨y0,y1,y2,y3,y4⟩,yf⟩:=cells5 HG2.out;have y4f:=yf 4 (by omega);skip;have HF2:=Lib.hid HF1.out.2;have HV2:Hid (v2.ownBlock≠some wr.heap.size):=Lib.hid (fun e=>by(rcases hat2 with q|q);(exact HF1.out.1 (q.symm.trans e));(rw[q]at e;simp at e;omega));have HT3:=Lib.hid (HT2.out.world ((Below.refl u2.heap.size u2).alloc (Nat.le_refl _) (.cells #[.int .i64 1,.string ⟨#[]⟩,.slice none 0 0,.bool false,.string (ByteArray.empty)] 27)));have HO3:=Lib.hid HT3.out.rd;have HN3:=Lib.hid ((at_alloc (w:=u2) (cur:= #[.int .i64 1,.string ⟨#[]⟩,.slice none 0 0,.bool false,.string (ByteArray.empty)]) (e:=27) (xs:=mkV pA0) rfl rfl).news);have HZ3:=Lib.hid HT3.out.below.size;have HG3:=Lib.hid (show(u2.alloc (.cells #[.int .i64 1,.string ⟨#[]⟩,.slice none 0 0,.bool false,.string (ByteArray.empty)] 27)).heap[wr.heap.size]?=some (.cells #[.int .i64 x.m.kind,.string x.m.name,.slice x.a x.m.attrs.length x.c,.bool x.m.self,.string x.m.text] 27)from(heap_alloc_old u2 _ (row_lt HG2.out)).trans HG2.out);clear hown2 hgr2 hat2 yf))
      |(at_builtin;(refine wpList_append_own_at _ rfl (.tmp 64) (.tmp 70) 22 rfl w.heap.size 27 i0 _ 5 72 Tryz.underlying22 hi hz0 hz1 hz2 rfl (by decide) _ odd.length _ rfl HO3.out _ 1 1 (mkV pA0) rfl rfl HN3.out (mkV_one _) hb3 hb4 HZ3.out ?_;intro v4 u4 hown4 hgr4 _ hat4;have HG4:=Lib.hid (HT3.out.swap.stays hgr4 HG3.out HF2.out);have HW2:=Lib.hid (show v2.ownBlock≠some wr.heap.size∧v4.ownBlock≠some wr.heap.size from⟨HV2.out,fun e=>by(rcases hat4 with q|q);(exact HF2.out (q.symm.trans e));(have hq:=row_lt HG2.out;rw[q]at e;simp at e;omega)⟩);have HT4:=Lib.hid (HT3.out.swap.push HMA.out hown4 hgr4 hat4).swap;clear y0 y1 y2 y3 y4 y4f;obtain⟨⟨y0,y1,y2,y3,y4⟩,yf⟩:=cells5 HG4.out;have y4f:=yf 4 (by omega);have HG5:=Lib.hid (Lib.heap_setCell_same (i:=4) HG4.out (.string x.m.text));obtain⟨⟨z0,z1,z2,z3,z4⟩, -⟩:=cells5 HG5.out;have HT5:=Lib.hid (HT4.out.other HZg.out HW2.out.1 HW2.out.2 4 (.string x.m.text));have HT6:=Lib.hid (HT5.out.world ((Below.refl (u4.setCell ⟨wr.heap.size,4,none⟩ (.string x.m.text)).heap.size (u4.setCell ⟨wr.heap.size,4,none⟩ (.string x.m.text))).alloc (Nat.le_refl _) (.cells #[.int .i64 x.m.kind,.string x.m.name,.slice x.a x.m.attrs.length x.c,.bool x.m.self,.string x.m.text] 27)));have HO6:=Lib.hid HT6.out.rd;have HN6:=Lib.hid ((at_alloc (w:=(u4.setCell ⟨wr.heap.size,4,none⟩ (.string x.m.text))) (g:=u4.heap.size) (cur:= #[.int .i64 x.m.kind,.string x.m.name,.slice x.a x.m.attrs.length x.c,.bool x.m.self,.string x.m.text]) (e:=27) (xs:= #[.int .i64 x.m.kind,.string x.m.name,.slice x.a x.m.attrs.length x.c,.bool x.m.self,.string x.m.text].toList) (by simp) rfl).news);have HZ6:=Lib.hid HT6.out.below.size;clear hown4 hgr4 hat4 yf))
      |(at_builtin;go_must (refine wpList_append_own_at _ rfl (.tmp 77) (.tmp 79) 22 rfl w.heap.size 27 i0 _ 5 72 Tryz.underlying22 hi hz0 hz1 hz2 rfl (by decide) _ (odd++ [pA0]).length _ rfl HO6.out _ 1 1 (#[.int .i64 x.m.kind,.string x.m.name,.slice x.a x.m.attrs.length x.c,.bool x.m.self,.string x.m.text].toList) rfl rfl HN6.out HONE.out hb5 hb6 HZ6.out ?_;intro v7 u7 hown7 hgr7 _ hat7;have HT7:=Lib.hid (HT6.out.swap.push HMB.out (by rw[HK.out]at hown7;exact hown7) hgr7 hat7).swap;clear hown7 hgr7 hat7)))
     go_roundw
     case rel=>exact⟨k+1,_,_,by omega,by go_num,Lib.hid (HCut0.out _ _ _ hokn HKT.out HT7.out)⟩
     case measure=>simp[intOf];omega
    ·have ktb:(x.m.kind==1)=false:=beq_eq_false_iff_ne.2 kt
     clear hb5 hb6 kt
     go_wp2_with (first
      |(at_builtin;(refine wpList_append_own_at _ rfl (.tmp 39) (.tmp 41) 22 rfl w.heap.size 27 i0 _ 5 72 Tryz.underlying22 hi hz0 hz1 hz2 rfl (by decide) _ own.length _ rfl HO1.out _ 1 1 (mkV x) rfl rfl HN1.out (mkV_one x) hb1 hb2 HZ1.out ?_;intro v2 u2 hown2 hgr2 _ hat2;have HG2:=Lib.hid (HT1.out.stays hgr2 HG1.out HF1.out.1);have HT2:=Lib.hid (HT1.out.push HMx.out hown2 hgr2 hat2);obtain⟨⟨y0,y1,y2,y3,y4⟩,yf⟩:=cells5 HG2.out;have y4f:=yf 4 (by omega);skip;have HF2:=Lib.hid HF1.out.2;have HT3:=Lib.hid (HT2.out.world ((Below.refl u2.heap.size u2).alloc (Nat.le_refl _) (.cells #[.int .i64 x.m.kind,.string x.m.name,.slice x.a x.m.attrs.length x.c,.bool x.m.self,.string x.m.text] 27)));have HO3:=Lib.hid HT3.out.rd;have HN3:=Lib.hid ((at_alloc (w:=u2) (cur:= #[.int .i64 x.m.kind,.string x.m.name,.slice x.a x.m.attrs.length x.c,.bool x.m.self,.string x.m.text]) (e:=27) (xs:=mkV x) rfl rfl).news);have HZ3:=Lib.hid HT3.out.below.size;clear hown2 hgr2 hat2 yf))
      |(at_builtin;go_must (refine wpList_append_own_at _ rfl (.tmp 77) (.tmp 79) 22 rfl w.heap.size 27 i0 _ 5 72 Tryz.underlying22 hi hz0 hz1 hz2 rfl (by decide) _ odd.length _ rfl HO3.out _ 1 1 (mkV x) rfl rfl HN3.out (mkV_one x) hb3 hb4 HZ3.out ?_;intro v4 u4 hown4 hgr4 _ hat4;have HT4:=Lib.hid (HT3.out.swap.push HMx.out hown4 hgr4 hat4).swap;clear hown4 hgr4 hat4)))
     go_roundw
     case rel=>exact⟨k+1,_,_,by omega,by go_num,Lib.hid (HSame.out _ _ _ hokn HT4.out)⟩
     case measure=>simp[intOf];omega
   ·have hidx:k%ws.length<ws.length:=Nat.mod_lt _ (by omega)
    obtain⟨b1,o1,rfl,hw1⟩:=ints_get HAW.out hidx
    obtain⟨p,hp15,hpc⟩:=and15 ws[k%ws.length]
    generalize ws[k%ws.length]=cv at hw1 hpc
    have hw2:0<ws.length:=by omega
    by_cases kt:x.m.kind=1
    ·have ktb:(x.m.kind==1)=true:=beq_iff_eq.2 kt
     by_cases hp:p≤x.m.text.size
     ·skip
      have HMA:=Lib.hid (asA_ma (w:=w) (m:=tM ⟨#[]⟩ [] false (x.m.text.extract 0 p)) rfl (by have:=HMx.out.tlen;show(x.m.text.extract 0 p).size≤_;rw[ByteArray.size_extract];omega) (Nat.zero_le _))
      have HMB:Hid (MA Non w (pieceB x p).m (pieceB x p).a (pieceB x p).c):=Lib.hid ⟨HMx.out.att,HMx.out.nil,HMx.out.alen,HMx.out.ash,(by have:=HMx.out.tlen;show(x.m.text.extract p x.m.text.size).size≤_;rw[ByteArray.size_extract];omega),HMx.out.nlen⟩
      have HK:Hid ((#[.int .i64 x.m.kind,.string x.m.name,.slice x.a x.m.attrs.length x.c,.bool x.m.self,.string (x.m.text.extract p x.m.text.size)].toList:List Value)=mkV (pieceB x p)):=Lib.hid (by show [Value.int .i64 x.m.kind,_,_,_,_]= [Value.int .i64 1,_,_,_,_];rw[kt];rfl)
      have HONE:Hid (∀u∈(#[.int .i64 x.m.kind,.string x.m.name,.slice x.a x.m.attrs.length x.c,.bool x.m.self,.string (x.m.text.extract p x.m.text.size)].toList:List Value),u.oneCell'=true):=Lib.hid (fun u hu=>by rw[HK.out]at hu;exact mkV_one _ u hu)
      have hb5:=hb5 (pieceA x p)
      have hb6:=hb6 (pieceA x p)
      have HP:=Lib.hid hp
      have HKT:=Lib.hid kt
      have htl:=HMx.out.tlen
      clear kt
      go_wp2_with (first
       |(at_builtin;(refine wpList_append_own_at _ rfl (.tmp 39) (.tmp 41) 22 rfl w.heap.size 27 i0 _ 5 72 Tryz.underlying22 hi hz0 hz1 hz2 rfl (by decide) _ own.length _ rfl HO1.out _ 1 1 (mkV x) rfl rfl HN1.out (mkV_one x) hb1 hb2 HZ1.out ?_;intro v2 u2 hown2 hgr2 _ hat2;have HG2:=Lib.hid (HT1.out.stays hgr2 HG1.out HF1.out.1);have HT2:=Lib.hid (HT1.out.push HMx.out hown2 hgr2 hat2);obtain⟨⟨y0,y1,y2,y3,y4⟩,yf⟩:=cells5 HG2.out;have y4f:=yf 4 (by omega);have hcu:=cell_later HT2.out.below hw1;have HF2:=Lib.hid HF1.out.2;have HV2:Hid (v2.ownBlock≠some wr.heap.size):=Lib.hid (fun e=>by(rcases hat2 with q|q);(exact HF1.out.1 (q.symm.trans e));(rw[q]at e;simp at e;omega));have HT3:=Lib.hid (HT2.out.world ((Below.refl u2.heap.size u2).alloc (Nat.le_refl _) (.cells #[.int .i64 1,.string ⟨#[]⟩,.slice none 0 0,.bool false,.string (x.m.text.extract 0 p)] 27)));have HO3:=Lib.hid HT3.out.rd;have HN3:=Lib.hid ((at_alloc (w:=u2) (cur:= #[.int .i64 1,.string ⟨#[]⟩,.slice none 0 0,.bool false,.string (x.m.text.extract 0 p)]) (e:=27) (xs:=mkV (pieceA x p)) rfl rfl).news);have HZ3:=Lib.hid HT3.out.below.size;have HG3:=Lib.hid (show(u2.alloc (.cells #[.int .i64 1,.string ⟨#[]⟩,.slice none 0 0,.bool false,.string (x.m.text.extract 0 p)] 27)).heap[wr.heap.size]?=some (.cells #[.int .i64 x.m.kind,.string x.m.name,.slice x.a x.m.attrs.length x.c,.bool x.m.self,.string x.m.text] 27)from(heap_alloc_old u2 _ (row_lt HG2.out)).trans HG2.out);clear hown2 hgr2 hat2 yf))
       |(at_builtin;(refine wpList_append_own_at _ rfl (.tmp 64) (.tmp 70) 22 rfl w.heap.size 27 i0 _ 5 72 Tryz.underlying22 hi hz0 hz1 hz2 rfl (by decide) _ odd.length _ rfl HO3.out _ 1 1 (mkV (pieceA x p)) rfl rfl HN3.out (mkV_one _) hb3 hb4 HZ3.out ?_;intro v4 u4 hown4 hgr4 _ hat4;have HG4:=Lib.hid (HT3.out.swap.stays hgr4 HG3.out HF2.out);have HW2:=Lib.hid (show v2.ownBlock≠some wr.heap.size∧v4.ownBlock≠some wr.heap.size from⟨HV2.out,fun e=>by(rcases hat4 with q|q);(exact HF2.out (q.symm.trans e));(have hq:=row_lt HG2.out;rw[q]at e;simp at e;omega)⟩);have HT4:=Lib.hid (HT3.out.swap.push HMA.out hown4 hgr4 hat4).swap;clear y0 y1 y2 y3 y4 y4f;obtain⟨⟨y0,y1,y2,y3,y4⟩,yf⟩:=cells5 HG4.out;have y4f:=yf 4 (by omega);have HG5:=Lib.hid (Lib.heap_setCell_same (i:=4) HG4.out (.string (x.m.text.extract p x.m.text.size)));obtain⟨⟨z0,z1,z2,z3,z4⟩, -⟩:=cells5 HG5.out;have HT5:=Lib.hid (HT4.out.other HZg.out HW2.out.1 HW2.out.2 4 (.string (x.m.text.extract p x.m.text.size)));have HT6:=Lib.hid (HT5.out.world ((Below.refl (u4.setCell ⟨wr.heap.size,4,none⟩ (.string (x.m.text.extract p x.m.text.size))).heap.size (u4.setCell ⟨wr.heap.size,4,none⟩ (.string (x.m.text.extract p x.m.text.size)))).alloc (Nat.le_refl _) (.cells #[.int .i64 x.m.kind,.string x.m.name,.slice x.a x.m.attrs.length x.c,.bool x.m.self,.string (x.m.text.extract p x.m.text.size)] 27)));have HO6:=Lib.hid HT6.out.rd;have HN6:=Lib.hid ((at_alloc (w:=(u4.setCell ⟨wr.heap.size,4,none⟩ (.string (x.m.text.extract p x.m.text.size)))) (g:=u4.heap.size) (cur:= #[.int .i64 x.m.kind,.string x.m.name,.slice x.a x.m.attrs.length x.c,.bool x.m.self,.string (x.m.text.extract p x.m.text.size)]) (e:=27) (xs:= #[.int .i64 x.m.kind,.string x.m.name,.slice x.a x.m.attrs.length x.c,.bool x.m.self,.string (x.m.text.extract p x.m.text.size)].toList) (by simp) rfl).news);have HZ6:=Lib.hid HT6.out.below.size;clear hown4 hgr4 hat4 yf))
       |(at_builtin;go_must (refine wpList_append_own_at _ rfl (.tmp 77) (.tmp 79) 22 rfl w.heap.size 27 i0 _ 5 72 Tryz.underlying22 hi hz0 hz1 hz2 rfl (by decide) _ (odd++ [pieceA x p]).length _ rfl HO6.out _ 1 1 (#[.int .i64 x.m.kind,.string x.m.name,.slice x.a x.m.attrs.length x.c,.bool x.m.self,.string (x.m.text.extract p x.m.text.size)].toList) rfl rfl HN6.out HONE.out hb5 hb6 HZ6.out ?_;intro v7 u7 hown7 hgr7 _ hat7;have HT7:=Lib.hid (HT6.out.swap.push HMB.out (by rw[HK.out]at hown7;exact hown7) hgr7 hat7).swap;clear hown7 hgr7 hat7)))
      go_roundw
      case rel=>exact⟨k+1,_,_,by omega,by go_num,Lib.hid (HCut.out _ _ _ _ hokn HKT.out HP.out HT7.out)⟩
      case measure=>simp[intOf];omega
     ·clear hb5 hb6 kt
      go_wp2_with (first
       |(at_builtin;(refine wpList_append_own_at _ rfl (.tmp 39) (.tmp 41) 22 rfl w.heap.size 27 i0 _ 5 72 Tryz.underlying22 hi hz0 hz1 hz2 rfl (by decide) _ own.length _ rfl HO1.out _ 1 1 (mkV x) rfl rfl HN1.out (mkV_one x) hb1 hb2 HZ1.out ?_;intro v2 u2 hown2 hgr2 _ hat2;have HG2:=Lib.hid (HT1.out.stays hgr2 HG1.out HF1.out.1);have HT2:=Lib.hid (HT1.out.push HMx.out hown2 hgr2 hat2);obtain⟨⟨y0,y1,y2,y3,y4⟩,yf⟩:=cells5 HG2.out;have y4f:=yf 4 (by omega);have hcu:=cell_later HT2.out.below hw1;have HF2:=Lib.hid HF1.out.2;have HT3:=Lib.hid (HT2.out.world ((Below.refl u2.heap.size u2).alloc (Nat.le_refl _) (.cells #[.int .i64 x.m.kind,.string x.m.name,.slice x.a x.m.attrs.length x.c,.bool x.m.self,.string x.m.text] 27)));have HO3:=Lib.hid HT3.out.rd;have HN3:=Lib.hid ((at_alloc (w:=u2) (cur:= #[.int .i64 x.m.kind,.string x.m.name,.slice x.a x.m.attrs.length x.c,.bool x.m.self,.string x.m.text]) (e:=27) (xs:=mkV x) rfl rfl).news);have HZ3:=Lib.hid HT3.out.below.size;clear hown2 hgr2 hat2 yf))
       |(at_builtin;go_must (refine wpList_append_own_at _ rfl (.tmp 77) (.tmp 79) 22 rfl w.heap.size 27 i0 _ 5 72 Tryz.underlying22 hi hz0 hz1 hz2 rfl (by decide) _ odd.length _ rfl HO3.out _ 1 1 (mkV x) rfl rfl HN3.out (mkV_one x) hb3 hb4 HZ3.out ?_;intro v4 u4 hown4 hgr4 _ hat4;have HT4:=Lib.hid (HT3.out.swap.push HMx.out hown4 hgr4 hat4).swap;clear hown4 hgr4 hat4)))
      go_roundw
      case rel=>exact⟨k+1,_,_,by omega,by go_num,Lib.hid (HSame.out _ _ _ hokn HT4.out)⟩
      case measure=>simp[intOf];omega
    ·have ktb:(x.m.kind==1)=false:=beq_eq_false_iff_ne.2 kt
     clear hb5 hb6 kt
     go_wp2_with (first
      |(at_builtin;(refine wpList_append_own_at _ rfl (.tmp 39) (.tmp 41) 22 rfl w.heap.size 27 i0 _ 5 72 Tryz.underlying22 hi hz0 hz1 hz2 rfl (by decide) _ own.length _ rfl HO1.out _ 1 1 (mkV x) rfl rfl HN1.out (mkV_one x) hb1 hb2 HZ1.out ?_;intro v2 u2 hown2 hgr2 _ hat2;have HG2:=Lib.hid (HT1.out.stays hgr2 HG1.out HF1.out.1);have HT2:=Lib.hid (HT1.out.push HMx.out hown2 hgr2 hat2);obtain⟨⟨y0,y1,y2,y3,y4⟩,yf⟩:=cells5 HG2.out;have y4f:=yf 4 (by omega);have hcu:=cell_later HT2.out.below hw1;have HF2:=Lib.hid HF1.out.2;have HT3:=Lib.hid (HT2.out.world ((Below.refl u2.heap.size u2).alloc (Nat.le_refl _) (.cells #[.int .i64 x.m.kind,.string x.m.name,.slice x.a x.m.attrs.length x.c,.bool x.m.self,.string x.m.text] 27)));have HO3:=Lib.hid HT3.out.rd;have HN3:=Lib.hid ((at_alloc (w:=u2) (cur:= #[.int .i64 x.m.kind,.string x.m.name,.slice x.a x.m.attrs.length x.c,.bool x.m.self,.string x.m.text]) (e:=27) (xs:=mkV x) rfl rfl).news);have HZ3:=Lib.hid HT3.out.below.size;clear hown2 hgr2 hat2 yf))
      |(at_builtin;go_must (refine wpList_append_own_at _ rfl (.tmp 77) (.tmp 79) 22 rfl w.heap.size 27 i0 _ 5 72 Tryz.underlying22 hi hz0 hz1 hz2 rfl (by decide) _ odd.length _ rfl HO3.out _ 1 1 (mkV x) rfl rfl HN3.out (mkV_one x) hb3 hb4 HZ3.out ?_;intro v4 u4 hown4 hgr4 _ hat4;have HT4:=Lib.hid (HT3.out.swap.push HMx.out hown4 hgr4 hat4).swap;clear hown4 hgr4 hat4)))
     go_roundw
     case rel=>exact⟨k+1,_,_,by omega,by go_num,Lib.hid (HSame.out _ _ _ hokn HT4.out)⟩
     case measure=>simp[intOf];omega
  ·obtain rfl:k=l.length:=by omega
   have HEnd:=Lib.hid HDW.out.ends
   have HT1:=Lib.hid HDW.out.two
   have h9:txtN (l.take l.length)≤1048576:=by rw[List.take_of_length_le (Nat.le_refl _)];exact HT.out
   have HMa:=Lib.hid (HT1.out.marks (by have:=HDW.out.lo;omega) (by have:=HDW.out.tx1;omega))
   have HMb:=Lib.hid (fun u (hu:Below wr.heap.size wr u)=>(HT1.out.swap.world hu).marks (by have:=HDW.out.ld;omega) (by have:=HDW.out.tx2;omega))
   have HBw:=Lib.hid HT1.out.below
   rw[HEnd.out.1,HEnd.out.2]at HMb
   have hsn:=fun u cs cs' (h1:NodeC Non u cs (marksB own).endN) (h2:NodeC Non u cs' (marksB own).endN)=>nsame_any _ _ _ u cs cs' (Nat.le_refl _) h1 h2
   rw[sameB_yes]at hsn
   have HSn:=Lib.hid hsn
   generalize (marksB own).endN=nt at *
   generalize (marksB own).endE=ee at *
   clear HDW HT1 HEnd hsn h9 HAT HAW HM HT
   go_wp2_with fail
   refine HMa.out.mono ?_
   rintro e u1 ⟨cs,rfl,hn1,hu1⟩
   obtain⟨f0,f1,f2,f3,f4,f5,f6,f7,f8,f9,rfl⟩:=nodeC_form hn1
   have HX1:=Lib.hid (heap_alloc_new u1 (.cells #[.int .i64 f0,.int .i64 f1,.string f2,.slice f3 f4 f5,.string f6,.slice f7 f8 f9] 30))
   have HU2:=Lib.hid (show Below wr.heap.size wr (u1.alloc (.cells #[.int .i64 f0,.int .i64 f1,.string f2,.slice f3 f4 f5,.string f6,.slice f7 f8 f9] 30))from hu1.alloc hu1.size _)
   have HN1:=Lib.hid ((hn1.other (G:=Non) fun j _ hx=>hx.elim).kept (Keeps.ofBelow (F:=Non) ((Below.refl u1.heap.size u1).alloc (Nat.le_refl _) (.cells #[.int .i64 f0,.int .i64 f1,.string f2,.slice f3 f4 f5,.string f6,.slice f7 f8 f9] 30))))
   have HMc:=Lib.hid (HMb.out _ HU2.out)
   clear hn1 hu1 HMa HMb
   unfold nodeV
   dsimp only
   go_wp2_with fail
   refine HMc.out.mono ?_
   rintro e u3 ⟨cs2,rfl,hn2,hu3⟩
   obtain⟨g0,g1,g2,g3,g4,g5,g6,g7,g8,g9,rfl⟩:=nodeC_form hn2
   have hb4:Below u3.heap.size u3 (u3.alloc (.cells #[.int .i64 g0,.int .i64 g1,.string g2,.slice g3 g4 g5,.string g6,.slice g7 g8 g9] 30)):=(Below.refl u3.heap.size u3).alloc (Nat.le_refl _) (.cells #[.int .i64 g0,.int .i64 g1,.string g2,.slice g3 g4 g5,.string g6,.slice g7 g8 g9] 30)
   have HX3:=Lib.hid (heap_alloc_new u3 (.cells #[.int .i64 g0,.int .i64 g1,.string g2,.slice g3 g4 g5,.string g6,.slice g7 g8 g9] 30))
   have HX2:=Lib.hid (show(u3.alloc (.cells #[.int .i64 g0,.int .i64 g1,.string g2,.slice g3 g4 g5,.string g6,.slice g7 g8 g9] 30)).heap[u1.heap.size]?=some (.cells #[.int .i64 f0,.int .i64 f1,.string f2,.slice f3 f4 f5,.string f6,.slice f7 f8 f9] 30)from(hb4.block _ (Nat.lt_of_lt_of_le (row_lt HX1.out) hu3.size)).trans ((hu3.block _ (row_lt HX1.out)).trans HX1.out))
   have HBW:=Lib.hid (belowCall (belowCall (belowCall HBw.out HU2.out) hu3) hb4)
   have HS4:=Lib.hid (HSn.out (u3.alloc (.cells #[.int .i64 g0,.int .i64 g1,.string g2,.slice g3 g4 g5,.string g6,.slice g7 g8 g9] 30)) _ _ ((HN1.out.kept (Keeps.ofBelow (F:=Non) hu3)).kept (Keeps.ofBelow (F:=Non) hb4)) ((hn2.other (G:=Non) fun j _ hx=>hx.elim).kept (Keeps.ofBelow (F:=Non) hb4)))
   unfold nodeV
   unfold nodeV at HS4
   obtain⟨⟨x0,x1,x2,x3,x4,x5⟩,_⟩:=cells6 HX2.out
   obtain⟨⟨y0,y1,y2,y3,y4,y5⟩,_⟩:=cells6 HX3.out
   clear hn2 hu3 hb4 HX2 HX3 HX1 HN1 HSn HMc HU2
   dsimp only
   go_wp2_with (go_at_call 7;go_must (refine HS4.out.mono ?_;rintro e u5 ⟨rfl,hb5⟩;have HB5:=Lib.hid (belowCall HBW.out hb5);clear hb5))
   go_ret
   exact⟨rfl,HB5.out⟩
end Go.Proofs.YteckmpcgdgknoaaGreatDoor
set_option linter.unusedVariables false
set_option linter.unusedSimpArgs false
namespace Go.Proofs.YteckmpcgdgknoaaGreatDoor
open Go.ChangeShapes Go.WideShapes Go.ChangeAt Go.RowKit
open Go.ChangeMaps (open_string)
open Mem Law
theorem buildCuts_own:ownKnob Tryz.prog.godebug=none:=by kernel_rfl
theorem buildCuts_laid_out:laidOutB Tryz.prog=true:=by kernel_rfl
theorem buildCuts_types: ∀t∈Tryz.f4.params.toList,Tryz.prog.readableRec t=true∧t<Tryz.prog.types.size:=by
 have h:(Tryz.f4.params.toList.all fun t=>Tryz.prog.readableRec t&&decide (t<Tryz.prog.types.size))=true:=by kernel_rfl
 intro t ht
 have:=List.all_eq_true.1 h t ht
 simpa using this
theorem buildCuts_reads (os:Os) {H:Type} (enc:TypeId×Value→H): ∃places,DataW.whole enc Tryz.prog ((World.laidAll Tryz.prog os Rows.buildCutsRow.laid).forCall (fun _ _=>0) ⟨#[],#[.slice none 0 0,.slice none 0 0],[]⟩).memory Tryz.f4.params.toList Rows.buildCutsSpec.vars false (#[.slice none 0 0,.slice none 0 0]:Array Value).toList 8=some ([.nil,.nil],[],places) :=
 ⟨[],by kernel_rfl⟩
theorem buildCuts_met (os:Os):laidMetH Tryz.prog Rows.buildCutsRow.laid (((World.laidAll Tryz.prog os Rows.buildCutsRow.laid).forCall (fun _ _=>0) ⟨#[],#[.slice none 0 0,.slice none 0 0],[]⟩).memory):=by
 rw[MakeChecks.laidMetH_plain _ _ _ (by kernel_rfl)]
 exact laidMet_laidAll _ (by kernel_rfl) (by kernel_rfl)
set_option maxRecDepth 100000 in
theorem buildCuts_lifted (os:Os) (started:os.Started) (H:Type) (enc:TypeId×Value→H) (F:Stop.Interp) :
 ReturnsInHanded {} Tryz.checked os 4 .any ((Rows.OpenSpec.upto Rows.buildCutsSpec).preRow enc Tryz.prog Tryz.f4 Rows.buildCutsUptoRow.domain false Rows.buildCutsUptoRow.laid) (((Rows.OpenSpec.upto Rows.buildCutsSpec).at F).post enc Tryz.prog Tryz.f4 false true false false):=by
 obtain⟨places,hx⟩:=buildCuts_reads os enc
 refine returnsInHanded_of_row (C:=Tryz.checked) (s:=Rows.OpenSpec.upto Rows.buildCutsSpec) buildCuts_own started (by kernel_rfl) Tryz.func4
  (witness_row_at (enc:=enc) (C:=Tryz.checked) false (World.laidAll Tryz.prog os Rows.buildCutsRow.laid) #[.slice none 0 0,.slice none 0 0] (World.laidAll_os _ _ _) (by kernel_rfl) (by kernel_rfl) (by kernel_rfl)
    (OpenSpec.preRow_of_cond 8 hx (by kernel_rfl) (fun k hk=>by cases hk;kernel_rfl) (by kernel_rfl) (buildCuts_met os))) ?_
 intro W base args ds gs before hval0 hW _ hcond _ _ _ _
 have hval: ∀(j:Nat) t v,Tryz.f4.params[j]?=some t→args[j]?=some v→Value.okWide Tryz.prog W .any base t v:=hval0
 have hW':=hW
 obtain⟨p,q,hA0,hV,rfl,_,_⟩:=hW
 have hA:DataW.TrodAll enc Tryz.prog W 0 (fun _=>true) true Tryz.f4.params.toList args.toList ds p:=hA0
 rw[Tryz.params4]at hA hval
 obtain⟨v0,vs0,d0,ds0,p0,q0,hargs,rfl,rfl,h0,r0⟩:=trodAll_cons hA
 obtain⟨v1,vs1,d1,ds1,p1,q1,rfl,rfl,rfl,h1,r1⟩:=trodAll_cons r0
 obtain⟨rfl,rfl,rfl⟩:=trodAll_nil r1
 obtain rfl:args= #[v0,v1]:=by cases args;simp_all
 have hk:=hcond _ rfl
 obtain⟨a0,c0,l0,hv0,hl0,hz0,ha0,hm0,ht0⟩:=open_marks (hval 0 22 v0 rfl rfl) h0 (by simp) hk
 subst hv0
 obtain⟨a1',n1',c1',rfl⟩:=okWide_slice Tryz.underlying23 (hval 1 23 v1 rfl rfl)
 have hn1:=Bulk.slice_short Tryz.underlying23 h1 (by simp) hk
 obtain⟨f1,hf1⟩:=h1
 obtain⟨a1,c1,l1,hv1,hl1,hc1,hz1,ha1⟩:=open_intl Tryz.underlying23 Tryz.underlying3 (by kernel_rfl) (by simpa[Value.cells] using hf1)
 simp only[Value.slice.injEq]at hv1
 obtain⟨rfl,rfl,rfl⟩:=hv1
 clear hA0 hval0
 refine(lawBuildCuts l0 a0 c0 l1 a1' c1' W hl0 ha0 hm0 ht0 hn1 ha1).mono fun e W' ⟨he,hb⟩=> ?_
 subst he
 exact⟨_,rfl,law_post hW' rfl (by kernel_rfl) Tryz.underlying4 rfl buildCuts_laid_out buildCuts_types hb⟩
theorem buildCuts_said:Rows.BuildCutsUptoSaid :=
 OpenClaim.holds_of_cond 4 Tryz.f4 rfl rfl rfl rfl rfl rfl rfl ⟨rfl,rfl,rfl,rfl,rfl⟩ rfl rfl rfl rfl rfl (by kernel_rfl) Tryz.func4 (by kernel_rfl)
  (of_decide_eq_true (by kernel_rfl)) (by unfold Func.isWrapper;first|(rw[if_pos (by decide +kernel)];kernel_rfl)|(rw[if_neg (by decide +kernel)];exact⟨rfl,rfl⟩))
  (fun os started H enc _ F=>by rw[OpenClaim.pre_eq_preRow];exact buildCuts_lifted os started H enc F)
theorem buildCuts_plain (f:FuncId) (fn:Func) (hf:Tryz.pinned.checked.prog.funcNamed "colander/colanderlaw17.BuildCuts" =some f) (hfn:Tryz.pinned.checked.prog.funcs[f]?=some fn) :
 false=Tryz.pinned.checked.prog.looks []∧ ∀(j:Nat) t,fn.params[j]?=some t→Tryz.pinned.checked.prog.wantsStandIn t=false:=by
 obtain rfl:f=4:=Option.some.inj ((show Tryz.prog.funcNamed "colander/colanderlaw17.BuildCuts" =some 4 by kernel_rfl).symm.trans hf) |>.symm
 obtain rfl:fn=Tryz.f4:=(Option.some.inj (Tryz.func4.symm.trans hfn)).symm
 refine⟨by kernel_rfl,fun j t ht=> ?_⟩
 rw[Tryz.params4]at ht
 have hm:t∈ [22,23]:=by simpa using Array.mem_of_getElem? ht
 have hall:([22,23].all fun u=> !Tryz.prog.wantsStandIn u)=true:=by kernel_rfl
 exact(show Tryz.prog.wantsStandIn t=false by simpa using List.all_eq_true.1 hall t hm)
theorem buildCuts_holds:Rows.BuildCutsUptoCardSaid :=
 Claim7.holds_tied_plain_at .later [] _ _ _ _ buildCuts_said (fun _ h=>by cases h) (by kernel_rfl) (fun _ h=>by cases h) buildCutsUpto_row_tie rfl ⟨rfl,rfl⟩ (by kernel_rfl) rfl buildCuts_plain (by kernel_rfl)
#print axioms buildCuts_holds
end Go.Proofs.YteckmpcgdgknoaaGreatDoor
