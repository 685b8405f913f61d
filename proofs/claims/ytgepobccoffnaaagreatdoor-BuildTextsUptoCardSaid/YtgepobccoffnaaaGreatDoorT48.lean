/- Texts joined for a claim: TxW: plain laws and contracts. No conditions beyond those that each lemma types. -/
import Derived.Test.YtgepobccoffnaaaGreatDoorT42
import Derived.Test.YtgepobccoffnaaaGreatDoorT47
set_option linter.unusedVariables false
set_option linter.unusedSimpArgs false
set_option maxRecDepth 100000
set_option maxHeartbeats 8000000
namespace Go.Proofs.YtgepobccoffnaaaGreatDoor
open Go.RowKit Mem
section
def wantS (l:List BMark):List UInt8:=(l.map addS).flatten
structure TW (w:World) (l:List MkA) (k:Nat) (own:List MkA) (vo:Value) (want:ByteArray) (wr:World):Prop where
 two:Rw2 w own [] vo (.slice none 0 0) wr
 hd: ∃r,own.map (·.m)=bodyM::r∧ ∀m∈r,okN m.name∧okT m.name
 tx:want.toList=wantS (own.map (·.m))
 lo:own.length≤k+1
 tx1:txtN own≤txtN (l.take k)
 ws:want.size≤txtN (l.take k)
 ko: ∀x∈own,x.m.kind≠6
section
variable {w wr w':World} {l:List MkA} {k:Nat} {own:List MkA} {vo:Value} {want:ByteArray}
theorem TW.world (h:TW w l k own vo want wr) (hb:Below wr.heap.size wr w'):TW w l k own vo want w':=⟨h.two.world hb,h.hd,h.tx,h.lo,h.tx1,h.ws,h.ko⟩
theorem TW.skip (h:TW w l k own vo want wr) (hlt:k<l.length):TW w l (k+1) own vo want wr:=by
 obtain⟨t1, -⟩:=txt_take l k hlt
 exact⟨h.two,h.hd,h.tx,Nat.le_succ_of_le h.lo,Nat.le_trans h.tx1 (by omega),Nat.le_trans h.ws (by omega),h.ko⟩
theorem wantS_more (l:List BMark) (m:BMark):wantS (l++ [m])=wantS l++addS m:=by
 unfold wantS
 rw[List.map_append,List.flatten_append]
 simp
theorem TW.more (h:TW w l k own vo want wr) (hlt:k<l.length) (h6:l[k].m.kind≠6) (hn:okN l[k].m.name) (ht:okT l[k].m.name) {vo':Value} (h2:Rw2 w (own++ [l[k]]) [] vo' (.slice none 0 0) w') {want':ByteArray} (hw:want'=if l[k].m.kind=1 then want++l[k].m.text else want):TW w l (k+1) (own++ [l[k]]) vo' want' w':=by
 obtain⟨t1, -⟩:=txt_take l k hlt
 obtain⟨r,hr,hr2⟩:=h.hd
 refine⟨h2,⟨r++ [l[k].m],by rw[List.map_append,hr];rfl,fun m hm=> ?_⟩,?_,by rw[List.length_append];have:=h.lo;simp;omega,?_,?_,fun y hy=> ?_⟩
 ·rcases List.mem_append.1 hm with hm|hm
  ·exact hr2 m hm
  ·rw[List.mem_singleton.1 hm];exact⟨hn,ht⟩
 ·rw[List.map_append,List.map_cons,List.map_nil,wantS_more,←h.tx,hw]
  unfold addS
  split
  ·exact ba_app _ _
  ·rw[List.append_nil]
 ·rw[txt_app,t1]
  have:=h.tx1
  show _+(l[k].m.text.size+0)≤_
  omega
 ·rw[hw,t1]
  have:=h.ws
  split
  ·rw[ByteArray.size_append];omega
  ·omega
 ·rcases List.mem_append.1 hy with hy|hy
  ·exact h.ko y hy
  ·rw[List.mem_singleton.1 hy];exact h6
theorem TW.ends (h:TW w l k own vo want wr):((marksB own).endE=0→allF (marksB own).endN=want)∧((marksB own).endE=0∨(marksB own).endE=43∨(marksB own).endE=44):=by
 obtain⟨r,hr,hr2⟩:=h.hd
 rw[all_kinds h.ko,hr]
 have h1:=(body_jb.runs r hr2).ends
 refine⟨fun he=>toList_inj ?_,h1.2⟩
 rw[h.tx,hr]
 exact h1.1 he
end
theorem start_row {w u:World} (hb:Below w.heap.size w u):Rw2 w [asA bodyM] [] (.slice (some ⟨u.heap.size,0,none⟩) 1 1) (.slice none 0 0) (u.alloc (.cells #[.int .i64 2,.string (⟨#[98,111,100,121]⟩:ByteArray),.slice none 0 0,.bool false,.string ⟨#[]⟩] 38)):=by
 refine⟨hb.alloc hb.size _,?_,World.ownsRow_nil _ _ _ _,(fun g _ h=>by cases h),fun x hx=> ?_,(fun x hx=>by cases hx)⟩
 ·exact⟨by simp[mksV,mkV],.inr ⟨_,1,_,rfl,hb.size,heap_alloc_new _ _,Nat.le_refl _,by decide,by simp,by rfl⟩⟩
 ·rw[List.mem_singleton.1 hx]
  exact asA_ma rfl (Nat.zero_le _) (by decide)
theorem lawBuildTexts (l:List MkA) (a:Option Addr) (c:Nat) (w:World) (hl:l.length≤1048576) (hat:At w a (mksV l)) (hm: ∀x∈l,MA Non w x.m x.a x.c) (htx:txtN l≤1048576) :
 Calls Tryz.prog 5 #[.slice a l.length c] w fun e w'=>e= .returned (.bool true)∧Below w.heap.size w w':=by
 have HS:=Lib.hid (shown17_any w)
 have HAT:=Lib.hid (at_non hat)
 have HM:=Lib.hid hm
 have HT:=Lib.hid htx
 clear hat hm htx
 go_enter Tryz.func5,Tryz.ntmps5
 go_wp2_with (go_at_call 6;go_must (refine HS.out.mono ?_;rintro e w1 ⟨rfl,hb1⟩;have HB1:=Lib.hid hb1;clear hb1))
 clear HS
 have HR:=Lib.hid (start_row HB1.out)
 go_loopw [4,5,6] (fun vo vt i wr=> ∃(k:Nat) (own:List MkA) (want:ByteArray),k≤l.length∧i= .int .i64 (k:Nat)∧vt= .string want∧Hid (TW w l k own vo want wr)) (fun _ _ i _=>l.length-(intOf i).toNat)
 case atStart=>exact⟨0,[asA bodyM],⟨#[]⟩,Nat.zero_le _,rfl,rfl,Lib.hid ⟨HR.out,⟨[],rfl,fun _ h=>by cases h⟩,by kernel_rfl,Nat.le_refl _,Nat.zero_le _,Nat.zero_le _,fun x hx=>by rw[List.mem_singleton.1 hx];decide⟩⟩
 case round =>
  obtain⟨k,own,want,hk,rfl,rfl,HTW⟩:=hrel
  clear HB1 HR
  have hpre:txtN (l.take k)≤txtN l:=by
   have:=txt_app (l.take k) (l.drop k)
   rw[List.take_append_drop]at this
   omega
  by_cases hlt:k<l.length
  ·by_cases h300:k<300
   ·clear hpre
    obtain⟨bk,o,rfl,e0,e1,e2,e3,e4⟩:=mks_cells (HAT.out.kept (Keeps.ofBelow (F:=Non) HTW.out.two.below)) hlt
    have HMx:=Lib.hid (HM.out _ (List.getElem_mem hlt))
    have HMore:=Lib.hid (fun h6 h1 h2 vo' w' h3 want'=>HTW.out.more (w':=w') (vo':=vo') (want':=want') hlt h6 h1 h2 h3)
    have hws:want.size≤1048576:=Nat.le_trans HTW.out.ws (Nat.le_trans (by have:=(txt_take l k hlt).1;have:=(txt_take l k hlt).2;omega) HT.out)
    have htx:l[k].m.text.size≤1048576:=Nat.le_trans (by have:=(txt_take l k hlt).1;omega) (Nat.le_trans (txt_take l k hlt).2 HT.out)
    obtain⟨x,hx⟩: ∃x,x=l[k]:=⟨_,rfl⟩
    rw[←hx]at e0 e1 e2 e3 e4 HMx HMore htx
    clear hx
    have hno: ¬9223372036854775807<want.size+x.m.text.size:=by omega
    have HBM:=Lib.hid ((Below.refl wr.heap.size wr).alloc (Nat.le_refl _) (.cells #[.int .i64 x.m.kind,.string x.m.name,.slice x.a x.m.attrs.length x.c,.bool x.m.self,.string x.m.text] 38))
    clear hws htx
    cases h1:(x.m.name.toList==([116,97,98,108,101]:List UInt8))
    case true =>
     skip
     go_wp2_with fail
     go_roundw
     case rel=>exact⟨k+1,own,want,by omega,by go_num,rfl,Lib.hid ((HTW.out.world HBM.out).skip hlt)⟩
     case measure=>simp[intOf];omega
    cases h2:(x.m.name.toList==([115,118,103]:List UInt8))
    case true =>
     skip
     go_wp2_with fail
     go_roundw
     case rel=>exact⟨k+1,own,want,by omega,by go_num,rfl,Lib.hid ((HTW.out.world HBM.out).skip hlt)⟩
     case measure=>simp[intOf];omega
    cases h3:(x.m.name.toList==([109,97,116,104]:List UInt8))
    case true =>
     skip
     go_wp2_with fail
     go_roundw
     case rel=>exact⟨k+1,own,want,by omega,by go_num,rfl,Lib.hid ((HTW.out.world HBM.out).skip hlt)⟩
     case measure=>simp[intOf];omega
    cases h4:(x.m.name.toList==([112,114,101]:List UInt8))
    case true =>
     skip
     go_wp2_with fail
     go_roundw
     case rel=>exact⟨k+1,own,want,by omega,by go_num,rfl,Lib.hid ((HTW.out.world HBM.out).skip hlt)⟩
     case measure=>simp[intOf];omega
    cases h5:(x.m.name.toList==([108,105,115,116,105,110,103]:List UInt8))
    case true =>
     skip
     go_wp2_with fail
     go_roundw
     case rel=>exact⟨k+1,own,want,by omega,by go_num,rfl,Lib.hid ((HTW.out.world HBM.out).skip hlt)⟩
     case measure=>simp[intOf];omega
    cases h6:(x.m.name.toList==([116,101,120,116,97,114,101,97]:List UInt8))
    case true =>
     skip
     go_wp2_with fail
     go_roundw
     case rel=>exact⟨k+1,own,want,by omega,by go_num,rfl,Lib.hid ((HTW.out.world HBM.out).skip hlt)⟩
     case measure=>simp[intOf];omega
    have HOk:=Lib.hid (show okN x.m.name∧okT x.m.name from⟨⟨h4,h5,h6⟩,h1,h2,h3⟩)
    cases k6:(x.m.kind==6)
    case true =>
     skip
     go_wp2_with fail
     go_roundw
     case rel=>exact⟨k+1,own,want,by omega,by go_num,rfl,Lib.hid ((HTW.out.world HBM.out).skip hlt)⟩
     case measure=>simp[intOf];omega
    cases k1:(x.m.kind==1)
    case true =>
     have k1b:(x.m.kind !=1)=false:=by rw[bne,k1];rfl
     have HDone:=Lib.hid (fun vo' w' h=>HMore.out (beq_eq_false_iff_ne.1 k6) HOk.out.1 HOk.out.2 vo' w' h _ (if_pos (eq_of_beq k1)).symm)
     obtain⟨i0,hi,hz0,hz1,hz2⟩:=info_parts info_mark5
     have hlo:=HTW.out.lo
     have hb1:own.length+1≤maxLen:=by unfold maxLen;omega
     have hb2:(own.length+1)*72≤140737488355328:=by omega
     have HT0:=Lib.hid (HTW.out.world HBM.out).two
     have HT1:=Lib.hid (HT0.out.world ((Below.refl (wr.alloc (.cells #[.int .i64 x.m.kind,.string x.m.name,.slice x.a x.m.attrs.length x.c,.bool x.m.self,.string x.m.text] 38)).heap.size (wr.alloc (.cells #[.int .i64 x.m.kind,.string x.m.name,.slice x.a x.m.attrs.length x.c,.bool x.m.self,.string x.m.text] 38))).alloc (Nat.le_refl _) (.cells #[.int .i64 x.m.kind,.string x.m.name,.slice x.a x.m.attrs.length x.c,.bool x.m.self,.string x.m.text] 38)))
     have HO1:=Lib.hid HT1.out.ro
     have HN1:=Lib.hid ((at_alloc (w:=wr.alloc (.cells #[.int .i64 x.m.kind,.string x.m.name,.slice x.a x.m.attrs.length x.c,.bool x.m.self,.string x.m.text] 38)) (g:=wr.heap.size+1) (cur:= #[.int .i64 x.m.kind,.string x.m.name,.slice x.a x.m.attrs.length x.c,.bool x.m.self,.string x.m.text]) (e:=38) (xs:=mkV x) (by simp) rfl).news)
     have HZ1:=Lib.hid HT1.out.below.size
     have HF1:=Lib.hid HTW.out.two.fresh
     have HG1:=Lib.hid (show((wr.alloc (.cells #[.int .i64 x.m.kind,.string x.m.name,.slice x.a x.m.attrs.length x.c,.bool x.m.self,.string x.m.text] 38)).alloc (.cells #[.int .i64 x.m.kind,.string x.m.name,.slice x.a x.m.attrs.length x.c,.bool x.m.self,.string x.m.text] 38)).heap[wr.heap.size]?=some (.cells #[.int .i64 x.m.kind,.string x.m.name,.slice x.a x.m.attrs.length x.c,.bool x.m.self,.string x.m.text] 38)from(Below.heap_alloc _ _ _ (by simp)).trans (heap_alloc_new wr _))
     clear hlo
     go_wp2_with (at_builtin;go_must (refine wpList_append_own_at _ rfl (.tmp 49) (.tmp 51) 36 rfl w.heap.size 38 i0 _ 5 72 Tryz.underlying36 hi hz0 hz1 hz2 rfl (by decide) _ own.length _ rfl HO1.out _ 1 1 (mkV x) rfl rfl HN1.out (mkV_one x) hb1 hb2 HZ1.out ?_;intro v2 u2 hown2 hgr2 _ hat2;have HG2:=Lib.hid (HT1.out.stays hgr2 HG1.out HF1.out.1);have HT2:=Lib.hid (HT1.out.push HMx.out hown2 hgr2 hat2);obtain⟨⟨y0,y1,y2,y3,y4⟩, -⟩:=cells5 HG2.out;clear hown2 hgr2 hat2))
     go_roundw
     case rel=>exact⟨k+1,_,_,by omega,by go_num,rfl,Lib.hid (HDone.out _ _ HT2.out)⟩
     case measure=>simp[intOf];omega
    have k1b:(x.m.kind !=1)=true:=by rw[bne,k1];rfl
    cases hem:x.m.name.toList.isEmpty
    case true =>
     have hem2:x.m.name.toList= []:=List.isEmpty_iff.1 hem
     go_wp2_with fail
     go_roundw
     case rel=>exact⟨k+1,own,want,by omega,by go_num,rfl,Lib.hid ((HTW.out.world HBM.out).skip hlt)⟩
     case measure=>simp[intOf];omega
    have hem2: ¬x.m.name.toList= []:=fun e=>by rw[e]at hem;cases hem
    have HDone:=Lib.hid (fun vo' w' h=>HMore.out (beq_eq_false_iff_ne.1 k6) HOk.out.1 HOk.out.2 vo' w' h _ (if_neg (beq_eq_false_iff_ne.1 k1)).symm)
    obtain⟨i0,hi,hz0,hz1,hz2⟩:=info_parts info_mark5
    have hlo:=HTW.out.lo
    have hb1:own.length+1≤maxLen:=by unfold maxLen;omega
    have hb2:(own.length+1)*72≤140737488355328:=by omega
    have HT0:=Lib.hid (HTW.out.world HBM.out).two
    have HT1:=Lib.hid (HT0.out.world ((Below.refl (wr.alloc (.cells #[.int .i64 x.m.kind,.string x.m.name,.slice x.a x.m.attrs.length x.c,.bool x.m.self,.string x.m.text] 38)).heap.size (wr.alloc (.cells #[.int .i64 x.m.kind,.string x.m.name,.slice x.a x.m.attrs.length x.c,.bool x.m.self,.string x.m.text] 38))).alloc (Nat.le_refl _) (.cells #[.int .i64 x.m.kind,.string x.m.name,.slice x.a x.m.attrs.length x.c,.bool x.m.self,.string x.m.text] 38)))
    have HO1:=Lib.hid HT1.out.ro
    have HN1:=Lib.hid ((at_alloc (w:=wr.alloc (.cells #[.int .i64 x.m.kind,.string x.m.name,.slice x.a x.m.attrs.length x.c,.bool x.m.self,.string x.m.text] 38)) (g:=wr.heap.size+1) (cur:= #[.int .i64 x.m.kind,.string x.m.name,.slice x.a x.m.attrs.length x.c,.bool x.m.self,.string x.m.text]) (e:=38) (xs:=mkV x) (by simp) rfl).news)
    have HZ1:=Lib.hid HT1.out.below.size
    have HF1:=Lib.hid HTW.out.two.fresh
    have HG1:=Lib.hid (show((wr.alloc (.cells #[.int .i64 x.m.kind,.string x.m.name,.slice x.a x.m.attrs.length x.c,.bool x.m.self,.string x.m.text] 38)).alloc (.cells #[.int .i64 x.m.kind,.string x.m.name,.slice x.a x.m.attrs.length x.c,.bool x.m.self,.string x.m.text] 38)).heap[wr.heap.size]?=some (.cells #[.int .i64 x.m.kind,.string x.m.name,.slice x.a x.m.attrs.length x.c,.bool x.m.self,.string x.m.text] 38)from(Below.heap_alloc _ _ _ (by simp)).trans (heap_alloc_new wr _))
    clear hlo
    go_wp2_with (at_builtin;go_must (refine wpList_append_own_at _ rfl (.tmp 49) (.tmp 51) 36 rfl w.heap.size 38 i0 _ 5 72 Tryz.underlying36 hi hz0 hz1 hz2 rfl (by decide) _ own.length _ rfl HO1.out _ 1 1 (mkV x) rfl rfl HN1.out (mkV_one x) hb1 hb2 HZ1.out ?_;intro v2 u2 hown2 hgr2 _ hat2;have HG2:=Lib.hid (HT1.out.stays hgr2 HG1.out HF1.out.1);have HT2:=Lib.hid (HT1.out.push HMx.out hown2 hgr2 hat2);obtain⟨⟨y0,y1,y2,y3,y4⟩, -⟩:=cells5 HG2.out;clear hown2 hgr2 hat2))
    go_roundw
    case rel=>exact⟨k+1,_,_,by omega,by go_num,rfl,Lib.hid (HDone.out _ _ HT2.out)⟩
    case measure=>simp[intOf];omega
   ·skip
    have HE:=Lib.hid HTW.out.ends
    have HMK:=Lib.hid (HTW.out.two.marks (by have:=HTW.out.lo;omega) (Nat.le_trans HTW.out.tx1 (Nat.le_trans hpre (Nat.le_trans HT.out (by decide)))))
    have HBW:=Lib.hid HTW.out.two.below
    have hws:want.size≤1048576:=Nat.le_trans HTW.out.ws (Nat.le_trans hpre HT.out)
    clear HTW
    generalize (marksB own).endE=er at HE HMK
    generalize (marksB own).endN=nn at HE HMK
    go_wp2_with fail
    refine HMK.out.mono ?_
    rintro e w3 ⟨cs,rfl,hnc,hb3⟩
    obtain⟨f0,f1,f2,f3,f4,f5,f6,f7,f8,f9,rfl⟩:=nodeC_form hnc
    have HN3:=Lib.hid ((hnc.other (G:=Non) fun _ _ hx=>hx.elim).kept ((Keeps.refl _ _).alloc (.cells #[.int .i64 f0,.int .i64 f1,.string f2,.slice f3 f4 f5,.string f6,.slice f7 f8 f9] 26)))
    have HB3:=Lib.hid ((belowCall HBW.out hb3).alloc (belowCall HBW.out hb3).size (.cells #[.int .i64 f0,.int .i64 f1,.string f2,.slice f3 f4 f5,.string f6,.slice f7 f8 f9] 26))
    clear hnc hb3 HMK HBW
    dsimp only[nodeV]
    rcases HE.out.2 with her|her|her
    ·subst her
     have hw:=HE.out.1 rfl
     have HA:=Lib.hid (all_any (ntCount nn) nn _ _ (Nat.le_refl _) (by rw[hw];omega) HN3.out)
     unfold nodeV at HA
     rw[hw]at HA
     clear HE hw HN3 hws
     go_wp2_with (go_at_call 15;go_must (refine HA.out.mono ?_;rintro e w4 ⟨rfl,hb4⟩;have HB4:=Lib.hid (belowCall HB3.out hb4);clear hb4))
     go_ret
     exact⟨rfl,HB4.out⟩
    ·subst her
     clear HE HN3 hws
     go_wp2_with fail
     go_ret
     exact⟨rfl,HB3.out⟩
    ·subst her
     clear HE HN3 hws
     go_wp2_with fail
     go_ret
     exact⟨rfl,HB3.out⟩
  ·skip
   have HE:=Lib.hid HTW.out.ends
   have HMK:=Lib.hid (HTW.out.two.marks (by have:=HTW.out.lo;omega) (Nat.le_trans HTW.out.tx1 (Nat.le_trans hpre (Nat.le_trans HT.out (by decide)))))
   have HBW:=Lib.hid HTW.out.two.below
   have hws:want.size≤1048576:=Nat.le_trans HTW.out.ws (Nat.le_trans hpre HT.out)
   clear HTW
   generalize (marksB own).endE=er at HE HMK
   generalize (marksB own).endN=nn at HE HMK
   go_wp2_with fail
   refine HMK.out.mono ?_
   rintro e w3 ⟨cs,rfl,hnc,hb3⟩
   obtain⟨f0,f1,f2,f3,f4,f5,f6,f7,f8,f9,rfl⟩:=nodeC_form hnc
   have HN3:=Lib.hid ((hnc.other (G:=Non) fun _ _ hx=>hx.elim).kept ((Keeps.refl _ _).alloc (.cells #[.int .i64 f0,.int .i64 f1,.string f2,.slice f3 f4 f5,.string f6,.slice f7 f8 f9] 26)))
   have HB3:=Lib.hid ((belowCall HBW.out hb3).alloc (belowCall HBW.out hb3).size (.cells #[.int .i64 f0,.int .i64 f1,.string f2,.slice f3 f4 f5,.string f6,.slice f7 f8 f9] 26))
   clear hnc hb3 HMK HBW
   dsimp only[nodeV]
   rcases HE.out.2 with her|her|her
   ·subst her
    have hw:=HE.out.1 rfl
    have HA:=Lib.hid (all_any (ntCount nn) nn _ _ (Nat.le_refl _) (by rw[hw];omega) HN3.out)
    unfold nodeV at HA
    rw[hw]at HA
    clear HE hw HN3 hws
    go_wp2_with (go_at_call 15;go_must (refine HA.out.mono ?_;rintro e w4 ⟨rfl,hb4⟩;have HB4:=Lib.hid (belowCall HB3.out hb4);clear hb4))
    go_ret
    exact⟨rfl,HB4.out⟩
   ·subst her
    clear HE HN3 hws
    go_wp2_with fail
    go_ret
    exact⟨rfl,HB3.out⟩
   ·subst her
    clear HE HN3 hws
    go_wp2_with fail
    go_ret
    exact⟨rfl,HB3.out⟩
end
end Go.Proofs.YtgepobccoffnaaaGreatDoor
