/- Texts joined for a claim: RMkLi, RMkLen, RMkLp: plain laws and contracts. No conditions beyond those that each lemma types. -/
import Derived.Test.YtgepobccoffnaaaGreatDoorQ40
set_option linter.unusedVariables false
set_option linter.unusedSimpArgs false
set_option maxRecDepth 100000
set_option maxHeartbeats 8000000
namespace Go.Proofs.YtgepobccoffnaaaGreatDoor.Rd
section
open Go.RowKit Mem
def ShutAt (s:Str) (i k:Nat):Prop:=untilF signT (s.drop i)=some ((s.drop i).take k,s.drop (i+k))∧s[i+k]?=some 62
theorem parse_shut {s:ByteArray} {e:Bool} {k:Nat} (h:ShutAt s.toList (if e then 2 else 1) k):parseF s.toList e=(⟨if e then 3 else 2,lowS ((s.toList.drop (if e then 2 else 1)).take k),[],false,[]⟩,(((if e then 2 else 1)+k+1:Nat):Int),0):=by
 rw[parse_ans,h.1]
 obtain⟨hlt,hg⟩:=List.getElem?_eq_some_iff.1 h.2
 have hl2:(if e then 2 else 1)+k<s.size:=by rw[←size_toList];exact hlt
 have hd:s.toList.drop ((if e then 2 else 1)+k)=62::s.toList.drop ((if e then 2 else 1)+k+1):=by
  rw[List.drop_eq_getElem_cons hlt,hg]
 have ht:=tagsF_close (al:= []) (r:=s.toList.drop ((if e then 2 else 1)+k)) (r1:=s.toList.drop ((if e then 2 else 1)+k+1)) (by rw[hd];rfl)
 simp only
 rw[ht,hd]
 have hw:(62::s.toList.drop ((if e then 2 else 1)+k+1)).takeWhile gapB= []:=rfl
 rw[hw,size_toList]at *
 cases e
 ·simp only[Bool.false_eq_true,if_false]at hl2 ⊢
  unfold ansF slashF
  simp only[Bool.false_eq_true,if_false,List.length_nil,List.length_drop,size_toList]
  rw[if_neg (by decide)]
  refine Prod.ext rfl (Prod.ext ?_ rfl)
  show(s.size:Int)-((s.size-(1+k+1):Nat):Int)=((1+k+1:Nat):Int)
  omega
 ·simp only[if_true]at hl2 ⊢
  unfold ansF
  simp only[if_true,List.length_drop,size_toList]
  refine Prod.ext rfl (Prod.ext ?_ rfl)
  show(s.size:Int)-((s.size-(2+k+1):Nat):Int)=((2+k+1:Nat):Int)
  omega
theorem parse_lite (s:ByteArray) (e:Bool) (k:Nat) (w:World) (hs:s.size≤1000000) (hsh:ShutAt s.toList (if e then 2 else 1) k) :
 Calls Tryz.prog 89 #[.string s,.bool e] w fun r w'=> ∃sl,r= .returned (.tuple #[markV sl (parseF s.toList e).1,.int .i64 (parseF s.toList e).2.1,.int .i64 (parseF s.toList e).2.2])∧w'.ownsRow w.heap.size 57 2 sl (parseF s.toList e).1.attrs.length (pairsV (attP (parseF s.toList e).1.attrs))∧Below w.heap.size w w':=by
 obtain⟨p,hp⟩: ∃p,p=parseF s.toList e:=⟨_,rfl⟩
 rw[←hp]
 rw[parse_shut hsh]at hp
 obtain⟨hu,h62g⟩:=hsh
 obtain⟨hk0,hg0⟩:=List.getElem?_eq_some_iff.1 h62g
 rw[size_toList]at hk0
 clear h62g
 cases e
 ·simp only[Bool.false_eq_true,if_false]at hp hu hk0 hg0
  have hk:=hk0
  have h62: ∀(h:1+k<s.size),s[1+k]=62:=fun h=>by rw[←hg0];exact(byte_at s _ h _).symm
  have HW:=Lib.hid (PW.start w s 1 2)
  rw[show((1:Nat):Int)=1 from rfl]at HW
  clear hg0 hk0
  go_enter Tryz.func89,Tryz.ntmps89
  go_wp2_with fail
  generalize (((w.alloc (.cells #[.int .i64 0,.string ⟨#[]⟩,.slice none 0 0,.bool false,.string ⟨#[]⟩] 38)).alloc (.cells #[.string s,.int .i64 1] 161)).alloc (.cells #[.int .i64 2,.string ⟨#[]⟩,.slice none 0 0,.bool false,.string ⟨#[]⟩] 38))=W0 at *
  generalize hC:w.heap.size+1=C at *
  generalize hX:C+1=X at *
  clear hC hX
  obtain⟨J,hJ⟩: ∃J:Int,J=((1+k+1:Nat):Int):=⟨_,rfl⟩
  rw[←hJ]at hp
  have HJ:=Lib.hid (show J=((1+k:Nat):Int)+1 from by rw[hJ];push_cast;rfl)
  clear hJ
  obtain⟨i0,hi0⟩: ∃i0,i0=1:=⟨_,rfl⟩
  obtain⟨kd,hkd⟩: ∃kd:Int,kd=2:=⟨_,rfl⟩
  obtain⟨nt,hnt⟩: ∃nt:Str,nt=(s.toList.drop 1).take k:=⟨_,rfl⟩
  rw[←hnt]at hp
  rw[←hi0]at hu hk h62 HW hnt HJ
  rw[←hkd]at HW
  have HKD:=Lib.hid hkd
  clear hi0 hkd
  obtain⟨t,ht⟩: ∃t:Str,t=(s.toList.drop i0).take k:=⟨_,rfl⟩
  rw[←ht]at hnt
  obtain⟨nmL,hnm⟩: ∃nmL:Str,nmL=lowS t:=⟨_,rfl⟩
  rw[hnt,←hnm]at hp
  have HP:=Lib.hid hp
  have htl:t.length≤s.size:=by rw[ht,List.length_take,List.length_drop,size_toList];omega
  refine(until_yes s ⟨#[9,10,12,32,47,62]⟩ C i0 k W0 HW.out.cur (by omega) (by omega) (by decide) (ascii_of (l:=signT) (by decide)) (by decide) (by rw[ByteArray.toList_eq (⟨#[9,10,12,32,47,62]⟩:ByteArray)];exact hu)).mono ?_
  rw[←ht]
  rintro r W1 ⟨rfl,hrr,hkk⟩
  replace HW:=Lib.hid (HW.out.moved hkk hrr)
  clear hrr hkk hu hp ht
  dsimp only
  go_wp2_with fail
  refine(small_any (strB t) _ (by rw[strB_size];unfold maxLen;omega)).mono ?_
  rintro r W2 ⟨rfl,hb⟩
  replace HW:=Lib.hid (HW.out.calm hb)
  rw[show lowS (strB t).toList=nmL from by rw[hnm,toList_strB]]
  have hf1:W2.frozen? ⟨X,1,none⟩=false:=HW.out.mark.frozen (j:=1) (by simp[xV])
  have hx1:W2.cell? ⟨X,1,none⟩=some (.string (strB [])):=HW.out.mark.cell (j:=1) rfl
  clear hb hnm
  dsimp only
  go_wp2_with fail
  clear hf1 hx1
  have HN:=Lib.hid (HW.out.named (nm':=nmL))
  clear HW
  obtain⟨j,hj⟩: ∃j,j=i0+k:=⟨_,rfl⟩
  rw[←hj]at HN hk h62 HJ
  clear hj hnt
  go_loopw [10] (fun v wr=>v= .bool true∧PW w s w.heap.size C X j kd nmL (.slice none 0 0) false [] wr) (fun _ _=>0)
  case atStart=>exact⟨rfl,HN.out⟩
  case round =>
   obtain⟨rfl,hw⟩:=hrel
   have HW0:=Lib.hid hw
   clear hw HN
   go_wp2_with fail
   go_loopw [11] (fun v wi=>v= .bool false∧PW w s w.heap.size C X j kd nmL (.slice none 0 0) false [] wi) (fun _ _=>0)
   case atStart=>exact⟨rfl,HW0.out⟩
   case round =>
    obtain⟨rfl,hw⟩:=hrel
    have HW:=Lib.hid hw
    clear hw HW0
    have hc1:wr.cell? ⟨C,1,none⟩=some (.int .i64 j):=HW.out.cur.cell (j:=1) rfl
    have hf1:wr.frozen? ⟨C,1,none⟩=false:=HW.out.cur.frozen (j:=1) (by simp[curV])
    have hjs:j<s.size:=hk
    have hjs2:(j:Int)<(s.size:Int):=by omega
    have hjb:((j:Int)==(s.size:Int))=false:=by rw[beq_eq_false_iff_ne];omega
    have h62b:((s[j].toNat:Int)==62)=true:=by rw[h62 hjs];decide
    have h47:((s[j].toNat:Int)==47)=false:=by rw[h62 hjs];decide
    have hu:=s[j].toNat_lt
    have HSP:Hid (∀u,Calls Tryz.prog 146 #[.int .u8 s[j].toNat] u fun e w'=>e= .returned (.bool false)∧u=w'):=Lib.hid fun u=>by
     rw[show(false:Bool)=spaceB s[j]from by rw[h62 hjs];decide]
     exact space_any s[j] u
    clear h62
    have hx2:wr.cell? ⟨X,2,none⟩=some (.slice none 0 0):=HW.out.mark.cell (j:=2) rfl
    have hx3:wr.cell? ⟨X,3,none⟩=some (.bool false):=HW.out.mark.cell (j:=3) rfl
    have hfx3:wr.frozen? ⟨X,3,none⟩=false:=HW.out.mark.frozen (j:=3) (by simp[xV])
    have hlt:=HW.out.lt
    have hXR:w.heap.size≠X:=by omega
    obtain⟨⟨q0,q1,q2,q3,q4⟩,f0,f1,f2,f3,f4⟩:=res_cells HW.out.zero
    have hx0:wr.cell? ⟨X,0,none⟩=some (.int .i64 kd):=HW.out.mark.cell (j:=0) rfl
    have hx1:wr.cell? ⟨X,1,none⟩=some (.string (strB nmL)):=HW.out.mark.cell (j:=1) rfl
    have hx4:wr.cell? ⟨X,4,none⟩=some (.string ⟨#[]⟩):=HW.out.mark.cell (j:=4) rfl
    go_wp2_with (go_at_call 146;go_must (refine(HSP.out _).mono ?_;rintro e wx ⟨rfl,rfl⟩))
    go_region
    go_wp2_with fail
    refine bodyPost_ret (results_mark rfl _ _ w.heap.size _ _ _ _ rfl (at_drew (put5_at (res_set HW.out.zero hXR) _ _ _ _ _)) Tryz.underlying38 rfl mark_info) rfl ?_
    rw[HP.out,HJ.out]
    obtain rfl:kd=2:=HKD.out
    exact⟨.slice none 0 0,ret_eq rfl,World.ownsRow_nil _ _ _ _,(put5_below (HW.out.below.setCell (by show w.heap.size≤X;omega) _) (Nat.le_refl _) _ _ _ _ _).drew⟩
 ·simp only[if_true]at hp hu hk0 hg0
  have hk:=hk0
  have h62: ∀(h:2+k<s.size),s[2+k]=62:=fun h=>by rw[←hg0];exact(byte_at s _ h _).symm
  have HW:=Lib.hid (PW.start w s 2 3)
  rw[show((2:Nat):Int)=2 from rfl]at HW
  clear hg0 hk0
  go_enter Tryz.func89,Tryz.ntmps89
  go_wp2_with fail
  generalize (((w.alloc (.cells #[.int .i64 0,.string ⟨#[]⟩,.slice none 0 0,.bool false,.string ⟨#[]⟩] 38)).alloc (.cells #[.string s,.int .i64 2] 161)).alloc (.cells #[.int .i64 3,.string ⟨#[]⟩,.slice none 0 0,.bool false,.string ⟨#[]⟩] 38))=W0 at *
  generalize hC:w.heap.size+1=C at *
  generalize hX:C+1=X at *
  clear hC hX
  obtain⟨J,hJ⟩: ∃J:Int,J=((2+k+1:Nat):Int):=⟨_,rfl⟩
  rw[←hJ]at hp
  have HJ:=Lib.hid (show J=((2+k:Nat):Int)+1 from by rw[hJ];push_cast;rfl)
  clear hJ
  obtain⟨i0,hi0⟩: ∃i0,i0=2:=⟨_,rfl⟩
  obtain⟨kd,hkd⟩: ∃kd:Int,kd=3:=⟨_,rfl⟩
  obtain⟨nt,hnt⟩: ∃nt:Str,nt=(s.toList.drop 2).take k:=⟨_,rfl⟩
  rw[←hnt]at hp
  rw[←hi0]at hu hk h62 HW hnt HJ
  rw[←hkd]at HW
  have HKD:=Lib.hid hkd
  clear hi0 hkd
  obtain⟨t,ht⟩: ∃t:Str,t=(s.toList.drop i0).take k:=⟨_,rfl⟩
  rw[←ht]at hnt
  obtain⟨nmL,hnm⟩: ∃nmL:Str,nmL=lowS t:=⟨_,rfl⟩
  rw[hnt,←hnm]at hp
  have HP:=Lib.hid hp
  have htl:t.length≤s.size:=by rw[ht,List.length_take,List.length_drop,size_toList];omega
  refine(until_yes s ⟨#[9,10,12,32,47,62]⟩ C i0 k W0 HW.out.cur (by omega) (by omega) (by decide) (ascii_of (l:=signT) (by decide)) (by decide) (by rw[ByteArray.toList_eq (⟨#[9,10,12,32,47,62]⟩:ByteArray)];exact hu)).mono ?_
  rw[←ht]
  rintro r W1 ⟨rfl,hrr,hkk⟩
  replace HW:=Lib.hid (HW.out.moved hkk hrr)
  clear hrr hkk hu hp ht
  dsimp only
  go_wp2_with fail
  refine(small_any (strB t) _ (by rw[strB_size];unfold maxLen;omega)).mono ?_
  rintro r W2 ⟨rfl,hb⟩
  replace HW:=Lib.hid (HW.out.calm hb)
  rw[show lowS (strB t).toList=nmL from by rw[hnm,toList_strB]]
  have hf1:W2.frozen? ⟨X,1,none⟩=false:=HW.out.mark.frozen (j:=1) (by simp[xV])
  have hx1:W2.cell? ⟨X,1,none⟩=some (.string (strB [])):=HW.out.mark.cell (j:=1) rfl
  clear hb hnm
  dsimp only
  go_wp2_with fail
  clear hf1 hx1
  have HN:=Lib.hid (HW.out.named (nm':=nmL))
  clear HW
  obtain⟨j,hj⟩: ∃j,j=i0+k:=⟨_,rfl⟩
  rw[←hj]at HN hk h62 HJ
  clear hj hnt
  go_loopw [10] (fun v wr=>v= .bool true∧PW w s w.heap.size C X j kd nmL (.slice none 0 0) false [] wr) (fun _ _=>0)
  case atStart=>exact⟨rfl,HN.out⟩
  case round =>
   obtain⟨rfl,hw⟩:=hrel
   have HW0:=Lib.hid hw
   clear hw HN
   go_wp2_with fail
   go_loopw [11] (fun v wi=>v= .bool false∧PW w s w.heap.size C X j kd nmL (.slice none 0 0) false [] wi) (fun _ _=>0)
   case atStart=>exact⟨rfl,HW0.out⟩
   case round =>
    obtain⟨rfl,hw⟩:=hrel
    have HW:=Lib.hid hw
    clear hw HW0
    have hc1:wr.cell? ⟨C,1,none⟩=some (.int .i64 j):=HW.out.cur.cell (j:=1) rfl
    have hf1:wr.frozen? ⟨C,1,none⟩=false:=HW.out.cur.frozen (j:=1) (by simp[curV])
    have hjs:j<s.size:=hk
    have hjs2:(j:Int)<(s.size:Int):=by omega
    have hjb:((j:Int)==(s.size:Int))=false:=by rw[beq_eq_false_iff_ne];omega
    have h62b:((s[j].toNat:Int)==62)=true:=by rw[h62 hjs];decide
    have h47:((s[j].toNat:Int)==47)=false:=by rw[h62 hjs];decide
    have hu:=s[j].toNat_lt
    have HSP:Hid (∀u,Calls Tryz.prog 146 #[.int .u8 s[j].toNat] u fun e w'=>e= .returned (.bool false)∧u=w'):=Lib.hid fun u=>by
     rw[show(false:Bool)=spaceB s[j]from by rw[h62 hjs];decide]
     exact space_any s[j] u
    clear h62
    have hx1:wr.cell? ⟨X,1,none⟩=some (.string (strB nmL)):=HW.out.mark.cell (j:=1) rfl
    have hlt:=HW.out.lt
    obtain⟨⟨q0,q1,q2,q3,q4⟩,f0,f1,f2,f3,f4⟩:=res_cells HW.out.zero
    go_wp2_with (go_at_call 146;go_must (refine(HSP.out _).mono ?_;rintro e wx ⟨rfl,rfl⟩))
    go_region
    go_wp2_with fail
    refine bodyPost_ret (results_mark rfl _ _ w.heap.size _ _ _ _ rfl (at_drew (put5_at HW.out.zero _ _ _ _ _)) Tryz.underlying38 rfl mark_info) rfl ?_
    rw[HP.out,HJ.out]
    exact⟨.slice none 0 0,ret_eq rfl,World.ownsRow_nil _ _ _ _,(put5_below HW.out.below (Nat.le_refl _) _ _ _ _ _).drew⟩
theorem tag_lite (m:MkM) (b:Nat) (e:Bool) (w:World) (hr:Row w b (machV m)) (hl:m.buf.length≤4294967280) (q:Nat) (hsh:ShutAt (m.buf.take 2049) (if e then 2 else 1) q) :
 Calls Tryz.prog 57 #[.pointer (some ⟨b,0,none⟩),.bool e] w fun r w'=>OutAt w.heap.size (tagF m e) r w'∧Row w' b (machV (tagF m e).2.2.2)∧Keeps (Only b) w w':=by
 have hbw:=hr.lt
 have hne:w.heap.size≠b:=by omega
 obtain⟨o,ho⟩: ∃o,o=tagF m e:=⟨_,rfl⟩
 rw[←ho]
 obtain⟨x,n,er0,hpar⟩: ∃x n er0,parseF (m.buf.take 2049) e=(x,n,er0):=⟨_,_,_,rfl⟩
 rw[tagF_eq m e x n er0 hpar]at ho
 have hnle:=parse_le (m.buf.take 2049) e
 rw[hpar]at hnle
 have hnl:n≤(m.buf.length:Int):=by
  have:(m.buf.take 2049).length≤m.buf.length:=by rw[List.length_take];omega
  simp only at hnle
  omega
 have hz:(strB m.buf).size=m.buf.length:=strB_size _
 obtain⟨k,hk⟩: ∃k,k=min m.buf.length 2049:=⟨_,rfl⟩
 have hmin:min (m.buf.length:Int) 2049=(k:Int):=by omega
 have hkl:k≤m.buf.length:=by omega
 have htk:m.buf.take 2049=m.buf.take k:=by
  rw[hk]
  rcases Nat.le_total m.buf.length 2049 with h|h
  ·rw[Nat.min_eq_left h,List.take_of_length_le h,List.take_of_length_le (Nat.le_refl _)]
  ·rw[Nat.min_eq_right h]
 have hkz:(m.buf.take 2049).length=k:=by rw[htk,List.length_take];omega
 have e1:(strB m.buf).extract 0 k=strB (m.buf.take 2049):=by rw[htk];exact strB_cut _ _
 have HPA:=Lib.hid (fun u=>parse_lite (strB (m.buf.take 2049)) e q u (by rw[strB_size,hkz];omega) (by rw[toList_strB];exact hsh))
 rw[toList_strB,hpar]at HPA
 rw[hkz]at ho
 have hsz2:(strB (m.buf.take 2049)).size=k:=by rw[strB_size];exact hkz
 obtain⟨wa,hwa⟩: ∃wa,wa=w.alloc (.cells zeroMark 38):=⟨_,rfl⟩
 have HR:=Lib.hid (show Row wa b (machV m)from hwa▸hr.kept (heap_alloc_old w (.cells zeroMark 38) hbw))
 have HZ:=Lib.hid (show wa.heap[w.heap.size]?=some (.cells zeroMark 38 (0,0))from hwa▸heap_alloc_new _ _)
 have HK:=Lib.hid (show Keeps (Only b) w wa from hwa▸(Keeps.refl (Only b) w).alloc _)
 have hza:w.heap.size<wa.heap.size:=by rw[hwa];simp
 have HWA:Hid (wa=w.alloc (.cells #[.int .i64 0,.string ⟨#[]⟩,.slice none 0 0,.bool false,.string ⟨#[]⟩] 38)):=hwa
 generalize m.buf.take 2049=sb at *
 clear hwa hr hpar hnle hk htk hkz hsh
 go_enter Tryz.func57,Tryz.ntmps57
 go_wp2_with fail
 rw[←HWA.out]
 have hc0:=(mach_row HR.out).1
 go_region
 have HR1:=Lib.hid (row_drew HR.out)
 have HZ1:=Lib.hid (at_drew HZ.out)
 have HK1:=Lib.hid HK.out.drew
 have hz1:w.heap.size<wa.drew.heap.size:=hza
 generalize wa.drew=wb at *
 clear hc0
 go_wp2_with fail
 refine(HPA.out _).mono ?_
 rintro r W1 ⟨sl,rfl,hown,hb⟩
 obtain⟨a,c,hsl, -⟩:=own_at hown
 subst hsl
 have HR2:=Lib.hid (HR1.out.below hb HR1.out.lt)
 have HZ2:=Lib.hid (zero_below HZ1.out hb hz1)
 have HK2:=Lib.hid (keeps_then' HK1.out hb)
 have HOW:=Lib.hid (own_base hown (show w.heap.size+1≤wb.heap.size from hz1))
 have hz2:=Nat.lt_of_lt_of_le hz1 hb.size
 clear hown hb
 dsimp only[markV]
 have hbW:=HR2.out.lt
 obtain⟨hc0, -,hc2,hc3, -, -, -, -, -,hc9⟩:=mach_row HR2.out
 obtain⟨hf0, -, -,hf3, -, -, -, -, -,hf9⟩:=mach_free HR2.out
 obtain⟨⟨q0,q1,q2,q3,q4⟩,f0,f1,f2,f3,f4⟩:=res_cells HZ2.out
 by_cases hbig:n>2048∨(n<0∧2048<k)
 ·rw[if_pos hbig,if_pos (by decide)]at ho
  have HO:=Lib.hid ho
  clear ho
  rcases hbig with hb1|⟨hb1,hb2⟩
  ·go_wp2_with fail
   refine bodyPost_ret (results_mark rfl _ _ w.heap.size _ _ _ _ rfl (alloc_keep (put5_at (res_set (res_set HZ2.out hne) hne) _ _ _ _ _)) Tryz.underlying38 rfl mark_info) rfl ?_
   rw[HO.out]
   refine⟨⟨.slice none 0 0,ret_eq rfl,World.ownsRow_nil _ _ _ _⟩,?_,(put5_keeps (keep_set (keep_set HK2.out _) _) (Nat.le_refl _) _ _ _ _ _).alloc _⟩
   exact row_alloc (put5_row ((HR2.out.set 9 _).set 0 (.string (strB []))) (fun e=>hne e.symm) _ _ _ _ _)
  ·have hb3: ¬n>2048:=by omega
   have hb4:(2048:Int)<(k:Int):=by omega
   go_wp2_with fail
   refine bodyPost_ret (results_mark rfl _ _ w.heap.size _ _ _ _ rfl (alloc_keep (put5_at (res_set (res_set HZ2.out hne) hne) _ _ _ _ _)) Tryz.underlying38 rfl mark_info) rfl ?_
   rw[HO.out]
   refine⟨⟨.slice none 0 0,ret_eq rfl,World.ownsRow_nil _ _ _ _⟩,?_,(put5_keeps (keep_set (keep_set HK2.out _) _) (Nat.le_refl _) _ _ _ _ _).alloc _⟩
   exact row_alloc (put5_row ((HR2.out.set 9 _).set 0 (.string (strB []))) (fun e=>hne e.symm) _ _ _ _ _)
 ·rw[if_neg hbig]at ho
  have hb3: ¬n>2048:=by omega
  have hb5:n<0→ ¬(2048:Int)<(k:Int):=by omega
  by_cases her:er0=0
  ·have herb:(er0==0)=true:=beq_iff_eq.2 her
   rw[if_neg (fun h=>h her)]at ho
   by_cases hn:n<0
   ·rw[if_pos hn]at ho
    have hb6:=hb5 hn
    clear hbig hb5
    by_cases hcl:m.closed=true
    ·rw[if_pos hcl]at ho
     rw[hcl]at hc2
     have HO:=Lib.hid ho
     clear ho hcl
     go_wp2_with fail
     refine bodyPost_ret (results_mark rfl _ _ w.heap.size _ _ _ _ rfl (alloc_keep (put5_at (res_set HZ2.out hne) _ _ _ _ _)) Tryz.underlying38 rfl mark_info) rfl ?_
     rw[HO.out]
     refine⟨⟨.slice none 0 0,ret_eq rfl,World.ownsRow_nil _ _ _ _⟩,?_,(put5_keeps (keep_set HK2.out _) (Nat.le_refl _) _ _ _ _ _).alloc _⟩
     exact row_alloc (put5_row (HR2.out.set 0 (.string (strB []))) (fun e=>hne e.symm) _ _ _ _ _)
    ·have hcl':m.closed=false:=by simpa using hcl
     rw[if_neg hcl]at ho
     rw[hcl']at hc2
     have HO:=Lib.hid ho
     clear ho hcl hcl'
     go_wp2_with fail
     refine bodyPost_ret (results_mark rfl _ _ w.heap.size _ _ _ _ rfl (alloc_keep (put5_at HZ2.out _ _ _ _ _)) Tryz.underlying38 rfl mark_info) rfl ?_
     rw[HO.out]
     exact⟨⟨.slice none 0 0,ret_eq rfl,World.ownsRow_nil _ _ _ _⟩,row_alloc (put5_row HR2.out (fun e=>hne e.symm) _ _ _ _ _),(put5_keeps HK2.out (Nat.le_refl _) _ _ _ _ _).alloc _⟩
   ·rw[if_neg hn]at ho
    obtain⟨N,hN⟩:=Int.eq_ofNat_of_zero_le (by omega:0≤n)
    subst hN
    have e2:=strB_ext m.buf N
    have hnl2:N≤m.buf.length:=by omega
    rw[Int.toNat_natCast]at ho
    clear hbig hb5
    cases e
    ·have HO:=Lib.hid ho
     clear ho
     go_wp2_with fail
     refine bodyPost_ret (results_mark rfl _ _ w.heap.size _ _ _ _ rfl (alloc_keep (put5_at (res_set HZ2.out hne) _ _ _ _ _)) Tryz.underlying38 rfl mark_info) rfl ?_
     rw[HO.out]
     refine⟨⟨.slice a x.attrs.length c,ret_eq rfl,World.ownsRow.alloc ?_ _⟩,?_,(put5_keeps (keep_set HK2.out _) (Nat.le_refl _) _ _ _ _ _).alloc _⟩
     ·exact own_base (own_put5 (own_kept HOW.out fun g hg=>heap_setCell_other _ _ _ _ (by show g≠b;have:=(HOW.out.lt g hg).1;omega)) (Nat.lt_succ_self _) _ _ _ _ _) (Nat.le_succ _)
     ·exact row_alloc (put5_row (HR2.out.set 0 _) (fun e=>hne e.symm) _ _ _ _ _)
    ·have HO:=Lib.hid ho
     clear ho
     go_wp2_with fail
     refine bodyPost_ret (results_mark rfl _ _ w.heap.size _ _ _ _ rfl (alloc_keep (put5_at (res_set (res_set HZ2.out hne) hne) _ _ _ _ _)) Tryz.underlying38 rfl mark_info) rfl ?_
     rw[HO.out]
     refine⟨⟨.slice a x.attrs.length c,ret_eq rfl,World.ownsRow.alloc ?_ _⟩,?_,(put5_keeps (keep_set (keep_set HK2.out _) _) (Nat.le_refl _) _ _ _ _ _).alloc _⟩
     ·exact own_base (own_put5 (own_kept (own_kept HOW.out fun g hg=>heap_setCell_other _ _ _ _ (by show g≠b;have:=(HOW.out.lt g hg).1;omega)) fun g hg=>heap_setCell_other _ _ _ _ (by show g≠b;have:=(HOW.out.lt g hg).1;omega)) (Nat.lt_succ_self _) _ _ _ _ _) (Nat.le_succ _)
     ·exact row_alloc (put5_row ((HR2.out.set 0 _).set 3 _) (fun e=>hne e.symm) _ _ _ _ _)
  ·have herb:(er0==0)=false:=beq_eq_false_iff_ne.2 her
   rw[if_pos her]at ho
   have HO:=Lib.hid ho
   clear ho
   by_cases hn:n<0
   ·have hb6:=hb5 hn
    clear hbig hb5
    go_wp2_with fail
    refine bodyPost_ret (results_mark rfl _ _ w.heap.size _ _ _ _ rfl (alloc_keep (put5_at (res_set (res_set HZ2.out hne) hne) _ _ _ _ _)) Tryz.underlying38 rfl mark_info) rfl ?_
    rw[HO.out]
    refine⟨⟨.slice none 0 0,ret_eq rfl,World.ownsRow_nil _ _ _ _⟩,?_,(put5_keeps (keep_set (keep_set HK2.out _) _) (Nat.le_refl _) _ _ _ _ _).alloc _⟩
    exact row_alloc (put5_row ((HR2.out.set 9 _).set 0 (.string (strB []))) (fun e=>hne e.symm) _ _ _ _ _)
   ·clear hbig hb5
    go_wp2_with fail
    refine bodyPost_ret (results_mark rfl _ _ w.heap.size _ _ _ _ rfl (alloc_keep (put5_at (res_set (res_set HZ2.out hne) hne) _ _ _ _ _)) Tryz.underlying38 rfl mark_info) rfl ?_
    rw[HO.out]
    refine⟨⟨.slice none 0 0,ret_eq rfl,World.ownsRow_nil _ _ _ _⟩,?_,(put5_keeps (keep_set (keep_set HK2.out _) _) (Nat.le_refl _) _ _ _ _ _).alloc _⟩
    exact row_alloc (put5_row ((HR2.out.set 9 _).set 0 (.string (strB []))) (fun e=>hne e.symm) _ _ _ _ _)
end
section
open Mem
theorem tagF_name (m:MkM) (e:Bool):(tagF m e).1.name.length≤2049:=by
 have hp:(parseF (m.buf.take 2049) e).1.name.length≤2049:=by
  unfold parseF
  cases hu:untilF signT ((m.buf.take 2049).drop (if e then 2 else 1))with
  |none=>exact Nat.zero_le _
  |some q =>
   obtain⟨nm,r⟩:=q
   have hl:=(untilF_len hu).1
   rw[List.length_drop,List.length_take]at hl
   have hn:(lowS nm).length≤2049:=by unfold lowS;rw[List.length_map];omega
   cases ht:tagsF [] r with
   |none=>simp only[ht];exact Nat.zero_le _
   |some q =>
    obtain⟨al,sl,r2⟩:=q
    simp only[ht]
    cases e
    ·simp only[Bool.false_eq_true,if_false]
     split
     ·exact Nat.zero_le _
     ·exact hn
    ·exact hn
 unfold tagF
 simp only
 obtain⟨er,her⟩: ∃er,er=if(parseF (m.buf.take 2049) e).2.1>2048∨((parseF (m.buf.take 2049) e).2.1<0∧2048<(m.buf.take 2049).length)then(41:Int)else(parseF (m.buf.take 2049) e).2.2:=⟨_,rfl⟩
 rw[←her]
 by_cases h0:er=0
 ·rw[if_neg (fun hh=>hh h0)]
  by_cases hn:(parseF (m.buf.take 2049) e).2.1<0
  ·rw[if_pos hn];exact Nat.zero_le _
  ·rw[if_neg hn];exact hp
 ·rw[if_pos h0];exact Nat.zero_le _
theorem tagF_err {m:MkM} {e:Bool} (h:(tagF m e).2.1=true):(tagF m e).2.2.2.err=m.err:=by
 unfold tagF at h ⊢
 simp only at h ⊢
 obtain⟨er,her⟩: ∃er,er=if(parseF (m.buf.take 2049) e).2.1>2048∨((parseF (m.buf.take 2049) e).2.1<0∧2048<(m.buf.take 2049).length)then(41:Int)else(parseF (m.buf.take 2049) e).2.2:=⟨_,rfl⟩
 rw[←her]at h ⊢
 by_cases h0:er=0
 ·rw[if_neg (fun hh=>hh h0)]at h ⊢
  by_cases hn:(parseF (m.buf.take 2049) e).2.1<0
  ·rw[if_pos hn]at h;cases h
  ·rw[if_neg hn]
   cases e <;>rfl
 ·rw[if_pos h0]at h;cases h
theorem passF_err (m:MkM):(passF m).2.2.2.err=m.err∧(passF m).1.name= []:=by
 have hlater: ∀m':MkM,m'.err=m.err→(comLater m').2.2.2.err=m.err∧(comLater m').1.name= []:=fun m' h=>by
  unfold comLater
  simp only
  repeat' split
  all_goals exact⟨h,rfl⟩
 unfold passF
 split
 ·unfold comF
  split
  ·split
   ·exact⟨rfl,rfl⟩
   ·split
    ·exact⟨rfl,rfl⟩
    ·split
     ·exact⟨rfl,rfl⟩
     ·exact hlater _ rfl
  ·exact hlater m rfl
 ·split
  ·repeat' split
   all_goals exact⟨rfl,rfl⟩
  ·unfold cdF
   simp only
   repeat' split
   all_goals exact⟨rfl,rfl⟩
theorem oneF_err {m:MkM} (h:(oneF m).2.1=true):(oneF m).2.2.2.err=m.err∧(oneF m).1.name.length≤2049:=by
 unfold oneF at h ⊢
 split
 ·rename_i h0
  rw[if_pos h0]at h
  unfold stepF at h ⊢
  simp only at h ⊢
  generalize textF m m.buf=p at *
  by_cases ht:p.1= []
  ·rw[if_neg (fun hh=>hh ht)]at h ⊢
   by_cases i2:p.2.2=2
   ·rw[if_pos i2]at h ⊢;exact⟨tagF_err h,tagF_name _ _⟩
   ·rw[if_neg i2]at h ⊢
    by_cases i3:p.2.2=3
    ·rw[if_pos i3]at h ⊢;exact⟨tagF_err h,tagF_name _ _⟩
    ·rw[if_neg i3]at h ⊢
     repeat' split at h
     all_goals cases h
  ·rw[if_pos ht];exact⟨rfl,Nat.zero_le _⟩
 ·exact⟨(passF_err m).1,by rw[(passF_err m).2];exact Nat.zero_le _⟩
theorem readF_name: ∀(n:Nat) (m:MkM),doM m≤n→ ∀x m1,readF m=(some x,m1)→m1.err=0∧x.name.length≤2049:=by
 intro n
 induction n using Nat.strongRecOn with
 |_ n ih =>
  intro m hm x m1 h
  by_cases he:m.err=0
  ·cases ht:(oneF m).2.1
   ·cases hs:(oneF m).2.2.1
    ·rw[readF_go he ht hs]at h
     have hl:=one_less m (.inr hs)
     exact ih (doM (oneF m).2.2.2) (by omega) _ (Nat.le_refl _) x m1 h
    ·rw[readF_stop he ht hs]at h;cases h
   ·rw[readF_told he ht]at h
    cases h
    exact⟨(oneF_err ht).1.trans he,(oneF_err ht).2⟩
  ·rw[readF_err he]at h;cases h
end
section
open Go.RowKit Mem
structure LiteM (m:MkM):Prop where
 pass:m.pass=0
 err:m.err=0
 nm:m.name.length≤4294967280
 shut:(textF m m.buf).1= []→(textF m m.buf).2.2=1∨((textF m m.buf).2.2=2∧ ∃q,ShutAt ((textF m m.buf).2.1.take 2049) 1 q)∨((textF m m.buf).2.2=3∧ ∃q,ShutAt ((textF m m.buf).2.1.take 2049) 2 q)
theorem LiteM.loud {m:MkM} (h:LiteM m):(oneF m).2.1=true∨(oneF m).2.2.1=true:=by
 have hs:=h.shut
 unfold oneF
 rw[if_pos h.pass]
 unfold stepF
 generalize textF m m.buf=p at *
 simp only
 by_cases ht:p.1= []
 ·rw[if_neg (fun hh=>hh ht)]
  rcases hs ht with h1|⟨h1, -⟩|⟨h1, -⟩ <;>rw[h1]
  ·right;rfl
  ·exact tagF_loud _ _
  ·exact tagF_loud _ _
 ·rw[if_pos ht]
  exact .inl rfl
theorem step_lite (m:MkM) (b:Nat) (w:World) (hr:Row w b (machV m)) (hl:m.buf.length≤4294967280) (hL:LiteM m) :
 Calls Tryz.prog 42 #[.pointer (some ⟨b,0,none⟩)] w fun r w'=>OutAt w.heap.size (stepF m) r w'∧Row w' b (machV (stepF m).2.2.2)∧Keeps (Only b) w w':=by
 have hbw:=hr.lt
 have hne:w.heap.size≠b:=by omega
 obtain⟨o,ho⟩: ∃o,o=stepF m:=⟨_,rfl⟩
 rw[←ho]
 unfold stepF at ho
 have hk0:=hL.shut
 have hln:(textF m m.buf).2.1.length≤m.buf.length:=(textF_spec m _ m.buf (Nat.le_refl _)).1.length_le
 have HRA:Hid (Row (w.alloc (.cells zeroMark 38)) b (machV m)):=hr.kept (heap_alloc_old w _ hbw)
 have HTX:=Lib.hid (text_any m b (w.alloc (.cells zeroMark 38)) HRA.out hl hL.nm)
 generalize textF m m.buf=p at *
 obtain⟨t,buf,is⟩:=p
 simp only at ho hk0 hln HTX
 obtain⟨m1,hm1⟩: ∃m1,m1=({m with buf:=buf}:MkM):=⟨_,rfl⟩
 have hb1:m1.buf=buf:=by rw[hm1]
 rw[←hm1]at ho HTX
 have HK0:=Lib.hid hk0
 clear hk0
 go_enter Tryz.func42,Tryz.ntmps42
 go_wp2_with fail
 refine HTX.out.mono ?_
 rintro r W1 ⟨rfl,r1,k1⟩
 have HZ1:=Lib.hid (only_zero (heap_alloc_new w (.cells zeroMark 38)) k1 (by simp) hne)
 have HK1:=Lib.hid (keeps_alloc k1)
 have HR1:=Lib.hid r1
 have hz1:w.heap.size<W1.heap.size:=Nat.lt_of_lt_of_le (by simp) k1.size
 obtain⟨⟨q0,q1,q2,q3,q4⟩,f0,f1,f2,f3,f4⟩:=res_cells HZ1.out
 have hc0:=(mach_row r1).1
 rw[hb1]at hc0
 obtain⟨g0, -, -, -, -, -,g6,g7,g8, -⟩:=mach_free r1
 obtain⟨-, -, -, -, -, -,c6,c7,c8, -⟩:=mach_row r1
 have hbz:(strB buf).size=buf.length:=strB_size _
 clear k1 r1
 by_cases ht:t= []
 ·subst ht
  rw[if_neg (fun h=>h rfl)]at ho
  have hte:(strB ([]:Str)).toList.isEmpty=true:=by rw[toList_strB];rfl
  rcases HK0.out rfl with i1|⟨i2,q,hsh⟩|⟨i3,q,hsh⟩
  ·subst i1
   rw[if_neg (by decide),if_neg (by decide),if_neg (by decide),if_neg (by decide),if_neg (by decide),if_neg (by decide),if_neg (by decide)]at ho
   have HO:=Lib.hid ho
   clear ho
   dsimp only
   go_wp2_with fail
   refine bodyPost_ret (results_mark rfl _ _ w.heap.size _ _ _ _ rfl (put5_at HZ1.out _ _ _ _ _) Tryz.underlying38 rfl mark_info) rfl ?_
   rw[HO.out]
   exact⟨⟨.slice none 0 0,ret_eq rfl,World.ownsRow_nil _ _ _ _⟩,put5_row HR1.out (fun e=>hne e.symm) _ _ _ _ _,put5_keeps HK1.out (Nat.le_refl _) _ _ _ _ _⟩
  ·subst i2
   rw[if_pos rfl]at ho
   have HTG:=Lib.hid (tag_lite m1 b false W1 HR1.out (by rw[hb1];omega) q (by rw[hb1];exact hsh))
   have HO:=Lib.hid ho
   clear ho hm1 hsh
   dsimp only
   go_wp2_with fail
   refine HTG.out.mono ?_
   rintro r W2 ⟨⟨sl,rfl,hown⟩,r2,k2⟩
   obtain⟨a,c,hsl, -⟩:=own_at hown
   subst hsl
   have HZ2:=Lib.hid (only_zero HZ1.out k2 hz1 hne)
   have HK2:=Lib.hid (HK1.out.trans k2)
   have HR2:=Lib.hid r2
   have HOW:=Lib.hid hown
   clear q0 q1 q2 q3 q4 f0 f1 f2 f3 f4 k2 r2 hown
   obtain⟨⟨q0,q1,q2,q3,q4⟩,f0,f1,f2,f3,f4⟩:=res_cells HZ2.out
   dsimp only[markV]
   go_wp2_with fail
   refine bodyPost_ret (results_mark rfl _ _ w.heap.size _ _ _ _ rfl (put5_at HZ2.out _ _ _ _ _) Tryz.underlying38 rfl mark_info) rfl ?_
   rw[HO.out]
   exact⟨⟨.slice a (tagF m1 false).1.attrs.length c,ret_eq rfl,own_base (own_put5 HOW.out hz1 _ _ _ _ _) (Nat.le_of_lt hz1)⟩,put5_row HR2.out (fun e=>hne e.symm) _ _ _ _ _,put5_keeps HK2.out (Nat.le_refl _) _ _ _ _ _⟩
  ·subst i3
   rw[if_neg (by decide),if_pos rfl]at ho
   have HTG:=Lib.hid (tag_lite m1 b true W1 HR1.out (by rw[hb1];omega) q (by rw[hb1];exact hsh))
   have HO:=Lib.hid ho
   clear ho hm1 hsh
   dsimp only
   go_wp2_with fail
   refine HTG.out.mono ?_
   rintro r W2 ⟨⟨sl,rfl,hown⟩,r2,k2⟩
   obtain⟨a,c,hsl, -⟩:=own_at hown
   subst hsl
   have HZ2:=Lib.hid (only_zero HZ1.out k2 hz1 hne)
   have HK2:=Lib.hid (HK1.out.trans k2)
   have HR2:=Lib.hid r2
   have HOW:=Lib.hid hown
   clear q0 q1 q2 q3 q4 f0 f1 f2 f3 f4 k2 r2 hown
   obtain⟨⟨q0,q1,q2,q3,q4⟩,f0,f1,f2,f3,f4⟩:=res_cells HZ2.out
   dsimp only[markV]
   go_wp2_with fail
   refine bodyPost_ret (results_mark rfl _ _ w.heap.size _ _ _ _ rfl (put5_at HZ2.out _ _ _ _ _) Tryz.underlying38 rfl mark_info) rfl ?_
   rw[HO.out]
   exact⟨⟨.slice a (tagF m1 true).1.attrs.length c,ret_eq rfl,own_base (own_put5 HOW.out hz1 _ _ _ _ _) (Nat.le_of_lt hz1)⟩,put5_row HR2.out (fun e=>hne e.symm) _ _ _ _ _,put5_keeps HK2.out (Nat.le_refl _) _ _ _ _ _⟩
 ·rw[if_pos ht]at ho
  have HO:=Lib.hid ho
  have hte:(strB t).toList.isEmpty=false:=by
   rw[toList_strB]
   cases t with
   |nil=>exact absurd rfl ht
   |cons _ _=>rfl
  clear ho ht hm1
  dsimp only
  go_wp2_with fail
  refine bodyPost_ret (results_mark rfl _ _ w.heap.size _ _ _ _ rfl (put5_at HZ1.out _ _ _ _ _) Tryz.underlying38 rfl mark_info) rfl ?_
  rw[HO.out]
  exact⟨⟨.slice none 0 0,ret_eq rfl,World.ownsRow_nil _ _ _ _⟩,put5_row HR1.out (fun e=>hne e.symm) _ _ _ _ _,put5_keeps HK1.out (Nat.le_refl _) _ _ _ _ _⟩
theorem read_lite (m:MkM) (b:Nat) (w:World) (hr:Row w b (machV m)) (hl:m.buf.length≤4294967280) (hL:LiteM m) :
 Calls Tryz.prog 30 #[.pointer (some ⟨b,0,none⟩)] w fun r w'=>ReadAt w.heap.size (readF m).1 r w'∧Row w' b (machV (readF m).2)∧Keeps (Only b) w w':=by
 have hbw:=hr.lt
 have hne:w.heap.size≠b:=by omega
 obtain⟨o,ho⟩: ∃o,o=readF m:=⟨_,rfl⟩
 rw[←ho]
 have HL:=Lib.hid hL
 have HR0:=Lib.hid hr
 have HHO:=Lib.hid ho
 clear hr ho hL
 go_enter Tryz.func30,Tryz.ntmps30
 go_wp2_with fail
 go_loopg [5] (doM m) (fun g _ wr=> ∃m':MkM,m'=m∧doM m'≤g∧readF m'=o∧m'.name=m.name∧m'.buf.length≤m.buf.length∧Row wr b (machV m')∧wr.heap[w.heap.size]?=some (.cells zeroMark 38 (0,0))∧Keeps (Only b) w wr∧w.heap.size<wr.heap.size)
 case atStart=>exact⟨m,rfl,Nat.le_refl _,HHO.out.symm,rfl,Nat.le_refl _,HR0.out.kept (heap_alloc_old _ _ hbw),heap_alloc_new _ _,(Keeps.refl (Only b) w).alloc _,by simp⟩
 case round =>
  obtain⟨m',hmm,hg,hv,hnm,hbl,hrr,hz,hkk,hzr⟩:=hrel
  have HLM:=Lib.hid (show LiteM m' from by rw[hmm];exact HL.out)
  have HLD:=Lib.hid HLM.out.loud
  clear hmm
  have HV:=Lib.hid hv
  have HRx:=Lib.hid hrr
  have HZ:=Lib.hid hz
  have HKx:=Lib.hid hkk
  obtain⟨-, -, -, -, -, -,hc6, -, -,hc9⟩:=mach_row hrr
  have hbr:=hrr.lt
  have HNM:=Lib.hid hnm
  clear hv hrr hz hkk hnm
  by_cases he:m'.err=0
  ·rw[he]at hc9
   obtain⟨X,hX⟩: ∃X,X=wr.heap.size:=⟨_,rfl⟩
   obtain⟨wa,hwa⟩: ∃wa,wa=wr.alloc (.cells zeroMark 38):=⟨_,rfl⟩
   have HRa:=Lib.hid (show Row wa b (machV m')from hwa▸HRx.out.kept (heap_alloc_old _ _ hbr))
   have HZa:=Lib.hid (show wa.heap[w.heap.size]?=some (.cells zeroMark 38 (0,0))from hwa▸(heap_alloc_old _ _ hzr).trans HZ.out)
   have HXa:=Lib.hid (show wa.heap[X]?=some (.cells zeroMark 38 (0,0))from by rw[hwa,hX];exact heap_alloc_new _ _)
   have HKa:=Lib.hid (show Keeps (Only b) w wa from hwa▸HKx.out.alloc _)
   have hzRa:w.heap.size<wa.heap.size:=by rw[hwa];simp;omega
   have hzXa:X<wa.heap.size:=by rw[hwa,hX];simp
   have hXw:w.heap.size<X:=by omega
   have hbX:b<X:=by omega
   have HWA:Hid (wa=wr.alloc (.cells #[.int .i64 0,.string ⟨#[]⟩,.slice none 0 0,.bool false,.string ⟨#[]⟩] 38)):=hwa
   clear hwa
   have hp:=HLM.out.pass
   rw[hp]at hc6
   have HST:=Lib.hid (step_lite m' b wa HRa.out (by omega) HLM.out)
   rw[show stepF m'=oneF m' from by unfold oneF;rw[if_pos hp]]at HST
   clear HRx HZ HKx
   go_wp2_with fail
   rw[←HWA.out,←hX]
   clear HWA hX hc6 hc9
   refine HST.out.mono ?_
   rintro r W1 ⟨⟨sl,rfl,hown⟩,r2,k2⟩
   obtain⟨a,c,hsl, -⟩:=own_at hown
   subst hsl
   have hXb:X≠b:=by omega
   have HZ1:=Lib.hid (only_zero HZa.out k2 hzRa hne)
   have HX1:=Lib.hid (only_zero HXa.out k2 hzXa hXb)
   have HK1:=Lib.hid (HKa.out.trans k2)
   have HR1:=Lib.hid r2
   have HOW:=Lib.hid hown
   have hz1:w.heap.size<W1.heap.size:=Nat.lt_of_lt_of_le hzRa k2.size
   clear k2 r2 hown
   obtain⟨⟨q0,q1,q2,q3,q4⟩,f0,f1,f2,f3,f4⟩:=res_cells HZ1.out
   obtain⟨⟨y0,y1,y2,y3,y4⟩,z0,z1,z2,z3,z4⟩:=res_cells HX1.out
   have hRX:w.heap.size≠X:=by omega
   dsimp only[markV]
   cases ht:(oneF m').2.1
   ·cases hs:(oneF m').2.2.1
    ·rcases HLD.out with h|h <;>simp only[ht,hs]at h <;>cases h
    ·have HO:=Lib.hid (HV.out.symm.trans (readF_stop he ht hs))
     go_wp2_with fail
     refine bodyPost_ret (results_attr rfl _ _ w.heap.size _ _ _ _ rfl (put5_at ((put5_other hRX _ _ _ _ _).trans HZ1.out) _ _ _ _ _) Tryz.underlying38 rfl mark_info) rfl ?_
     rw[HO.out]
     exact⟨rfl,put5_row (put5_row HR1.out (fun e=>hXb e.symm) _ _ _ _ _) (fun e=>hne e.symm) _ _ _ _ _,put5_keeps (put5_keeps HK1.out (Nat.le_of_lt hXw) _ _ _ _ _) (Nat.le_refl _) _ _ _ _ _⟩
   ·have HO:=Lib.hid (HV.out.symm.trans (readF_told he ht))
    go_wp2_with fail
    refine bodyPost_ret (results_attr rfl _ _ w.heap.size _ _ _ _ rfl (put5_at ((put5_other hRX _ _ _ _ _).trans HZ1.out) _ _ _ _ _) Tryz.underlying38 rfl mark_info) rfl ?_
    rw[HO.out]
    exact⟨⟨.slice a (oneF m').1.attrs.length c,rfl,own_base (own_put5 (own_put5 HOW.out hzXa _ _ _ _ _) hzRa _ _ _ _ _) (Nat.le_of_lt hzRa)⟩,put5_row (put5_row HR1.out (fun e=>hXb e.symm) _ _ _ _ _) (fun e=>hne e.symm) _ _ _ _ _,put5_keeps (put5_keeps HK1.out (Nat.le_of_lt hXw) _ _ _ _ _) (Nat.le_refl _) _ _ _ _ _⟩
  ·exact absurd HLM.out.err he
theorem NextP_lite (m:MkM) (b:Nat) (w:World) (hr:Row w b (machV m)) (hl:m.buf.length≤4294967280) (hL:LiteM m) :
 Calls Tryz.prog 19 #[.pointer (some ⟨b,0,none⟩)] w fun r w'=>NextAt w.heap.size (readF m) r w'∧Row w' b (machV (readF m).2)∧Keeps (Only b) w w':=by
 have hbw:=hr.lt
 have hne:w.heap.size≠b:=by omega
 obtain⟨wa,hwa⟩: ∃wa,wa=w.alloc (.cells zeroMark 38):=⟨_,rfl⟩
 have HRa:=Lib.hid (show Row wa b (machV m)from hwa▸hr.kept (heap_alloc_old _ _ hbw))
 have HZa:=Lib.hid (show wa.heap[w.heap.size]?=some (.cells zeroMark 38 (0,0))from by rw[hwa];exact heap_alloc_new _ _)
 have HKa:=Lib.hid (show Keeps (Only b) w wa from hwa▸(Keeps.refl (Only b) w).alloc _)
 have hzRa:w.heap.size<wa.heap.size:=by rw[hwa];simp
 have HWA:Hid (wa=w.alloc (.cells #[.int .i64 0,.string ⟨#[]⟩,.slice none 0 0,.bool false,.string ⟨#[]⟩] 38)):=hwa
 have HRN:=Lib.hid (readF_name _ m (Nat.le_refl _))
 obtain⟨q,hq⟩: ∃q,q=readF m:=⟨_,rfl⟩
 have HRD:=Lib.hid (read_lite m b wa HRa.out hl hL)
 rw[←hq]at HRN HRD ⊢
 clear hwa hr hq
 go_enter Tryz.func19,Tryz.ntmps19
 go_wp2_with fail
 rw[←HWA.out]
 clear HWA
 refine HRD.out.mono ?_
 rintro r W1 ⟨hra,r1,k1⟩
 clear HRD
 obtain⟨ox,m1⟩:=q
 obtain⟨-, -, -, -, -, -, -, -, -,hc9⟩:=mach_row r1
 dsimp only at hc9 r1
 have HZ1:=Lib.hid (only_zero HZa.out k1 hzRa hne)
 have HK1:=Lib.hid (HKa.out.trans k1)
 have HR1:=Lib.hid r1
 have hbW:=r1.lt
 have hz1:w.heap.size<W1.heap.size:=Nat.lt_of_lt_of_le hzRa k1.size
 obtain⟨⟨q0,q1,q2,q3,q4⟩,f0,f1,f2,f3,f4⟩:=res_cells HZ1.out
 clear k1 r1
 cases ox with
 |none =>
  have hra':r= .returned (.tuple #[.agg #[.int .i64 0,.string ⟨#[]⟩,.slice none 0 0,.bool false,.string ⟨#[]⟩],.bool false]):=hra
  subst hra'
  clear hra
  by_cases he:m1.err=0
  ·have heb:(m1.err !=0)=false:=by rw[he];rfl
   have HE:=Lib.hid he
   clear he
   dsimp only
   go_wp2_with fail
   have hzp:w.heap.size<(put5 W1 w.heap.size (.int .i64 6) (.string ⟨#[]⟩) (.slice none 0 0) (.bool false) (.string ⟨#[]⟩)).heap.size:=by simpa[put5] using hz1
   have hbp:b<(put5 W1 w.heap.size (.int .i64 6) (.string ⟨#[]⟩) (.slice none 0 0) (.bool false) (.string ⟨#[]⟩)).heap.size:=by simpa[put5] using hbW
   refine bodyPost_ret (results_attr rfl _ _ w.heap.size _ _ _ _ rfl ((heap_alloc_old _ _ hzp).trans (put5_at HZ1.out _ _ _ _ _)) Tryz.underlying38 rfl mark_info) rfl ?_
   refine⟨next_none rfl ?_,(put5_row HR1.out (fun e=>hne e.symm) _ _ _ _ _).kept (heap_alloc_old _ _ hbp),(put5_keeps HK1.out (Nat.le_refl _) _ _ _ _ _).alloc _⟩
   rw[HE.out,if_neg (fun h=>h rfl)]
   rfl
  ·have heb:(m1.err !=0)=true:=bne_iff_ne.2 he
   have HE:=Lib.hid he
   clear he
   have hc9':(W1.alloc (.cells #[.int .i64 0,.string ⟨#[]⟩,.slice none 0 0,.bool false,.string ⟨#[]⟩] 38)).cell? ⟨b,9,none⟩=some (.int .i64 m1.err):=cell_later ((Below.refl _ _).alloc (Nat.le_refl _) _) hc9
   dsimp only
   go_wp2_with fail
   go_region
   all_goals go_wp2_with fail
   all_goals
    have hzp:w.heap.size<(put5 W1 w.heap.size (.int .i64 0) (.string ⟨#[]⟩) (.slice none 0 0) (.bool false) (.string ⟨#[]⟩)).heap.size:=by simpa[put5] using hz1
    have hbp:b<(put5 W1 w.heap.size (.int .i64 0) (.string ⟨#[]⟩) (.slice none 0 0) (.bool false) (.string ⟨#[]⟩)).heap.size:=by simpa[put5] using hbW
   all_goals refine bodyPost_ret (results_attr rfl _ _ w.heap.size _ _ _ _ rfl (at_drew ((heap_alloc_old _ _ hzp).trans (put5_at HZ1.out _ _ _ _ _))) Tryz.underlying38 rfl mark_info) rfl ?_
   all_goals refine⟨next_none rfl ?_,row_drew ((put5_row HR1.out (fun e=>hne e.symm) _ _ _ _ _).kept (heap_alloc_old _ _ hbp)),draw_keeps ((put5_keeps HK1.out (Nat.le_refl _) _ _ _ _ _).alloc _) 1⟩
   all_goals rw[if_pos HE.out]
   all_goals rfl
 |some x =>
  obtain⟨sl,rfl,hown⟩: ∃sl,r= .returned (.tuple #[markV sl x,.bool true])∧W1.ownsRow wa.heap.size 57 2 sl x.attrs.length (pairsV (attP x.attrs)):=hra
  have he:=(HRN.out x m1 rfl).1
  rw[he]at hc9
  obtain⟨a,c,hsl, -⟩:=own_at hown
  subst hsl
  have HOW:=Lib.hid hown
  clear hown he
  dsimp only[markV]
  go_wp2_with fail
  have hzp:w.heap.size<(put5 W1 w.heap.size (.int .i64 x.kind) (.string (strB x.name)) (.slice a x.attrs.length c) (.bool x.self) (.string (strB x.text))).heap.size:=by simpa[put5] using hz1
  have hbp:b<(put5 W1 w.heap.size (.int .i64 x.kind) (.string (strB x.name)) (.slice a x.attrs.length c) (.bool x.self) (.string (strB x.text))).heap.size:=by simpa[put5] using hbW
  refine bodyPost_ret (results_attr rfl _ _ w.heap.size _ _ _ _ rfl ((heap_alloc_old _ _ hzp).trans (put5_at HZ1.out _ _ _ _ _)) Tryz.underlying38 rfl mark_info) rfl ?_
  exact⟨next_some rfl ⟨.slice a x.attrs.length c,rfl,own_base ((own_put5 HOW.out hzRa _ _ _ _ _).alloc _) (Nat.le_of_lt hzRa)⟩,(put5_row HR1.out (fun e=>hne e.symm) _ _ _ _ _).kept (heap_alloc_old _ _ hbp),(put5_keeps HK1.out (Nat.le_refl _) _ _ _ _ _).alloc _⟩
def shutB (s:Str) (i:Nat):Bool:=match untilF signT (s.drop i)with
 |some (_,c::_)=>c==62
 |_=>false
theorem shutB_at {s:Str} {i:Nat} (h:shutB s i=true): ∃q,ShutAt s i q:=by
 unfold shutB at h
 rcases until_cases signT (s.drop i)with⟨hu,_⟩|⟨n,hn,hu,_⟩
 ·rw[hu]at h;cases h
 ·rw[hu]at h
  refine⟨n,?_,?_⟩
  ·rw[hu,List.drop_drop]
  ·have hl:i+n<s.length:=by rw[List.length_drop]at hn;omega
   rw[List.drop_drop,List.drop_eq_getElem_cons hl]at h
   rw[List.getElem?_eq_getElem hl,beq_iff_eq.1 h]
def liteB (m:MkM):Bool:=(m.pass==0&&m.err==0&&decide (m.name.length≤4294967280)) &&
 (decide ((textF m m.buf).1≠ [])||(textF m m.buf).2.2==1||((textF m m.buf).2.2==2&&shutB ((textF m m.buf).2.1.take 2049) 1)||((textF m m.buf).2.2==3&&shutB ((textF m m.buf).2.1.take 2049) 2))
theorem liteB_of {m:MkM} (h:liteB m=true):LiteM m:=by
 unfold liteB at h
 simp only[Bool.and_eq_true,Bool.or_eq_true,beq_iff_eq,decide_eq_true_eq]at h
 obtain⟨⟨⟨h1,h2⟩,h3⟩,h6⟩:=h
 refine⟨h1,h2,h3,fun ht=> ?_⟩
 rcases h6 with((h6|h6)|h6)|h6
 ·exact absurd ht h6
 ·exact .inl h6
 ·exact .inr (.inl ⟨h6.1,shutB_at h6.2⟩)
 ·exact .inr (.inr ⟨h6.1,shutB_at h6.2⟩)
end
end Go.Proofs.YtgepobccoffnaaaGreatDoor.Rd
