/- Texts joined for a claim: StkI, BytesP, Bytes, ForA, ForB: plain laws and contracts. No conditions beyond those that each lemma types. -/
import Derived.Test.YtpnagbgpbajfeaaGreatDoorQ12
import Derived.Test.YtpnagbgpbajfeaaGreatDoorQ01
import Derived.Test.YtpnagbgpbajfeaaGreatDoorRows
import Derived.Deep.QuietTactic
import Derived.BigQuiet
import Derived.Deep.RegionWith
set_option linter.unusedVariables false
set_option linter.unusedSimpArgs false
set_option maxRecDepth 100000
set_option maxHeartbeats 8000000
namespace Go.Proofs.YtpnagbgpbajfeaaGreatDoor
open Go.RowKit Mem
section
def stClear (T:TreeD) (names:List ByteArray):List Int→List Int
 | []=> []
 |x::r=>if namedF T x names then x::r else stClear T names r
theorem stClear_step (T:TreeD) (names:List ByteArray) (l:List Int) (k:Nat) (h:k<l.length):stClear T names (l.take (k+1)).reverse=if namedF T l[k] names then(l.take (k+1)).reverse else stClear T names (l.take k).reverse:=by
 rw[List.take_succ_eq_append_getElem h,List.reverse_append]
 rfl
section
variable {w0 w w':World} {B tb rb sb:Nat} {ex:Nat→Prop} {T:TreeD} {l:List Int}
theorem Clear_si (h:SI w0 B tb sb ex T l w) (names:List ByteArray) (a:Option Addr) (c:Nat) (ha:AtF (Own w0 ex) w a (strsV names)) (hn:names.length≤1048576) :
 Calls Tryz.prog 114 #[.pointer (some ⟨sb,0,none⟩),.slice a names.length c] w fun e w'=>e= .returned (.tuple #[])∧SI w0 B tb sb ex T (stClear T names l.reverse).reverse w'∧Keeps (Own w0 ex) w w':=by
 have HS:=Lib.hid h
 have HA:=Lib.hid ha
 have hsh:=h.short
 clear h ha
 go_enter Tryz.func114,Tryz.ntmps114
 go_wp2_with fail
 go_loopg [] l.length (fun k wr=>Hid (k≤l.length∧SI w0 B tb sb ex T (l.take k) wr∧Keeps (Own w0 ex) w wr∧stClear T names l.reverse=stClear T names (l.take k).reverse))
 case atStart=>exact Lib.hid ⟨Nat.le_refl _,by rw[List.take_of_length_le (Nat.le_refl _)];exact HS.out,Keeps.refl _ _,by rw[List.take_of_length_le (Nat.le_refl _)]⟩
 case round =>
  have hk:=hrel.out.1
  obtain⟨sa,sc,c0,c1,_⟩:=hrel.out.2.1.cells
  rw[List.length_take,Nat.min_eq_left hk]at c1
  have HR:=hrel
  clear hrel
  cases gk with
  |zero =>
   go_wp2_with fail
   go_end0
   refine⟨rfl,?_,HR.out.2.2.1⟩
   rw[HR.out.2.2.2]
   exact HR.out.2.1
  |succ k =>
   have hlt:k<l.length:=by omega
   have HT:=Lib.hid (take_last hlt)
   have HU:=Lib.hid (stClear_step T names l k hlt)
   have HTp:=Lib.hid (Top_si HR.out.2.1)
   rw[HT.out.1]at HTp
   obtain⟨x,hx⟩: ∃x,x=l[k]:=⟨_,rfl⟩
   have HX:=Lib.hid hx
   rw[←hx]at HTp HU
   clear hx
   cases hnm:namedF T x names
   all_goals
    rw[hnm]at HU
    go_wp2_with (first
     |(go_at_call 45;go_must (refine HTp.out.mono ?_;rintro e w1 ⟨rfl,q,rfl⟩;have H1:=Lib.hid (HR.out.2.1.world (stk_drewN wr q));have K1:=Lib.hid (HR.out.2.2.1.trans (Keeps.ofBelow (stk_drewN wr q)));have HN:=Lib.hid (named_si H1.out x names a c (HA.out.kept K1.out).at hn);rw[hnm]at HN))
     |(go_at_call 171;go_must (refine HN.out.mono ?_;rintro e w2 ⟨rfl,hb2⟩;have H2:=Lib.hid (H1.out.world hb2);have K2:=Lib.hid (K1.out.trans (Keeps.ofBelow hb2));have HP:=Lib.hid (Pop_si H2.out);rw[HT.out.1,HT.out.2]at HP;clear hb2))
     |(go_at_call 59;go_must (refine HP.out.mono ?_;rintro e w3 ⟨rfl,h3,k3⟩;have H3:=Lib.hid h3;have K3:=Lib.hid (K2.out.trans k3);clear h3 k3)))
    first
     |(go_roundg k
       case measure=>omega
       case rel=>exact Lib.hid ⟨by omega,H3.out,K3.out,by rw[HR.out.2.2.2,HU.out];rfl⟩)
     |(go_end0
       refine⟨rfl,?_,K2.out⟩
       rw[HR.out.2.2.2,HU.out,if_pos trivial,List.reverse_reverse]
       exact H2.out)
     |(refine bodyPost_ret (results_none rfl _ _ _) rfl ?_
       refine⟨rfl,?_,K2.out⟩
       rw[HR.out.2.2.2,HU.out,if_pos trivial,List.reverse_reverse]
       exact H2.out)
end
def impN:List ByteArray:= [⟨#[100,100]⟩,⟨#[100,116]⟩,⟨#[108,105]⟩,⟨#[111,112,116,103,114,111,117,112]⟩,⟨#[111,112,116,105,111,110]⟩,⟨#[112]⟩,⟨#[114,98]⟩,⟨#[114,112]⟩,⟨#[114,116]⟩,⟨#[114,116,99]⟩]
def stImply (T:TreeD) (but:ByteArray):List Int→List Int
 | []=> []
 |x::r=>if namedF T x impN&& !namedF T x [but]then stImply T but r else x::r
theorem stImply_step (T:TreeD) (but:ByteArray) (l:List Int) (k:Nat) (h:k<l.length):stImply T but (l.take (k+1)).reverse=if namedF T l[k] impN&& !namedF T l[k] [but]then stImply T but (l.take k).reverse else(l.take (k+1)).reverse:=by
 rw[List.take_succ_eq_append_getElem h,List.reverse_append]
 rfl
section
variable {w0 w w':World} {B tb rb sb:Nat} {ex:Nat→Prop} {T:TreeD} {l:List Int}
theorem Imply_si (h:SI w0 B tb sb ex T l w) (but:ByteArray) :
 Calls Tryz.prog 120 #[.pointer (some ⟨sb,0,none⟩),.string but] w fun e w'=>e= .returned (.tuple #[])∧SI w0 B tb sb ex T (stImply T but l.reverse).reverse w'∧Keeps (Own w0 ex) w w':=by
 have hA:At (w.alloc (.cells #[.string ⟨#[100,100]⟩,.string ⟨#[100,116]⟩,.string ⟨#[108,105]⟩,.string ⟨#[111,112,116,103,114,111,117,112]⟩,.string ⟨#[111,112,116,105,111,110]⟩,.string ⟨#[112]⟩,.string ⟨#[114,98]⟩,.string ⟨#[114,112]⟩,.string ⟨#[114,116]⟩,.string ⟨#[114,116,99]⟩] 9)) (some ⟨w.heap.size,0,none⟩) (strsV impN):=at_alloc rfl rfl
 have HS:=Lib.hid (h.lay (.cells #[.string ⟨#[100,100]⟩,.string ⟨#[100,116]⟩,.string ⟨#[108,105]⟩,.string ⟨#[111,112,116,103,114,111,117,112]⟩,.string ⟨#[111,112,116,105,111,110]⟩,.string ⟨#[112]⟩,.string ⟨#[114,98]⟩,.string ⟨#[114,112]⟩,.string ⟨#[114,116]⟩,.string ⟨#[114,116,99]⟩] 9))
 have HK0:Hid (Keeps (Own w0 ex) w (w.alloc (.cells #[.string ⟨#[100,100]⟩,.string ⟨#[100,116]⟩,.string ⟨#[108,105]⟩,.string ⟨#[111,112,116,103,114,111,117,112]⟩,.string ⟨#[111,112,116,105,111,110]⟩,.string ⟨#[112]⟩,.string ⟨#[114,98]⟩,.string ⟨#[114,112]⟩,.string ⟨#[114,116]⟩,.string ⟨#[114,116,99]⟩] 9))):=Lib.hid ((Keeps.refl _ _).alloc _)
 have HA:Hid (AtF (Own w0 fun k=>ex k∨k=w.heap.size) (w.alloc (.cells #[.string ⟨#[100,100]⟩,.string ⟨#[100,116]⟩,.string ⟨#[108,105]⟩,.string ⟨#[111,112,116,103,114,111,117,112]⟩,.string ⟨#[111,112,116,105,111,110]⟩,.string ⟨#[112]⟩,.string ⟨#[114,98]⟩,.string ⟨#[114,112]⟩,.string ⟨#[114,116]⟩,.string ⟨#[114,116,99]⟩] 9)) (some ⟨w.heap.size,0,none⟩) (strsV impN)):=Lib.hid (AtF.of_new hA (fun b o s he=>by cases he;exact fun hx=>hx.2 (.inr rfl)))
 have hsh:=h.short
 clear h hA
 go_enter Tryz.func120,Tryz.ntmps120
 go_wp2_with fail
 generalize w.alloc (.cells #[.string ⟨#[100,100]⟩,.string ⟨#[100,116]⟩,.string ⟨#[108,105]⟩,.string ⟨#[111,112,116,103,114,111,117,112]⟩,.string ⟨#[111,112,116,105,111,110]⟩,.string ⟨#[112]⟩,.string ⟨#[114,98]⟩,.string ⟨#[114,112]⟩,.string ⟨#[114,116]⟩,.string ⟨#[114,116,99]⟩] 9)=wa at *
 have HKa:=Lib.hid (Keeps.refl (Own w0 fun k=>ex k∨k=w.heap.size) wa)
 go_loopg [] l.length (fun k wr=>Hid (k≤l.length∧SI w0 B tb sb (fun k=>ex k∨k=w.heap.size) T (l.take k) wr∧Keeps (Own w0 fun k=>ex k∨k=w.heap.size) wa wr∧stImply T but l.reverse=stImply T but (l.take k).reverse))
 case atStart=>exact Lib.hid ⟨Nat.le_refl _,by rw[List.take_of_length_le (Nat.le_refl _)];exact HS.out,HKa.out,by rw[List.take_of_length_le (Nat.le_refl _)]⟩
 case round =>
  have hk:=hrel.out.1
  obtain⟨sa,sc,c0,c1,_⟩:=hrel.out.2.1.cells
  rw[List.length_take,Nat.min_eq_left hk]at c1
  have HR:=hrel
  clear hrel
  cases gk with
  |zero =>
   go_wp2_with fail
   go_end0
   refine⟨rfl,?_,HK0.out.trans (HR.out.2.2.1.mono fun _ _ hx=>⟨hx.1,fun hl=>hx.2 (.inl hl)⟩)⟩
   rw[HR.out.2.2.2]
   exact HR.out.2.1.less fun _ hx=> .inl hx
  |succ k =>
   have hlt:k<l.length:=by omega
   have HT:=Lib.hid (take_last hlt)
   have HU:=Lib.hid (stImply_step T but l k hlt)
   have HTp:=Lib.hid (Top_si HR.out.2.1)
   rw[HT.out.1]at HTp
   obtain⟨x,hx⟩: ∃x,x=l[k]:=⟨_,rfl⟩
   rw[←hx]at HTp HU
   have HX:=Lib.hid hx
   clear hx
   cases hnm:namedF T x impN
   ·rw[hnm]at HU
    go_wp2_with (first
     |(go_at_call 45;go_must (refine HTp.out.mono ?_;rintro e w1 ⟨rfl,q,rfl⟩;have H1:=Lib.hid (HR.out.2.1.world (stk_drewN wr q));have K1:=Lib.hid (HR.out.2.2.1.trans (Keeps.ofBelow (stk_drewN wr q)));have HN:=Lib.hid (named_si H1.out x impN (some ⟨w.heap.size,0,none⟩) 10 (HA.out.kept K1.out).at (by decide));rw[hnm]at HN))
     |(go_at_call 171;go_must (refine HN.out.mono ?_;rintro e w2 ⟨rfl,hb2⟩;have H2:=Lib.hid (H1.out.world hb2);have K2:=Lib.hid (K1.out.trans (Keeps.ofBelow hb2));clear hb2)))
    go_end0
    refine⟨rfl,?_,HK0.out.trans (K2.out.mono fun _ _ hx=>⟨hx.1,fun hl=>hx.2 (.inl hl)⟩)⟩
    rw[HR.out.2.2.2,HU.out,Bool.false_and,if_neg (by simp),List.reverse_reverse]
    exact H2.out.less fun _ hx=> .inl hx
   ·rw[hnm]at HU
    cases hnb:namedF T x [but]
    all_goals
     rw[hnb]at HU
     go_wp2_with fail
     refine HTp.out.mono ?_
     rintro e w1 ⟨rfl,q,rfl⟩
     have H1:=Lib.hid (HR.out.2.1.world (stk_drewN wr q))
     have K1:=Lib.hid (HR.out.2.2.1.trans (Keeps.ofBelow (stk_drewN wr q)))
     have HN:=Lib.hid (named_si H1.out x impN (some ⟨w.heap.size,0,none⟩) 10 (HA.out.kept K1.out).at (by decide))
     rw[hnm]at HN
     go_wp2_with fail
     refine HN.out.mono ?_
     rintro e w2 ⟨rfl,hb2⟩
     have H2:=Lib.hid (H1.out.world hb2)
     have K2:=Lib.hid (K1.out.trans (Keeps.ofBelow hb2))
     have HTq:=Lib.hid (Top_si H2.out)
     rw[HT.out.1,←HX.out]at HTq
     clear hb2 HN H1 K1
     go_wp2_with fail
     refine HTq.out.mono ?_
     rintro e w3 ⟨rfl,q2,rfl⟩
     have hb3:=(stk_drewN w2 q2).trans (((Below.refl (w2.drewN q2).heap.size (w2.drewN q2)).alloc (Nat.le_refl _) (.cells #[.string but] 9)).mono (stk_drewN w2 q2).size)
     have H3:=Lib.hid (H2.out.world hb3)
     have K3:=Lib.hid (K2.out.trans (Keeps.ofBelow hb3))
     have HNb:=Lib.hid (named_si H3.out x [but] (some ⟨(w2.drewN q2).heap.size,0,none⟩) 1 (at_alloc rfl rfl) (by simp))
     rw[hnb]at HNb
     clear hb3 HTq H2 K2
     generalize w2.drewN q2=w3 at *
     go_wp2_with fail
     refine HNb.out.mono ?_
     rintro e w4 ⟨rfl,hb4⟩
     have H4:=Lib.hid (H3.out.world hb4)
     have K4:=Lib.hid (K3.out.trans (Keeps.ofBelow hb4))
     have HP:=Lib.hid (Pop_si H4.out)
     rw[HT.out.1,HT.out.2]at HP
     clear hb4 H3 K3 HNb
     go_wp2_with (go_at_call 59;go_must (refine HP.out.mono ?_;rintro e w5 ⟨rfl,h5,k5⟩;have H5:=Lib.hid h5;have K5:=Lib.hid (K4.out.trans k5);clear h5 k5))
    ·go_roundg k
     case measure=>omega
     case rel=>exact Lib.hid ⟨by omega,H5.out,K5.out,by rw[HR.out.2.2.2,HU.out];rfl⟩
    ·go_end0
     refine⟨rfl,?_,HK0.out.trans (K4.out.mono fun _ _ hx=>⟨hx.1,fun hl=>hx.2 (.inl hl)⟩)⟩
     rw[HR.out.2.2.2,HU.out,if_neg (by simp),List.reverse_reverse]
     exact H4.out.less fun _ hx=> .inl hx
end
end
def lowB (b:UInt8):UInt8:=if 65≤b∧b≤90 then b+32 else b
def lowS (l:Str):Str:=l.map lowB
def mixS (k:Nat) (l:Str):Str:=(l.take k).map lowB++l.drop k
theorem lowB_nat (b:UInt8):((lowB b).toNat:Int)=if 65≤(b.toNat:Int)∧(b.toNat:Int)≤90 then(b.toNat:Int)+32 else b.toNat:=by
 have h1:(65≤b)↔65≤(b.toNat:Int):=by rw[UInt8.le_iff_toNat_le];simp;omega
 have h2:(b≤90)↔(b.toNat:Int)≤90:=by rw[UInt8.le_iff_toNat_le];simp;omega
 unfold lowB
 by_cases h:65≤(b.toNat:Int)∧(b.toNat:Int)≤90
 ·rw[if_pos h,if_pos ⟨h1.2 h.1,h2.2 h.2⟩,UInt8.toNat_add]
  simp
  omega
 ·rw[if_neg h,if_neg (fun hh=>h ⟨h1.1 hh.1,h2.1 hh.2⟩)]
theorem mixS_length (k:Nat) (l:Str):(mixS k l).length=l.length:=by simp[mixS];omega
theorem mixS_zero (l:Str):mixS 0 l=l:=by simp[mixS]
theorem mixS_all (l:Str):mixS l.length l=lowS l:=by simp[mixS,lowS]
theorem mixS_get (k:Nat) (l:Str) (h:k<l.length):(mixS k l)[k]?=some l[k]:=by
 simp only[mixS]
 rw[List.getElem?_append_right (by simp;omega)]
 simp[Nat.min_eq_left (Nat.le_of_lt h),h]
theorem mixS_succ (k:Nat) (l:Str) (h:k<l.length):(mixS k l).set k (lowB l[k])=mixS (k+1) l:=by
 simp only[mixS]
 rw[List.set_append_right _ _ (by simp;omega),List.drop_eq_getElem_cons h]
 simp only[List.length_map,List.length_take,Nat.min_eq_left (Nat.le_of_lt h),Nat.sub_self,List.set_cons_zero]
 rw[List.take_succ_eq_append_getElem h,List.map_append]
 simp
theorem bytesV_mix_succ (k:Nat) (l:Str) (h:k<l.length) (v:Value) (hv:v= .int .u8 (lowB l[k]).toNat):(bytesV (mixS k l)).set k v=bytesV (mixS (k+1) l):=by
 subst hv
 unfold bytesV
 rw[←mixS_succ k l h,List.map_set]
theorem bytesV_mix_same (k:Nat) (l:Str) (h:k<l.length) (hv:((lowB l[k]).toNat:Int)=l[k].toNat):bytesV (mixS k l)=bytesV (mixS (k+1) l):=by
 rw[←bytesV_mix_succ k l h (.int .u8 l[k].toNat) (by rw[hv])]
 have hg:(bytesV (mixS k l))[k]?=some (.int .u8 l[k].toNat):=by simp[bytesV,mixS_get k l h]
 obtain⟨hk,he⟩:=List.getElem?_eq_some_iff.1 hg
 rw[←he,List.set_getElem_self]
theorem bytesV_mix_get (k:Nat) (l:Str) (h:k<l.length):(bytesV (mixS k l))[k]?=some (.int .u8 l[k].toNat):=by
 simp[bytesV,mixS_get k l h]
theorem small_any (s:ByteArray) (w:World) (hs:s.size≤maxLen) :
 Calls Tryz.prog 95 #[.string s] w fun e w'=>e= .returned (.string ⟨(lowS s.toList).toArray⟩)∧Below w.heap.size w w':=by
 obtain⟨c,W,hconv,hb,hsz,hrow,hcc⟩:=run_bytes_of (P:=Tryz.prog) w 9 74 5 s Tryz.underlying9 Tryz.underlying74 Tryz.underlying5
 have hsl:=size_toList s
 unfold maxLen at hs
 have HB:=Lib.hid hb
 have HR:=Lib.hid hrow
 have HZ:=Lib.hid hsz
 have HL:=Lib.hid hsl
 clear hb hrow hsz hsl
 go_enter Tryz.func95,Tryz.ntmps95
 go_wp2
 go_loopw [10] (fun i wr=> ∃k:Nat,k≤s.size∧i= .int .i64 k∧Below w.heap.size w wr∧w.heap.size<wr.heap.size∧Row wr w.heap.size (bytesV (mixS k s.toList))) (fun i _=>s.size-(intOf i).toNat)
 case atStart=>exact⟨0,Nat.zero_le _,rfl,HB.out,by rw[HZ.out];omega,by rw[mixS_zero];exact HR.out⟩
 case round =>
  obtain⟨k,hk,rfl,hb,hz,hr⟩:=hrel
  clear hconv HB HR HZ
  by_cases hlt:k<s.size
  ·have hkl:k<s.toList.length:=by rw[HL.out];exact hlt
   obtain⟨x,hx⟩: ∃x:Nat,x=s.toList[k].toNat:=⟨_,rfl⟩
   have hx255:x≤255:=by have:=s.toList[k].toNat_lt;omega
   have hcell:wr.cell? ⟨w.heap.size,k,none⟩=some (.int .u8 x):=by rw[hx];exact hr.cell (bytesV_mix_get k _ hkl)
   have hfz:wr.frozen? ⟨w.heap.size,k,none⟩=false:=hr.frozen (by rw[bytesV_length,mixS_length];exact hkl)
   have hl:=lowB_nat s.toList[k]
   rw[←hx]at hl
   have HX:=Lib.hid hl
   have HX2:=Lib.hid hx
   have HB:=Lib.hid hb
   have HR:=Lib.hid hr
   clear hl hx hb hr
   go_wp2
   ·go_roundw
    case rel =>
     exact⟨k+1,by omega,by go_num,HB.out.setCell (Nat.le_refl _) _,by rw[World.size_setCell];exact hz,by
      rw[←bytesV_mix_succ k _ hkl (.int .u8 (x+32)) (by rw[HX.out,if_pos ⟨by assumption,by assumption⟩])]
      exact HR.out.set k _⟩
    case measure=>simp[intOf];omega
   ·go_roundw
    case rel=>exact⟨k+1,by omega,by go_num,HB.out,hz,by rw[←bytesV_mix_same k _ hkl (by rw[HX.out,if_neg (by omega),HX2.out])];exact HR.out⟩
    case measure=>simp[intOf];omega
   ·go_roundw
    case rel=>exact⟨k+1,by omega,by go_num,HB.out,hz,by rw[←bytesV_mix_same k _ hkl (by rw[HX.out,if_neg (by omega),HX2.out])];exact HR.out⟩
    case measure=>simp[intOf];omega
  ·obtain rfl:k=s.size:=by omega
   have hback:=run_string_of (P:=Tryz.prog) wr 74 9 5 w.heap.size c (mixS s.size s.toList) s.size (by rw[mixS_length,HL.out]) Tryz.underlying74 Tryz.underlying5 Tryz.underlying9 hr
   have HB:=Lib.hid hb
   clear hb hr
   go_wp2
   go_ret
   refine⟨ret_string ?_,HB.out⟩
   rw[←HL.out,mixS_all]
def valueOf (l:List Pair) (name:ByteArray):ByteArray :=
 match l with
 | []=>⟨#[]⟩
 |p::r=>if p.1=name then p.2 else valueOf r name
theorem valueOf_step (l:List Pair) (name:ByteArray) (k:Nat) (h:k<l.length) (hne:l[k].1≠name):valueOf (l.drop k) name=valueOf (l.drop (k+1)) name:=by
 rw[List.drop_eq_getElem_cons h,valueOf,if_neg hne]
theorem valueOf_hit (l:List Pair) (name:ByteArray) (k:Nat) (h:k<l.length) (he:l[k].1=name):valueOf (l.drop k) name=l[k].2:=by
 rw[List.drop_eq_getElem_cons h,valueOf,if_pos he]
theorem value_any (l:List Pair) (name:ByteArray) (a:Option Addr) (c:Nat) (w:World) (hl:l.length≤maxLen) (ha:At w a (pairsV l)) :
 Calls Tryz.prog 96 #[.slice a l.length c,.string name] w fun e w'=>e= .returned (.string (valueOf l name))∧Below w.heap.size w w':=by
 unfold maxLen at hl
 have HA:=Lib.hid ha
 clear ha
 go_enter Tryz.func96,Tryz.ntmps96
 go_wp2
 go_loopw [9] (fun i wr=> ∃k:Nat,k≤l.length∧i= .int .i64 k∧Below w.heap.size w wr∧valueOf l name=valueOf (l.drop k) name) (fun i _=>l.length-(intOf i).toNat)
 case atStart=>exact⟨0,Nat.zero_le _,rfl,Below.refl _ _,rfl⟩
 case round =>
  obtain⟨k,hk,rfl,hb,hv⟩:=hrel
  have HV:=Lib.hid hv
  have HB:=Lib.hid hb
  by_cases hlt:k<l.length
  ·obtain⟨b,o,rfl,hlb,h1,h2⟩:=pair_cells (HA.out.below hb) hlt
   clear hv hb
   go_wp2
   ·go_ret
    refine⟨ret_string ?_,HB.out.alloc HB.out.size _⟩
    rw[HV.out,valueOf_hit l name k hlt (beqT ‹_›)]
   ·go_roundw
    case rel =>
     exact⟨k+1,by omega,by go_num,HB.out.alloc HB.out.size _,by
      rw[HV.out,valueOf_step l name k hlt (beqF ‹_›)]⟩
    case measure=>simp[intOf];omega
  ·clear hb hv
   go_wp2
   go_ret
   refine⟨ret_string ?_,HB.out⟩
   rw[HV.out,List.drop_of_length_le (by omega)]
   rfl
def isIn (l:List ByteArray) (word:ByteArray):Bool :=
 match l with
 | []=>false
 |x::r=>if x=word then true else isIn r word
def large (l:List ByteArray) (name:ByteArray):ByteArray :=
 match l with
 | []=>name
 |x::r=>if lowS x.toList=name.toList then x else large r name
theorem large_step (l:List ByteArray) (name:ByteArray) (k:Nat) (h:k<l.length) (hne:lowS l[k].toList≠name.toList):large (l.drop k) name=large (l.drop (k+1)) name:=by
 rw[List.drop_eq_getElem_cons h,large,if_neg hne]
theorem large_hit (l:List ByteArray) (name:ByteArray) (k:Nat) (h:k<l.length) (he:lowS l[k].toList=name.toList):large (l.drop k) name=l[k]:=by
 rw[List.drop_eq_getElem_cons h,large,if_pos he]
theorem written_any (name:ByteArray) (l:List ByteArray) (a:Option Addr) (c:Nat) (w:World) (hl:l.length≤maxLen) (hs: ∀i (h:i<l.length),l[i].size≤maxLen) (ha:At w a (strsV l)) :
 Calls Tryz.prog 151 #[.string name,.slice a l.length c] w fun e w'=>e= .returned (.string (large l name))∧Below w.heap.size w w':=by
 unfold maxLen at hl
 have HA:=Lib.hid ha
 have HS:=Lib.hid hs
 clear ha hs
 go_enter Tryz.func151,Tryz.ntmps151
 go_wp2
 go_loopw [9] (fun i wr=> ∃k:Nat,k≤l.length∧i= .int .i64 k∧Below w.heap.size w wr∧large l name=large (l.drop k) name) (fun i _=>l.length-(intOf i).toNat)
 case atStart=>exact⟨0,Nat.zero_le _,rfl,Below.refl _ _,rfl⟩
 case round =>
  obtain⟨k,hk,rfl,hb,hv⟩:=hrel
  have HV:=Lib.hid hv
  have HB:=Lib.hid hb
  by_cases hlt:k<l.length
  ·obtain⟨b,o,rfl,hlb,h1⟩:=str_cell (HA.out.below hb) hlt
   clear hv hb
   have hsz:=HS.out k hlt
   go_wp2_with (go_at_call 95;refine(small_any _ _ hsz).mono ?_;rintro e w1 ⟨rfl,hb1⟩;have HB1:=Lib.hid hb1;clear hb1 h1)
   ·go_ret
    refine⟨ret_string ?_,belowCall HB.out HB1.out⟩
    rw[HV.out,large_hit l name k hlt (beqL ‹_›)]
   ·go_roundw
    case rel =>
     exact⟨k+1,by omega,by go_num,belowCall HB.out HB1.out,by
      rw[HV.out,large_step l name k hlt (beqLF ‹_›)]⟩
    case measure=>simp[intOf];omega
  ·clear hb hv
   go_wp2
   go_ret
   refine⟨ret_string ?_,HB.out⟩
   rw[HV.out,List.drop_of_length_le (by omega)]
   rfl
def svgNames:List ByteArray:= [⟨#[97,108,116,71,108,121,112,104]⟩,⟨#[97,110,105,109,97,116,101,77,111,116,105,111,110]⟩,⟨#[97,110,105,109,97,116,101,84,114,97,110,115,102,111,114,109]⟩,⟨#[99,108,105,112,80,97,116,104]⟩,⟨#[102,101,71,97,117,115,115,105,97,110,66,108,117,114]⟩,⟨#[102,111,114,101,105,103,110,79,98,106,101,99,116]⟩,⟨#[103,108,121,112,104,82,101,102]⟩,⟨#[108,105,110,101,97,114,71,114,97,100,105,101,110,116]⟩,⟨#[114,97,100,105,97,108,71,114,97,100,105,101,110,116]⟩,⟨#[116,101,120,116,80,97,116,104]⟩]
def pageNames:List ByteArray:= [⟨#[102,111,114,101,105,103,110,79,98,106,101,99,116]⟩,⟨#[100,101,115,99]⟩,⟨#[116,105,116,108,101]⟩]
def textNames:List ByteArray:= [⟨#[109,105]⟩,⟨#[109,111]⟩,⟨#[109,110]⟩,⟨#[109,115]⟩,⟨#[109,116,101,120,116]⟩]
def encNames:List ByteArray:= [⟨#[116,101,120,116,47,104,116,109,108]⟩,⟨#[97,112,112,108,105,99,97,116,105,111,110,47,120,104,116,109,108,43,120,109,108]⟩]
def nameF (space:Int) (name:ByteArray):ByteArray:=if space=1 then large svgNames name else name
theorem name_any (space:Int) (name:ByteArray) (w:World) :
 Calls Tryz.prog 98 #[.int .i64 space,.string name] w fun e w'=>e= .returned (.string (nameF space name))∧Below w.heap.size w w':=by
 by_cases h:space=1
 ·subst h
  go_enter Tryz.func98,Tryz.ntmps98
  go_wp2_with (go_at_call 151;refine(written_any name svgNames _ _ _ (by decide) (by decide) (Row.alloc _ _ _).at).mono ?_;rintro e w1 ⟨rfl,hb1⟩;have HB1:=Lib.hid hb1;clear hb1)
  go_ret
  exact⟨ret_string rfl,belowCall ((Below.refl _ _).alloc (Nat.le_refl _) _) HB1.out⟩
 ·have h':(space==1)=false:=by simpa using h
  go_enter Tryz.func98,Tryz.ntmps98
  go_wp2
  go_ret
  exact⟨ret_string (by rw[nameF,if_neg h]),Below.refl _ _⟩
def pointF (space:Int) (name:ByteArray) (attrs:List Pair):Int :=
 if space=1 then(if isIn pageNames name then 2 else 0)
 else if space=2 then(if isIn textNames name then 1 else if name=(⟨#[97,110,110,111,116,97,116,105,111,110,45,120,109,108]⟩:ByteArray)then(if isIn encNames ⟨(lowS (valueOf attrs (⟨#[101,110,99,111,100,105,110,103]⟩:ByteArray)).toList).toArray⟩then 2 else 0)else 0)
 else 0
theorem eq_mk_iff (l:Str) (b:ByteArray):(b=(⟨l.toArray⟩:ByteArray))↔(b.toList=l) :=
 ⟨fun h=>by subst h;simp,fun h=>toList_inj (by simpa using h)⟩
theorem isIn_mem {names:List ByteArray} {x:ByteArray} (h:isIn names x=true):x∈names:=by
 induction names with
 |nil=>simp[isIn]at h
 |cons y r ih =>
  rw[isIn]at h
  split at h
  ·rename_i e;subst e;exact List.mem_cons_self
  ·exact List.mem_cons_of_mem _ (ih h)
theorem isIn_no {names:List ByteArray} {L:Str} (h:isIn names ⟨L.toArray⟩=false) (l:Str) (hm:isIn names ⟨l.toArray⟩=true):(L==l)=false:=by
 rw[beq_eq_false_iff_ne]
 intro e
 subst e
 rw[hm]at h
 cases h
theorem isIn_mk (names:List ByteArray) (x:ByteArray):isIn names x=isIn names ⟨x.toList.toArray⟩:=by rw[mk_toList]
theorem point_any (space:Int) (name:ByteArray) (attrs:List Pair) (a:Option Addr) (c:Nat) (w:World) (hl:attrs.length≤maxLen) (hs:(valueOf attrs (⟨#[101,110,99,111,100,105,110,103]⟩:ByteArray)).size≤maxLen) (ha:At w a (pairsV attrs)) :
 Calls Tryz.prog 57 #[.int .i64 space,.string name,.slice a attrs.length c] w fun e w'=>e= .returned (.int .i64 (pointF space name attrs))∧Below w.heap.size w w':=by
 have HA:=Lib.hid ha
 clear ha
 by_cases h1:space=1
 ·subst h1
  clear hl hs
  by_cases hin:isIn pageNames name=true
  ·have HP:Hid (pointF 1 name attrs=2):=by show pointF 1 name attrs=2;simp[pointF,hin]
   have h:=isIn_mem hin
   clear hin
   simp only[pageNames,List.mem_cons,List.not_mem_nil,or_false,eq_mk_iff]at h
   rcases h with h|h|h
   all_goals
    go_enter Tryz.func57,Tryz.ntmps57
    go_wp2_with fail
    go_ret
    exact⟨ret_int HP.out.symm,Below.refl _ _⟩
  ·have hin':isIn pageNames name=false:=by simpa using hin
   have HP:Hid (pointF 1 name attrs=0):=by show pointF 1 name attrs=0;simp[pointF,hin']
   rw[isIn_mk]at hin'
   have no0:(name.toList== [102,111,114,101,105,103,110,79,98,106,101,99,116])=false:=isIn_no hin' [102,111,114,101,105,103,110,79,98,106,101,99,116] (by decide);have no1:(name.toList== [100,101,115,99])=false:=isIn_no hin' [100,101,115,99] (by decide);have no2:(name.toList== [116,105,116,108,101])=false:=isIn_no hin' [116,105,116,108,101] (by decide)
   clear hin hin'
   go_enter Tryz.func57,Tryz.ntmps57
   go_wp2_with fail
   go_ret
   exact⟨ret_int HP.out.symm,Below.refl _ _⟩
 ·by_cases h2:space=2
  ·subst h2
   clear h1
   by_cases hin:isIn textNames name=true
   ·have HP:Hid (pointF 2 name attrs=1):=by show pointF 2 name attrs=1;simp[pointF,hin]
    have h:=isIn_mem hin
    clear hin hl hs
    simp only[textNames,List.mem_cons,List.not_mem_nil,or_false,eq_mk_iff]at h
    rcases h with h|h|h|h|h
    all_goals
     go_enter Tryz.func57,Tryz.ntmps57
     go_wp2_with fail
     go_ret
     exact⟨ret_int HP.out.symm,Below.refl _ _⟩
   ·have hin':isIn textNames name=false:=by simpa using hin
    have HI:=Lib.hid hin'
    rw[isIn_mk]at hin'
    have no0:(name.toList== [109,105])=false:=isIn_no hin' [109,105] (by decide);have no1:(name.toList== [109,111])=false:=isIn_no hin' [109,111] (by decide);have no2:(name.toList== [109,110])=false:=isIn_no hin' [109,110] (by decide);have no3:(name.toList== [109,115])=false:=isIn_no hin' [109,115] (by decide);have no4:(name.toList== [109,116,101,120,116])=false:=isIn_no hin' [109,116,101,120,116] (by decide)
    clear hin hin'
    by_cases han:name=(⟨#[97,110,110,111,116,97,116,105,111,110,45,120,109,108]⟩:ByteArray)
    ·have han':name.toList=([97,110,110,111,116,97,116,105,111,110,45,120,109,108]:List UInt8):=(eq_mk_iff _ _).1 han
     have HN:=Lib.hid han
     clear han
     by_cases hen:isIn encNames ⟨(lowS (valueOf attrs (⟨#[101,110,99,111,100,105,110,103]⟩:ByteArray)).toList).toArray⟩=true
     ·have HP:Hid (pointF 2 name attrs=2):=by show pointF 2 name attrs=2;rw[pointF,if_neg (by decide),if_pos rfl,HI.out,if_neg (by decide),if_pos HN.out,hen];rfl
      have h:=isIn_mem hen
      clear hen
      simp only[encNames,List.mem_cons,List.not_mem_nil,or_false,eq_mk_iff,ByteArray.toList_mk]at h
      rcases h with h|h
      all_goals
       go_enter Tryz.func57,Tryz.ntmps57
       go_wp2_with (first|(go_at_call 96;refine(value_any attrs _ _ _ _ hl HA.out).mono ?_;rintro e w1 ⟨rfl,hb1⟩;have HB1:=Lib.hid hb1;clear hb1)|(go_at_call 95;refine(small_any _ _ hs).mono ?_;rintro e w2 ⟨rfl,hb2⟩;have HB2:=Lib.hid hb2;clear hb2))
       go_ret
       exact⟨ret_int HP.out.symm,belowCall HB1.out HB2.out⟩
     ·have hen':isIn encNames ⟨(lowS (valueOf attrs (⟨#[101,110,99,111,100,105,110,103]⟩:ByteArray)).toList).toArray⟩=false:=by simpa using hen
      have HP:Hid (pointF 2 name attrs=0):=by show pointF 2 name attrs=0;rw[pointF,if_neg (by decide),if_pos rfl,HI.out,if_neg (by decide),if_pos HN.out,hen'];rfl
      have HE:=Lib.hid hen'
      clear hen hen'
      have ne0:(lowS (valueOf attrs ⟨#[101,110,99,111,100,105,110,103]⟩).toList== [116,101,120,116,47,104,116,109,108])=false:=isIn_no HE.out [116,101,120,116,47,104,116,109,108] (by decide);have ne1:(lowS (valueOf attrs ⟨#[101,110,99,111,100,105,110,103]⟩).toList== [97,112,112,108,105,99,97,116,105,111,110,47,120,104,116,109,108,43,120,109,108])=false:=isIn_no HE.out [97,112,112,108,105,99,97,116,105,111,110,47,120,104,116,109,108,43,120,109,108] (by decide)
      go_enter Tryz.func57,Tryz.ntmps57
      go_wp2_with (first|(go_at_call 96;refine(value_any attrs _ _ _ _ hl HA.out).mono ?_;rintro e w1 ⟨rfl,hb1⟩;have HB1:=Lib.hid hb1;clear hb1)|(go_at_call 95;refine(small_any _ _ hs).mono ?_;rintro e w2 ⟨rfl,hb2⟩;have HB2:=Lib.hid hb2;clear hb2))
      go_ret
      exact⟨ret_int HP.out.symm,belowCall HB1.out HB2.out⟩
    ·have han':(name.toList==([97,110,110,111,116,97,116,105,111,110,45,120,109,108]:List UInt8))=false:=by rw[beq_eq_false_iff_ne];exact fun e=>han ((eq_mk_iff _ _).2 e)
     have HP:Hid (pointF 2 name attrs=0):=by show pointF 2 name attrs=0;rw[pointF,if_neg (by decide),if_pos rfl,HI.out,if_neg (by decide),if_neg han]
     clear han hl hs
     go_enter Tryz.func57,Tryz.ntmps57
     go_wp2_with fail
     go_ret
     exact⟨ret_int HP.out.symm,Below.refl _ _⟩
  ·have h1':(space==1)=false:=by simpa using h1
   have h2':(space==2)=false:=by simpa using h2
   go_enter Tryz.func57,Tryz.ntmps57
   go_wp2_with fail
   go_ret
   exact⟨ret_int (by rw[pointF,if_neg h1,if_neg h2]),Below.refl _ _⟩
end Go.Proofs.YtpnagbgpbajfeaaGreatDoor
