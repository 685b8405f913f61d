/- Texts joined for a claim: RMkBase, RMkMid: plain laws and contracts. No conditions beyond those that each lemma types. -/
import Derived.Test.YtgepobccoffnaaaGreatDoorT33
import Derived.Test.YtgepobccoffnaaaGreatDoorT34
import Derived.BigQuiet
import Derived.BigRegion
import Derived.Deep.DeepMust
import Derived.Deep.QuietTactic
import Derived.Deep.RegionWith
import Derived.Laws.Runes
import Derived.Lib.Hide
import Derived.Lib.IndexLaws
import Derived.WalkMore
set_option linter.unusedVariables false
set_option linter.unusedSimpArgs false
set_option maxRecDepth 100000
set_option maxHeartbeats 8000000
section
namespace Go.Proofs.YtgepobccoffnaaaGreatDoor.Rd
open Go.RowKit Mem
theorem ValidRune_any (r:Int) (w:World):Calls Tryz.prog 183 #[.int .i32 r] w fun e w'=>e= .returned (.bool (validRune r))∧w=w':=by
 have HV:=Lib.hid (show validRune r=decide ((0≤r∧r<55296)∨(57343<r∧r≤1114111))from rfl)
 go_enter Tryz.func183,Tryz.ntmps183
 go_wp2
 all_goals go_ret
 all_goals exact⟨ret_bool (by rw[HV.out];symm;first|exact decide_eq_true (by omega)|exact decide_eq_false (by omega)),rfl⟩
def Ascii (s:ByteArray):Prop:= ∀(j:Nat) b,s.data.toList[j]?=some b→b.toNat<128
theorem Ascii.mem {s:ByteArray} (h:Ascii s): ∀b∈s.data.toList,b.toNat<128:=fun b hb=>by
 obtain⟨j,hj,rfl⟩:=List.getElem_of_mem hb
 exact h j _ (List.getElem?_eq_getElem hj)
theorem Ascii.ext {s:ByteArray} (h:Ascii s) (a e:Nat) (c:UInt8) (hc:128≤c.toNat):Lib.indexByte (s.extract a e).data.toList c= -1:=by
 rcases Int.lt_or_le (Lib.indexByte (s.extract a e).data.toList c) 0 with h0|h0
 ·have:=Lib.indexByte_ge (s.extract a e).data.toList c;omega
 ·obtain⟨i,hi⟩:=Int.eq_ofNat_of_zero_le h0
  have h1:=(Lib.indexByte_some hi).1
  have:=h.mem c (mem_extract (List.mem_of_getElem? h1))
  omega
theorem next_ascii {s:ByteArray} (h:Ascii s) (i:Nat) (hi:i<s.size):s[i].toNat<128:=h i _ (Lib.data_getElem? s i hi)
theorem IndexRune_bad (s:ByteArray) (w:World) (ha:Ascii s) :
 Calls Tryz.prog 131 #[.string s,.int .i32 65533] w fun e w'=>e= .returned (.int .i64 (-1))∧Below w.heap.size w w':=by
 have HA:=Lib.hid ha
 clear ha
 go_enter Tryz.func131,Tryz.ntmps131
 go_wp2_with fail
 go_loopg [5,6] s.size (fun g _ _ wx=> ∃i:Nat,i+g=s.size∧wx=w.iter s i)
 case atStart=>exact⟨0,by omega,rfl⟩
 case round =>
  obtain⟨i,hig,rfl⟩:=hrel
  cases gk with
  |zero =>
   obtain rfl:i=s.size:=by omega
   have hnx:=run_next_end (P:=Tryz.prog) w s s.size
   go_wp2_with fail
   go_ret
   exact⟨rfl,(Below.refl _ _).alloc (Nat.le_refl _) _⟩
  |succ g =>
   have hi:i<s.size:=by omega
   have hx128:=next_ascii HA.out i hi
   have hnx:=fun ty=>run_next_ascii (P:=Tryz.prog) w s i ty hi hx128
   generalize s[i]=x at *
   go_wp2_with fail
   go_roundg g
   case measure=>omega
   case rel=>exact⟨i+1,by omega,rfl⟩
theorem byte_ne' {a c:UInt8} (ha:a.toNat<128) (hc:128≤c.toNat):((a.toNat:Int)==(c.toNat:Int))=false:=by
 rw[beq_eq_false_iff_ne];omega
theorem IndexRune_high (s:ByteArray) (r:Int) (w:World) (h0:128≤r) (ha:Ascii s) :
 Calls Tryz.prog 131 #[.string s,.int .i32 r] w fun e w'=>e= .returned (.int .i64 (-1))∧Below w.heap.size w w':=by
 by_cases he:r=65533
 ·subst he;exact IndexRune_bad s w ha
 have hne:(r==65533)=false:=beq_eq_false_iff_ne.2 he
 have hvr:=fun u=>ValidRune_any r u
 cases hv:validRune r
 ·rw[hv]at hvr
  have HVR:=Lib.hid hvr
  clear hvr ha hv he
  go_enter Tryz.func131,Tryz.ntmps131
  go_wp2_with (go_at_call 183;go_must (refine(HVR.out _).mono ?_;rintro e w1 ⟨rfl,rfl⟩))
  go_ret
  exact⟨rfl,Below.refl _ _⟩
 ·obtain⟨z2,z4,zl⟩:=encode_facts r (by rw[validRune_eq];exact hv) h0
  obtain⟨rs,hrs⟩: ∃rs,rs=Utf8.encode r:=⟨_,rfl⟩
  have hconv:=fun u=>run_convert_int_string (P:=Tryz.prog) u 21 9 .i32 r (by rw[Tryz.underlying21];rfl) Tryz.underlying9
  rw[←hrs]at z2 z4 zl hconv
  obtain⟨L,hL⟩: ∃L,L+1=rs.size:=⟨rs.size-1,by omega⟩
  have hLs:L<rs.size:=by omega
  have hlast:128≤(rs[L]'hLs).toNat:=by
   have:=zl (by omega)
   simp only[show rs.size-1=L from by omega]at this
   exact this
  rw[hv]at hvr
  have HVR:=Lib.hid hvr
  have hix: ∀u,Calls Tryz.prog 53 #[.string (s.extract (L+1) s.size),.int .u8 (rs[L]'hLs).toNat] u fun e w'=>e= .returned (.int .i64 (-1))∧u=w':=fun u=>by
   refine(IndexByte_any _ _ u).mono fun e w' ⟨h1,h2⟩=>⟨?_,h2.symm⟩
   have hb:((rs[L]'hLs).toNat:Int).toNat.toUInt8=rs[L]'hLs:=by simp
   rw[h1,hb,ha.ext _ _ _ hlast]
  have HIX:=Lib.hid hix
  have HA:=Lib.hid ha
  have hsz:(rs.size:Int)=(L:Int)+1:=by omega
  have hL4:L≤4:=by omega
  have hLs2:(L:Int)<(L:Int)+1:=by omega
  clear hvr ha hv he zl z2 z4 hix hrs hL
  by_cases hlt:L<s.size
  ·have hb:=byte_ne' (next_ascii HA.out L hlt) hlast
   have hle1:(L:Int)+1≤(s.size:Int):=by omega
   have hle2:L+1≤s.size:=by omega
   have htn:((L:Int)+1).toNat=L+1:=by omega
   have hwr:IntKind.i64.wrap ((L:Int)+1)=(L:Int)+1:=wrap_small _ (by omega) (by omega)
   have h0L:(0:Int)≤(L:Int)+1:=by omega
   go_enter Tryz.func131,Tryz.ntmps131
   go_wp2_with (go_at_call 183;go_must (refine(HVR.out _).mono ?_;rintro e w1 ⟨rfl,rfl⟩))
   go_step3
   go_wp2_with fail
   go_loopw [9] (fun v wr=>wr=w∧v= .int .i64 L) (fun _ _=>0)
   case atStart=>exact⟨rfl,rfl⟩
   case round =>
    obtain⟨rfl,rfl⟩:=hrel
    go_wp2_with fail
    go_step3
    go_wp2_with fail
    refine wp_region_calm (by kernel_rfl) (by kernel_rfl) ?_
    repeat
     with_reducible refine wpQuiet_step (fun K hK=> ?_)
     first
      |(with_reducible apply calm_skip
        ·rfl
        simp only[Act.put,List.setIfInBounds_toArray,List.set_cons_zero,List.set_cons_succ]
        refine hK _ ?_
        clear hK K)
      |(with_reducible apply calm_run
        ·rfl
        ·intro wq hC
         unfold Oper.quietAt
         go_simp
         first|done|with_reducible rfl|rfl
        simp only[Act.put,List.setIfInBounds_toArray,List.set_cons_zero,List.set_cons_succ]
        refine hK _ ?_
        clear hK K)
    with_reducible refine wpQuiet_nil ?_
    intro wq HQ
    have HQ0:=HQ
    go_wp2_with fail
    refine wp_region_calm (by kernel_rfl) (by kernel_rfl) ?_
    repeat
     with_reducible refine wpQuiet_step (fun K hK=> ?_)
     first
      |(with_reducible apply calm_skip
        ·rfl
        simp only[Act.put,List.setIfInBounds_toArray,List.set_cons_zero,List.set_cons_succ]
        refine hK _ ?_
        clear hK K)
      |(with_reducible apply calm_run
        ·rfl
        ·intro wq hC
         unfold Oper.quietAt
         go_simp
         first|done|(go_at_call 53;go_must (refine(HIX.out _).mono ?_;rintro e wx ⟨rfl,rfl⟩;exact⟨rfl,hC⟩))|with_reducible rfl|rfl
        simp only[Act.put,List.setIfInBounds_toArray,List.set_cons_zero,List.set_cons_succ]
        refine hK _ ?_
        clear hK K)
    with_reducible refine wpQuiet_nil ?_
    intro wq HQ
    go_wp2_with fail
    rw[Exit.noGoto_ret]
    go_wp2_with fail
    try rw[Exit.noGoto_ret]
    go_ret
    exact⟨rfl,belowCall HQ0.out HQ.out⟩
  ·go_enter Tryz.func131,Tryz.ntmps131
   go_wp2_with (go_at_call 183;go_must (refine(HVR.out _).mono ?_;rintro e w1 ⟨rfl,rfl⟩))
   go_step3
   go_wp2_with fail
   go_loopw [9] (fun v wr=>wr=w∧v= .int .i64 L) (fun _ _=>0)
   case atStart=>exact⟨rfl,by go_num⟩
   case round =>
    obtain⟨rfl,rfl⟩:=hrel
    go_wp2_with fail
    rw[Exit.noGoto_ret]
    go_ret
    exact⟨rfl,Below.refl _ _⟩
def setIter (u:World) (b:Nat) (s:ByteArray) (pos:Nat):World:= {u with heap:=u.heap.setIfInBounds b (.stringIter s pos)}
theorem setIter_size (u:World) (b:Nat) (s:ByteArray) (pos:Nat):(setIter u b s pos).heap.size=u.heap.size:=by simp[setIter]
theorem setIter_at {u:World} {b:Nat} (s:ByteArray) (pos:Nat) (h:b<u.heap.size):(setIter u b s pos).heap[b]?=some (.stringIter s pos):=by simp[setIter,h]
theorem setIter_below {B b:Nat} {w u:World} (s:ByteArray) (pos:Nat) (h:Below B w u) (hb:B≤b):Below B w (setIter u b s pos) :=
 ⟨h.os,h.tape,h.output,by rw[setIter_size];exact h.size,fun k hk=>by
  show(u.heap.setIfInBounds b (.stringIter s pos))[k]?=_
  rw[Array.getElem?_setIfInBounds_ne (by omega)]
  exact h.block k hk⟩
theorem next_at {P:Program} (u:World) (b:Nat) (s:ByteArray) (pos:Nat) (ty:TypeId) (hb:u.heap[b]?=some (.stringIter s pos)) (h:pos<s.size) :
 (Instr.next (.pointer (some ⟨b,0,none⟩)) true ty).run P u= .ok (.tuple #[.bool true,.int .i64 pos,.int .i32 (Utf8.decode s pos).1]) (setIter u b s (pos+(Utf8.decode s pos).2)):=by
 simp only[Instr.next,getObj,setObj,Sem.run_bind,Sem.run,hb,Result.andThen,h,if_true]
 simp[goInt,setIter]
theorem next_end {P:Program} (u:World) (b:Nat) (s:ByteArray) (pos:Nat) (ty:TypeId) (hb:u.heap[b]?=some (.stringIter s pos)) (h: ¬pos<s.size) :
 (Instr.next (.pointer (some ⟨b,0,none⟩)) true ty).run P u= .ok (.tuple #[.bool false]) u:=by
 simp[Instr.next,getObj,Sem.run,hb,h]
theorem get_byte (s:ByteArray) (k:Nat) (h:k<s.size):s.get! k=s[k]'h:=by
 simp[ByteArray.get!,getElem!_pos,h]
 rfl
theorem decode_wide (s:ByteArray) (pos:Nat) (h:pos<s.size) (ha:128≤(s[pos]'h).toNat): ∀k,1≤k→k<(Utf8.decode s pos).2→pos+k<s.size∧128≤(s.get! (pos+k)).toNat:=by
 have hn: ¬(s[pos]'h).toNat<128:=by omega
 intro k h1 h2
 simp only[Utf8.decode,get_at s pos h,hn,if_false]at h2
 split at h2
 ·rename_i hc
  simp only[Bool.and_eq_true,decide_eq_true_eq,beq_iff_eq]at hc
  split at h2
  ·obtain rfl:k=1:=by simp only at h2;omega
   exact⟨hc.2.1,by omega⟩
  ·simp only at h2;omega
 ·split at h2
  ·rename_i hc
   simp only[Bool.and_eq_true,decide_eq_true_eq,beq_iff_eq]at hc
   split at h2
   ·simp only at h2
    have:k=1∨k=2:=by omega
    rcases this with rfl|rfl
    ·exact⟨hc.1.2.1,by omega⟩
    ·exact⟨hc.2.1,by omega⟩
   ·simp only at h2;omega
  ·split at h2
   ·rename_i hc
    simp only[Bool.and_eq_true,decide_eq_true_eq,beq_iff_eq]at hc
    split at h2
    ·simp only at h2
     have:k=1∨k=2∨k=3:=by omega
     rcases this with rfl|rfl|rfl
     ·exact⟨hc.1.1.2.1,by omega⟩
     ·exact⟨hc.1.2.1,by omega⟩
     ·exact⟨hc.2.1,by omega⟩
    ·simp only at h2;omega
   ·simp only at h2;omega
theorem decode_pos (s:ByteArray) (pos:Nat) (h:pos<s.size):1≤(Utf8.decode s pos).2:=by
 by_cases ha:(s[pos]'h).toNat<128
 ·rw[decode_ascii s pos h ha];exact Nat.le_refl 1
 ·exact(decode_high s pos h (by omega)).2
theorem decode_fit (s:ByteArray) (pos:Nat) (h:pos<s.size):pos+(Utf8.decode s pos).2≤s.size:=by
 by_cases ha:(s[pos]'h).toNat<128
 ·rw[decode_ascii s pos h ha];omega
 ·have h1:=(decode_high s pos h (by omega)).2
  rcases Nat.lt_or_ge (Utf8.decode s pos).2 2 with h2|h2
  ·omega
  ·have:=(decode_wide s pos h (by omega) ((Utf8.decode s pos).2-1) (by omega) (by omega)).1
   omega
theorem noAny_wide {s chars:ByteArray} (hc:Ascii chars) {pos:Nat} (h:pos<s.size) (ha:128≤(s[pos]'h).toNat) (hn:Lib.NoAny s.data.toList chars.data.toList pos):Lib.NoAny s.data.toList chars.data.toList (pos+(Utf8.decode s pos).2):=by
 intro j b hj hb
 rcases Nat.lt_or_ge j pos with hlt|hge
 ·exact hn j b hlt hb
 ·obtain⟨k,rfl⟩:=Nat.le.dest hge
  have hb128:128≤b.toNat:=by
   by_cases hk:k=0
   ·subst hk
    rw[Nat.add_zero,Lib.data_getElem? s pos h]at hb
    cases hb
    exact ha
   ·have hw:=decode_wide s pos h ha k (by omega) (by omega)
    rw[get_byte s _ hw.1]at hw
    rw[Lib.data_getElem? s _ hw.1]at hb
    cases hb
    exact hw.2
  rw[Bool.eq_false_iff]
  intro hcon
  have:=hc.mem b (by simpa using hcon)
  omega
theorem IndexAny_short (s chars:ByteArray) (w:World) (h2:2≤chars.size) (h8:s.size≤8) (hc:Ascii chars) :
 Calls Tryz.prog 85 #[.string s,.string chars] w fun e w'=>e= .returned (.int .i64 (Lib.indexAny s.data.toList chars.data.toList))∧Below w.heap.size w w':=by
 have HC:=Lib.hid hc
 clear hc
 have hemp:chars.toList.isEmpty=false:=by
  rw[Lib.toList_data]
  cases h:chars.data.toList with
  |nil=>have:=Lib.size_eq chars;rw[h,List.length_nil]at this;omega
  |cons _ _=>rfl
 have hn1:((chars.size:Int)==1)=false:=beq_eq_false_iff_ne.2 (by omega)
 have h8z:decide ((8:Int)<(s.size:Int))=false:=decide_eq_false (by omega)
 go_enter Tryz.func85,Tryz.ntmps85
 go_wp2_with (go_at_call 132;refine(Any.strings_shouldUseASCIISet {laysM153 with} _ _).mono ?_;rintro e w' ⟨rfl,hw⟩;rw[hw,h8z])
 go_loopg [9,10] s.size (fun g _ _ wx=> ∃i:Nat,i≤s.size∧s.size-i≤g∧wx.heap[w.heap.size]?=some (.stringIter s i)∧w.heap.size<wx.heap.size∧Below w.heap.size w wx∧Lib.NoAny s.data.toList chars.data.toList i)
 case atStart=>exact⟨0,Nat.zero_le _,by omega,World.iter_heap _ _ _,by simp[World.iter],(Below.refl _ _).alloc (Nat.le_refl _) _,Lib.NoAny.zero _ _⟩
 case round =>
  obtain⟨i,his,hig,hit,hsz,hb,hno⟩:=hrel
  have HN:=Lib.hid hno
  have HB:=Lib.hid hb
  have HI:=Lib.hid hit
  clear hno hb hit
  by_cases hi:i<s.size
  ·obtain⟨x,hx⟩: ∃x:UInt8,s[i]'hi=x:=⟨_,rfl⟩
   have hxl:s.data.toList[i]?=some x:=by rw[←hx];exact Lib.data_getElem? s i hi
   have hnx:=fun ty=>next_at (P:=Tryz.prog) wr w.heap.size s i ty HI.out hi
   have hp:=decode_pos s i hi
   have hf:=decode_fit s i hi
   have HB2:=Lib.hid (setIter_below s (i+(Utf8.decode s i).2) HB.out (Nat.le_refl _))
   have HI2:=Lib.hid (setIter_at s (i+(Utf8.decode s i).2) hsz)
   have hs2:w.heap.size<(setIter wr w.heap.size s (i+(Utf8.decode s i).2)).heap.size:=by rw[setIter_size];exact hsz
   by_cases hx128:x.toNat<128
   ·have hd:=decode_ascii s i hi (by rw[hx];exact hx128)
    rw[hx]at hd
    rw[hd]at hnx hp hf HB2 HI2 hs2
    have Hx:=Lib.hid hxl
    have hcon:=Lib.contains_iff_indexByte chars.data.toList x
    have hback:((x.toNat:Int)).toNat.toUInt8=x:=by simp
    have HR:=Lib.hid (fun u=>IndexRune_ascii_any chars x.toNat u (by omega) (by omega))
    rw[hback]at HR
    clear hxl hx hd hback
    generalize setIter wr w.heap.size s (i+1)=wi at *
    cases hin:chars.data.toList.contains x
    ·rw[hin]at hcon
     have hlt: ¬((0:Int)≤Lib.indexByte chars.data.toList x):=of_decide_eq_false hcon.symm
     clear hcon
     go_wp2_with (go_at_call 131;go_must (refine(HR.out _).mono ?_;rintro e w1 ⟨rfl,rfl⟩))
     cases gk with
     |zero=>omega
     |succ g =>
      go_roundg g
      case measure=>omega
      case rel=>exact⟨i+1,by omega,by omega,HI2.out,hs2,HB2.out,HN.out.succ Hx.out hin⟩
    ·rw[hin]at hcon
     have hge:(0:Int)≤Lib.indexByte chars.data.toList x:=of_decide_eq_true hcon.symm
     clear hcon
     go_wp2_with (go_at_call 131;go_must (refine(HR.out _).mono ?_;rintro e w1 ⟨rfl,rfl⟩))
     go_ret
     exact⟨by rw[Lib.indexAny_hit HN.out Hx.out hin];rfl,HB2.out⟩
   ·have hd:=decode_high s i hi (by rw[hx];omega)
    have HW:=Lib.hid (noAny_wide HC.out hi (by rw[hx];omega) HN.out)
    have HR:=Lib.hid (fun u=>IndexRune_high chars (Utf8.decode s i).1 u (by omega) HC.out)
    have hle:=decode_le s i
    clear hxl hx HN
    generalize Utf8.decode s i=dc at *
    obtain⟨dr,dn⟩:=dc
    simp only at *
    generalize setIter wr w.heap.size s (i+dn)=wi at *
    go_wp2_with (go_at_call 131;go_must (refine(HR.out _).mono ?_;rintro e w1 ⟨rfl,hb1⟩;have HB3:=Lib.hid (belowCall HB2.out hb1);have HI3:=Lib.hid ((hb1.block w.heap.size hs2).trans HI2.out);have hs3:=Nat.lt_of_lt_of_le hs2 hb1.size;clear hb1))
    cases gk with
    |zero=>omega
    |succ g =>
     go_roundg g
     case measure=>omega
     case rel=>exact⟨i+dn,by omega,by omega,HI3.out,hs3,HB3.out,HW.out⟩
  ·obtain rfl:i=s.size:=by omega
   have hnx:=fun ty=>next_end (P:=Tryz.prog) wr w.heap.size s s.size ty HI.out (by omega)
   go_wp2_with fail
   go_ret
   exact⟨by rw[Lib.indexAny_none (by rw[←Lib.size_eq];exact HN.out)];rfl,HB.out⟩
theorem IndexAny_any (s chars:ByteArray) (w:World) (h1:1≤chars.size) (hc:Ascii chars) (hs:s.size<4294967281) (hcs:chars.size<4294967281) :
 Calls Tryz.prog 85 #[.string s,.string chars] w fun e w'=>e= .returned (.int .i64 (Lib.indexAny s.toList chars.toList))∧Below w.heap.size w w':=by
 rw[Lib.toList_data,Lib.toList_data]
 by_cases h:chars.size=1
 ·exact(IndexAny_one_any s chars w h hc).mono fun e w' ⟨h1,h2⟩=>⟨h1,h2▸Below.refl _ _⟩
 by_cases h8:s.size≤8
 ·exact IndexAny_short s chars w (by omega) h8 hc
 ·exact IndexAny_long_any s chars w (by omega) (by omega) hs hcs hc
end Go.Proofs.YtgepobccoffnaaaGreatDoor.Rd
namespace Go.Proofs.YtgepobccoffnaaaGreatDoor.Rd
open Go.RowKit Mem
def machV (m:MkM):List Value:= [.string (strB m.buf),.bool m.cr,.bool m.closed,.int .i64 m.mode,.string (strB m.name),.bool m.cdata,.int .i64 m.pass,.int .i64 m.kind,.bool m.fresh,.int .i64 m.err]
abbrev Only (b:Nat):Nat→Prop:=fun k=>k=b
theorem keep_set {b j:Nat} {a w:World} (h:Keeps (Only b) a w) (v:Value):Keeps (Only b) a (w.setCell ⟨b,j,none⟩ v):=h.set (.inl rfl) v
theorem keeps_belowB {F:Nat→Prop} {w u v:World} (h:Keeps F w u) (hb:Below w.heap.size u v):Keeps F w v :=
 ⟨hb.os.trans h.os,hb.tape.trans h.tape,hb.output.trans h.output,Nat.le_trans h.size hb.size,fun k hk hF=>(hb.block k hk).trans (h.block k hk hF)⟩
theorem ueq (c d:UInt8):(c==d)=((c.toNat:Int)==(d.toNat:Int)):=by
 rw[Bool.eq_iff_iff,beq_iff_eq,beq_iff_eq,←UInt8.toNat_inj]
 omega
theorem ule (c d:UInt8):decide (c≤d)=decide ((c.toNat:Int)≤(d.toNat:Int)):=by
 rw[Bool.eq_iff_iff,decide_eq_true_iff,decide_eq_true_iff,UInt8.le_iff_toNat_le]
 omega
theorem spaceB_nat (c:UInt8):spaceB c=((c.toNat:Int)==9||(c.toNat:Int)==10||(c.toNat:Int)==12||(c.toNat:Int)==32):=by
 unfold spaceB
 rw[ueq,ueq,ueq,ueq]
 rfl
theorem letterB_nat (c:UInt8):letterB c=decide ((97≤(c.toNat:Int)∧(c.toNat:Int)≤122)∨(65≤(c.toNat:Int)∧(c.toNat:Int)≤90)):=by
 unfold letterB
 rw[ule,ule,ule,ule,Bool.eq_iff_iff]
 simp only[Bool.or_eq_true,Bool.and_eq_true,decide_eq_true_eq]
 exact Iff.rfl
theorem space_any (c:UInt8) (w:World):Calls Tryz.prog 146 #[.int .u8 c.toNat] w fun e w'=>e= .returned (.bool (spaceB c))∧w=w':=by
 have HS:=Lib.hid (spaceB_nat c)
 have hc:=c.toNat_lt
 generalize c.toNat=n at *
 go_enter Tryz.func146,Tryz.ntmps146
 go_wp2
 all_goals go_ret
 all_goals exact⟨ret_bool (by rw[HS.out];first|done|simp[*]),rfl⟩
theorem letter_any (c:UInt8) (w:World):Calls Tryz.prog 142 #[.int .u8 c.toNat] w fun e w'=>e= .returned (.bool (letterB c))∧w=w':=by
 have HS:=Lib.hid (letterB_nat c)
 have hc:=c.toNat_lt
 generalize c.toNat=n at *
 go_enter Tryz.func142,Tryz.ntmps142
 go_wp2
 all_goals go_ret
 all_goals exact⟨ret_bool (by rw[HS.out];first|exact(decide_eq_true (by omega)).symm|exact(decide_eq_false (by omega)).symm|exact decide_eq_decide.2 (by omega)|(rw[←Bool.decide_or];exact decide_eq_decide.2 (by omega))),rfl⟩
theorem small_any (s:ByteArray) (w:World) (hs:s.size≤maxLen) :
 Calls Tryz.prog 145 #[.string s] w fun e w'=>e= .returned (.string (strB (lowS s.toList)))∧Below w.heap.size w w':=by
 obtain⟨c,W,hconv,hb,hsz,hrow,hcc⟩:=run_bytes_of (P:=Tryz.prog) w 9 54 5 s Tryz.underlying9 Tryz.underlying54 Tryz.underlying5
 have hsl:=size_toList s
 unfold maxLen at hs
 have HB:=Lib.hid hb
 have HR:=Lib.hid hrow
 have HZ:=Lib.hid hsz
 have HL:=Lib.hid hsl
 clear hb hrow hsz hsl
 go_enter Tryz.func145,Tryz.ntmps145
 go_wp2
 go_loopw [10] (fun i wr=> ∃k:Nat,k≤s.size∧i= .int .i64 k∧Below w.heap.size w wr∧w.heap.size<wr.heap.size∧Row wr w.heap.size (bytesV (mixS k s.toList))) (fun i _=>s.size-(intOf i).toNat)
 case atStart=>exact⟨0,Nat.zero_le _,rfl,HB.out,by rw[HZ.out];omega,by rw[mixS_zero];exact HR.out⟩
 case round =>
  obtain⟨k,hk,rfl,hb,hz,hr⟩:=hrel
  clear hconv HB HR HZ
  by_cases hlt:k<s.size
  ·have hkl:k<s.toList.length:=by rw[HL.out];exact hlt
   obtain⟨x,hx⟩: ∃x:Nat,x=s.toList[k].toNat:=⟨_,rfl⟩
   have hx255:x≤255:=by have:=s.toList[k].toNat_lt;omega
   have hcell:wr.cell? ⟨w.heap.size,k,none⟩=some (.int .u8 x):=by rw[hx];exact hr.cell (bytesV_mix_get k _ hkl)
   have hfz:wr.frozen? ⟨w.heap.size,k,none⟩=false:=hr.frozen (by rw[bytesV_length,mixS_length];exact hkl)
   have hl:=lowB_nat s.toList[k]
   rw[←hx]at hl
   have HX:=Lib.hid hl
   have HX2:=Lib.hid hx
   have HB:=Lib.hid hb
   have HR:=Lib.hid hr
   clear hl hx hb hr
   go_wp2
   ·go_roundw
    case rel =>
     exact⟨k+1,by omega,by go_num,HB.out.setCell (Nat.le_refl _) _,by rw[World.size_setCell];exact hz,by
      rw[←bytesV_mix_succ k _ hkl (.int .u8 (x+32)) (by rw[HX.out,if_pos ⟨by assumption,by assumption⟩])]
      exact HR.out.set k _⟩
    case measure=>simp[intOf];omega
   ·go_roundw
    case rel=>exact⟨k+1,by omega,by go_num,HB.out,hz,by rw[←bytesV_mix_same k _ hkl (by rw[HX.out,if_neg (by omega),HX2.out])];exact HR.out⟩
    case measure=>simp[intOf];omega
   ·go_roundw
    case rel=>exact⟨k+1,by omega,by go_num,HB.out,hz,by rw[←bytesV_mix_same k _ hkl (by rw[HX.out,if_neg (by omega),HX2.out])];exact HR.out⟩
    case measure=>simp[intOf];omega
  ·obtain rfl:k=s.size:=by omega
   have hback:=run_string_of (P:=Tryz.prog) wr 54 9 5 w.heap.size c (mixS s.size s.toList) s.size (by rw[mixS_length,HL.out]) Tryz.underlying54 Tryz.underlying5 Tryz.underlying9 hr
   have HB:=Lib.hid hb
   clear hb hr
   go_wp2
   go_ret
   refine⟨ret_string ?_,HB.out⟩
   rw[←HL.out,mixS_all]
   rfl
end Go.Proofs.YtgepobccoffnaaaGreatDoor.Rd
namespace Go.Proofs.YtgepobccoffnaaaGreatDoor.Rd
open Go.RowKit Mem
theorem ownF_kept {w w':World} {base:Nat} {e:TypeId} {size:Nat} {v:Value} {n:Nat} {xs:List Value} (h:w.ownsRowF base e size v n xs) (hb: ∀g,v.ownBlock=some g→w'.heap[g]?=w.heap[g]?):w'.ownsRowF base e size v n xs:=by
 obtain⟨h1,h2⟩:=h
 refine⟨h1,?_⟩
 rcases h2 with h2|⟨g,cap,cur,fz,rfl,hg,hh,r⟩
 ·exact .inl h2
 ·exact .inr ⟨g,cap,cur,fz,rfl,hg,(hb g rfl).trans hh,r⟩
theorem builder_kept {T e:TypeId} {B b:Nat} {bs:List Value} {w w':World} (h:Lib.IsBuilderF T e B b bs w) (hk: ∀k,B≤k→k<w.heap.size→w'.heap[k]?=w.heap[k]?):Lib.IsBuilderF T e B b bs w':=by
 have key: ∀p,Lib.BuilderAtF T e B b p bs w→Lib.BuilderAtF T e B b p bs w':=fun p hp=>by
  have hlt:=hp.lt
  obtain⟨hB,v,hh,hown,hne⟩:=hp
  exact⟨hB,v,(hk b hB hlt).trans hh,ownF_kept hown fun g hg=>hk g (hown.lt g hg).1 (hown.lt g hg).2,hne⟩
 exact h.imp (key _) (key _)
theorem builder_set {T e:TypeId} {B b:Nat} {bs:List Value} {w:World} (h:Lib.IsBuilderF T e B b bs w) {p:Addr} (hp:p.block<B) (v:Value):Lib.IsBuilderF T e B b bs (w.setCell p v) :=
 builder_kept h fun k hk _=>heap_setCell_other _ _ _ _ (by omega)
theorem putC_two: ∀(a r:Str) (cr:Bool),putC cr (a++r)=putC (putC cr a) r
 | [],_,_=>rfl
 |c::a,r,cr=>by simp only[List.cons_append,putC];exact putC_two a r _
theorem putF_two: ∀(a r:Str) (cr:Bool),putF cr (a++r)=putF cr a++putF (putC cr a) r
 | [],_,_=>rfl
 |c::a,r,cr=>by simp only[List.cons_append,putF,putC,List.append_assoc];rw[putF_two a r _]
theorem putOne_len (cr:Bool) (c:UInt8):(putOne cr c).length≤3:=by
 unfold putOne
 repeat' split
 all_goals simp
theorem putF_len: ∀(a:Str) (cr:Bool),(putF cr a).length≤3*a.length
 | [],_=>Nat.le_refl _
 |c::a,cr=>by
  have h:=putF_len a (c==13)
  have h1:=putOne_len cr c
  simp only[putF,List.length_append,List.length_cons]
  omega
theorem put_take (cr:Bool) (l:Str) (k:Nat) (h:k<l.length):putF cr (l.take (k+1))=putF cr (l.take k)++putOne (putC cr (l.take k)) l[k]∧putC cr (l.take (k+1))=(l[k]==13):=by
 rw[List.take_succ_eq_append_getElem h,putF_two,putC_two]
 simp[putF,putC]
theorem putOne_nat (cr:Bool) (c:UInt8):putOne cr c=if(c.toNat:Int)=10∧cr=true then []else if(c.toNat:Int)=13 then [10]else if(c.toNat:Int)=0 then [239,191,189]else [c]:=by
 have h:=fun d:UInt8=>(show(c=d)↔(c.toNat:Int)=(d.toNat:Int)from by rw[←UInt8.toNat_inj];omega)
 have h1:(c=10)↔(c.toNat:Int)=10:=h 10
 have h2:(c=13)↔(c.toNat:Int)=13:=h 13
 have h3:(c=0)↔(c.toNat:Int)=0:=h 0
 unfold putOne
 simp only[h1,h2,h3]
theorem byte_at (s:ByteArray) (k:Nat) (h:k<s.size) (h':k<s.toList.length):s.toList[k]=s[k]:=by
 have:=Lib.data_getElem? s k h
 rw[←ByteArray.toList_eq,List.getElem?_eq_getElem h']at this
 exact Option.some.inj this
theorem mach_row {w:World} {b:Nat} {m:MkM} (h:Row w b (machV m)):w.cell? ⟨b,0,none⟩=some (.string (strB m.buf))∧w.cell? ⟨b,1,none⟩=some (.bool m.cr)∧w.cell? ⟨b,2,none⟩=some (.bool m.closed)∧w.cell? ⟨b,3,none⟩=some (.int .i64 m.mode)∧w.cell? ⟨b,4,none⟩=some (.string (strB m.name)) ∧
 w.cell? ⟨b,5,none⟩=some (.bool m.cdata)∧w.cell? ⟨b,6,none⟩=some (.int .i64 m.pass)∧w.cell? ⟨b,7,none⟩=some (.int .i64 m.kind)∧w.cell? ⟨b,8,none⟩=some (.bool m.fresh)∧w.cell? ⟨b,9,none⟩=some (.int .i64 m.err) :=
 ⟨h.cell rfl,h.cell rfl,h.cell rfl,h.cell rfl,h.cell rfl,h.cell rfl,h.cell rfl,h.cell rfl,h.cell rfl,h.cell rfl⟩
theorem mach_free {w:World} {b:Nat} {m:MkM} (h:Row w b (machV m)):w.frozen? ⟨b,0,none⟩=false∧w.frozen? ⟨b,1,none⟩=false∧w.frozen? ⟨b,2,none⟩=false∧w.frozen? ⟨b,3,none⟩=false∧w.frozen? ⟨b,4,none⟩=false ∧
 w.frozen? ⟨b,5,none⟩=false∧w.frozen? ⟨b,6,none⟩=false∧w.frozen? ⟨b,7,none⟩=false∧w.frozen? ⟨b,8,none⟩=false∧w.frozen? ⟨b,9,none⟩=false :=
 have hf: ∀j,j<10→w.frozen? ⟨b,j,none⟩=false:=fun j hj=>h.frozen hj
 ⟨hf 0 (by omega),hf 1 (by omega),hf 2 (by omega),hf 3 (by omega),hf 4 (by omega),hf 5 (by omega),hf 6 (by omega),hf 7 (by omega),hf 8 (by omega),hf 9 (by omega)⟩
theorem put_any (m:MkM) (b:Nat) (s:ByteArray) (w:World) (hr:Row w b (machV m)) (hl:m.buf.length+3*s.size≤140737488355328) :
 Calls Tryz.prog 26 #[.pointer (some ⟨b,0,none⟩),.string s] w fun e w'=>e= .returned (.tuple #[])∧Row w' b (machV {m with buf:=m.buf++putF m.cr s.toList,cr:=putC m.cr s.toList})∧Keeps (Only b) w w':=by
 have hbw:=hr.lt
 have hc0:=hr.cell (j:=0) rfl
 have hsz:s.size≤140737488355328:=by omega
 have HR:=Lib.hid hr
 have HL:=Lib.hid hl
 have HS:=Lib.hid (size_toList s)
 clear hr hl
 go_enter Tryz.func26,Tryz.ntmps26
 go_wp2_with fail
 refine(WriteString_any w.heap.size w.heap.size [] (strB m.buf) _ (Lib.IsBuilderF.of (Lib.fresh_isBuilder 84 5 w)) (by rw[strB_size];have:=HL.out;simp only[List.length_nil];omega) (by simp)).mono ?_
 rintro e W1 ⟨rfl,g1,b1,_⟩
 have HB1:=Lib.hid (((Below.refl w.heap.size w).alloc (Nat.le_refl _) _).trans b1)
 have HR1:=Lib.hid (HR.out.below HB1.out hbw)
 have HI1:Hid (Lib.IsBuilderF 84 5 w.heap.size w.heap.size (bytesV m.buf) W1):= .inr g1
 have hz1:=HB1.out.size
 clear b1 g1
 dsimp only
 go_wp2_with fail
 go_loopw [5] (fun i wr=> ∃k:Nat,k≤s.size∧i= .int .i64 k∧Row wr b (machV {m with cr:=putC m.cr (s.toList.take k)})∧Lib.IsBuilderF 84 5 w.heap.size w.heap.size (bytesV (m.buf++putF m.cr (s.toList.take k))) wr∧Keeps (Only b) w wr) (fun i _=>s.size-(intOf i).toNat)
 case atStart=>exact⟨0,Nat.zero_le _,rfl,HR1.out,by rw[List.take_zero];simpa[putF] using HI1.out,Keeps.ofBelow HB1.out⟩
 case round =>
  obtain⟨k,hk,rfl,hrr,hii,hkk⟩:=hrel
  have hzr:=hkk.size
  have hfr:=(mach_free hrr).2.1
  have HRr:=Lib.hid hrr
  have HIr:=Lib.hid hii
  have HKr:=Lib.hid hkk
  clear hii hkk HR1 HI1 HB1 hz1
  by_cases hlt:k<s.size
  ·have hkl:k<s.toList.length:=by rw[HS.out];exact hlt
   have hst:=put_take m.cr s.toList k hkl
   rw[byte_at s k hlt hkl]at hst
   have HF1:=Lib.hid hst.1
   have HC1:=Lib.hid hst.2
   have hp1:=putOne_nat (putC m.cr (s.toList.take k)) s[k]
   have hlen:(bytesV (m.buf++putF m.cr (s.toList.take k))).length+3≤140737488355328:=by
    have h3:=putF_len (s.toList.take k) m.cr
    rw[List.length_take]at h3
    have:=HL.out
    rw[bytesV_length,List.length_append]
    omega
   have hLen:=Lib.hid hlen
   have hc1:=(mach_row hrr).2.1
   simp only at hc1
   obtain⟨cr',hcr⟩: ∃c,c=putC m.cr (s.toList.take k):=⟨_,rfl⟩
   have hu:=s[k].toNat_lt
   obtain⟨x,hx⟩: ∃x:UInt8,x=s[k]:=⟨_,rfl⟩
   have hub: ∀c:Nat,s[k].toNat=c→s[k]=UInt8.ofNat c:=fun c h=>by rw[←h];simp
   rw[←hcr]at hc1 hp1 HF1 HRr
   have hcx:(s[k]==13)=((s[k].toNat:Int)==13):=ueq _ _
   rw[hcx]at HC1
   clear hst hrr hlen hcr hcx
   by_cases h10:(s[k].toNat:Int)=10
   ·have e1:((s[k].toNat:Int)==10)=true:=beq_iff_eq.2 h10
    have e2:((s[k].toNat:Int)==13)=false:=beq_eq_false_iff_ne.2 (by omega)
    have e3:((s[k].toNat:Int)==0)=false:=beq_eq_false_iff_ne.2 (by omega)
    rw[e2]at HC1
    cases cr'
    ·rw[if_neg (by simp),if_neg (by omega),if_neg (by omega)]at hp1
     have HP:=Lib.hid hp1
     clear hp1 hu hub hx h10
     go_wp2_with fail
     refine(WriteByte_any w.heap.size w.heap.size _ _ _ HIr.out (by have:=hLen.out;omega) hzr).mono ?_
     rintro e W2 ⟨rfl,g2,b2,_⟩
     have HRn:=Lib.hid (HRr.out.below b2 hbw)
     have HKn:=Lib.hid (keeps_belowB HKr.out b2)
     have hfn:=(mach_free HRn.out).2.1
     have hcn:=(mach_row HRn.out).2.1
     clear b2
     dsimp only
     go_wp2_with fail
     have HIn:Hid (Lib.IsBuilderF 84 5 w.heap.size w.heap.size (bytesV (m.buf++putF m.cr (s.toList.take k))++bytesV [s[k]]) W2):= .inr g2
     go_roundw
     case rel =>
      refine⟨k+1,by omega,by go_num,?_,?_,keep_set HKn.out _⟩
      ·rw[HC1.out];exact HRn.out.set 1 _
      ·rw[HF1.out,HP.out,←List.append_assoc,bytesV_two];exact builder_set HIn.out hbw _
     case measure=>simp[intOf];omega
    ·rw[if_pos ⟨h10,rfl⟩]at hp1
     have HP:=Lib.hid hp1
     clear hp1 hu hub hx h10
     have HRn:=HRr
     have HKn:=HKr
     have HIn:Hid (Lib.IsBuilderF 84 5 w.heap.size w.heap.size (bytesV (m.buf++putF m.cr (s.toList.take k))++bytesV []) wr):=by
      show Lib.IsBuilderF _ _ _ _ (_++ []) _
      rw[List.append_nil];exact HIr.out
     go_wp2_with fail
     go_roundw
     case rel =>
      refine⟨k+1,by omega,by go_num,?_,?_,keep_set HKn.out _⟩
      ·rw[HC1.out];exact HRn.out.set 1 _
      ·rw[HF1.out,HP.out,←List.append_assoc,bytesV_two];exact builder_set HIn.out hbw _
     case measure=>simp[intOf];omega
   ·have e1:((s[k].toNat:Int)==10)=false:=beq_eq_false_iff_ne.2 h10
    rw[if_neg (by simp[h10])]at hp1
    by_cases h13:(s[k].toNat:Int)=13
    ·have e2:((s[k].toNat:Int)==13)=true:=beq_iff_eq.2 h13
     rw[e2]at HC1
     rw[if_pos h13]at hp1
     have HP:=Lib.hid hp1
     clear hp1 hu hub hx h10 h13
     go_wp2_with fail
     refine(WriteByte_any w.heap.size w.heap.size _ _ _ HIr.out (by have:=hLen.out;omega) hzr).mono ?_
     rintro e W2 ⟨rfl,g2,b2,_⟩
     have HRn:=Lib.hid (HRr.out.below b2 hbw)
     have HKn:=Lib.hid (keeps_belowB HKr.out b2)
     have hfn:=(mach_free HRn.out).2.1
     have hcn:=(mach_row HRn.out).2.1
     clear b2
     dsimp only
     go_wp2_with fail
     have HIn:Hid (Lib.IsBuilderF 84 5 w.heap.size w.heap.size (bytesV (m.buf++putF m.cr (s.toList.take k))++bytesV [10]) W2):= .inr g2
     go_roundw
     case rel =>
      refine⟨k+1,by omega,by go_num,?_,?_,keep_set HKn.out _⟩
      ·rw[HC1.out];exact HRn.out.set 1 _
      ·rw[HF1.out,HP.out,←List.append_assoc,bytesV_two];exact builder_set HIn.out hbw _
     case measure=>simp[intOf];omega
    ·have e2:((s[k].toNat:Int)==13)=false:=beq_eq_false_iff_ne.2 h13
     rw[e2]at HC1
     rw[if_neg h13]at hp1
     by_cases h0:(s[k].toNat:Int)=0
     ·have e3:((s[k].toNat:Int)==0)=true:=beq_iff_eq.2 h0
      rw[if_pos h0]at hp1
      have HP:=Lib.hid hp1
      clear hp1 hu hub hx h10 h13 h0
      go_wp2_with fail
      refine(WriteString_any w.heap.size w.heap.size _ ⟨#[239,191,189]⟩ _ HIr.out (by have:=hLen.out;show _+3≤_;omega) hzr).mono ?_
      rintro e W2 ⟨rfl,g2,b2,_⟩
      have HRn:=Lib.hid (HRr.out.below b2 hbw)
      have HKn:=Lib.hid (keeps_belowB HKr.out b2)
      have hfn:=(mach_free HRn.out).2.1
      have hcn:=(mach_row HRn.out).2.1
      clear b2
      dsimp only
      go_wp2_with fail
      have HIn:Hid (Lib.IsBuilderF 84 5 w.heap.size w.heap.size (bytesV (m.buf++putF m.cr (s.toList.take k))++bytesV [239,191,189]) W2):= .inr g2
      go_roundw
      case rel =>
       refine⟨k+1,by omega,by go_num,?_,?_,keep_set HKn.out _⟩
       ·rw[HC1.out];exact HRn.out.set 1 _
       ·rw[HF1.out,HP.out,←List.append_assoc,bytesV_two];exact builder_set HIn.out hbw _
      case measure=>simp[intOf];omega
     ·have e3:((s[k].toNat:Int)==0)=false:=beq_eq_false_iff_ne.2 h0
      rw[if_neg h0]at hp1
      have HP:=Lib.hid hp1
      clear hp1 hu hub hx h10 h13 h0
      go_wp2_with fail
      refine(WriteByte_any w.heap.size w.heap.size _ _ _ HIr.out (by have:=hLen.out;omega) hzr).mono ?_
      rintro e W2 ⟨rfl,g2,b2,_⟩
      have HRn:=Lib.hid (HRr.out.below b2 hbw)
      have HKn:=Lib.hid (keeps_belowB HKr.out b2)
      have hfn:=(mach_free HRn.out).2.1
      have hcn:=(mach_row HRn.out).2.1
      clear b2
      dsimp only
      go_wp2_with fail
      have HIn:Hid (Lib.IsBuilderF 84 5 w.heap.size w.heap.size (bytesV (m.buf++putF m.cr (s.toList.take k))++bytesV [s[k]]) W2):= .inr g2
      go_roundw
      case rel =>
       refine⟨k+1,by omega,by go_num,?_,?_,keep_set HKn.out _⟩
       ·rw[HC1.out];exact HRn.out.set 1 _
       ·rw[HF1.out,HP.out,←List.append_assoc,bytesV_two];exact builder_set HIn.out hbw _
      case measure=>simp[intOf];omega
  ·obtain rfl:k=s.size:=by omega
   have htk:s.toList.take s.size=s.toList:=List.take_of_length_le (by rw[HS.out];omega)
   rw[htk]at HRr HIr
   clear hrr hfr
   go_wp2_with fail
   refine(BString_any w.heap.size w.heap.size _ _ HIr.out hzr).mono ?_
   rintro e W2 ⟨rfl,_,b2,_⟩
   have HRn:=Lib.hid (HRr.out.below b2 hbw)
   have HKn:=Lib.hid (keeps_belowB HKr.out b2)
   have hf0:=(mach_free HRn.out).1
   have hcn:=(mach_row HRn.out).1
   clear b2
   dsimp only
   go_wp2_with fail
   go_end0
   exact⟨rfl,HRn.out.set 0 _,keep_set HKn.out _⟩
end Go.Proofs.YtgepobccoffnaaaGreatDoor.Rd
namespace Go.Proofs.YtgepobccoffnaaaGreatDoor.Rd
open Go.RowKit Mem
def markV (sl:Value) (x:MarkD):Value:= .agg #[.int .i64 x.kind,.string (strB x.name),sl,.bool x.self,.string (strB x.text)]
theorem mark_info:(Tryz.prog.info? 38).map (·.size)=some 5:=by kernel_rfl
theorem results_mark {P:Program} {fn:Func} {p t u:Tmp} {ty:TypeId} (h:fn.results= #[.cell p ty,.tmp t,.tmp u]) (tmps:Array Value) (w:World) (g:Nat) (e:TypeId) (cs:Array Value) (fr:Nat×Nat) (d:TypeDesc)
 (hp:tmps.getD p undef= .pointer (some ⟨g,0,none⟩)) (hg:w.heap[g]?=some (.cells cs e fr))
 (hu:P.underlying ty=some d) (hd:(match d with| .struct _| .array _ _=>true|_=>false)=true) (hi:(P.info? ty).map (·.size)=some cs.size) :
 (results fn tmps).run P w= .ok (.tuple #[.agg cs,tmps.getD t undef,tmps.getD u undef]) w:=by
 have hp':tmps[p]?.getD undef= .pointer (some ⟨g,0,none⟩):=by simpa using hp
 simp[results,h,hp',asAddr,run_loadVar_row w g e ty cs fr d hg hu hd hi,Result.andThen]
theorem strB_ext (l:Str) (a:Nat):(strB l).extract a l.length=strB (l.drop a):=by
 apply toList_inj
 rw[toList_strB,ext_list,toList_strB,List.take_of_length_le (by rw[List.length_drop];omega)]
def zeroMark:Array Value:= #[.int .i64 0,.string ⟨#[]⟩,.slice none 0 0,.bool false,.string ⟨#[]⟩]
theorem res_cells {W:World} {g:Nat} {e:TypeId} (h:W.heap[g]?=some (.cells zeroMark e (0,0))) :
 (W.cell? ⟨g,0,none⟩=some (.int .i64 0)∧W.cell? ⟨g,1,none⟩=some (.string ⟨#[]⟩)∧W.cell? ⟨g,2,none⟩=some (.slice none 0 0)∧W.cell? ⟨g,3,none⟩=some (.bool false)∧W.cell? ⟨g,4,none⟩=some (.string ⟨#[]⟩)) ∧
 (W.frozen? ⟨g,0,none⟩=false∧W.frozen? ⟨g,1,none⟩=false∧W.frozen? ⟨g,2,none⟩=false∧W.frozen? ⟨g,3,none⟩=false∧W.frozen? ⟨g,4,none⟩=false):=by
 refine⟨⟨?_,?_,?_,?_,?_⟩,?_,?_,?_,?_,?_⟩ <;>simp[World.cell?,World.frozen?,h,zeroMark]
abbrev put5 (W:World) (g:Nat) (v0 v1 v2 v3 v4:Value):World:=((((W.setCell ⟨g,0,none⟩ v0).setCell ⟨g,1,none⟩ v1).setCell ⟨g,2,none⟩ v2).setCell ⟨g,3,none⟩ v3).setCell ⟨g,4,none⟩ v4
theorem put5_at {W:World} {g:Nat} {e:TypeId} (h:W.heap[g]?=some (.cells zeroMark e (0,0))) (v0 v1 v2 v3 v4:Value):(put5 W g v0 v1 v2 v3 v4).heap[g]?=some (.cells #[v0,v1,v2,v3,v4] e (0,0)):=by
 simp[put5,World.setCell,Array.getElem?_modify,h,zeroMark]
theorem heap_drew' (w:World):w.drew.heap=w.heap:=rfl
theorem at_drew {W:World} {g:Nat} {o:Option Obj} (h:W.heap[g]?=o):W.drew.heap[g]?=o:=by rw[heap_drew'];exact h
theorem row_drew {W:World} {k:Nat} {xs:List Value} (h:Row W k xs):Row W.drew k xs:=h.kept (by rw[heap_drew'])
theorem put5_row {W:World} {g k:Nat} {xs:List Value} (h:Row W k xs) (hg:k≠g) (v0 v1 v2 v3 v4:Value):Row (put5 W g v0 v1 v2 v3 v4) k xs :=
 h.kept (by unfold put5;rw[heap_setCell_other _ _ _ _ hg,heap_setCell_other _ _ _ _ hg,heap_setCell_other _ _ _ _ hg,heap_setCell_other _ _ _ _ hg,heap_setCell_other _ _ _ _ hg])
theorem put5_keeps {F:Nat→Prop} {a W:World} (h:Keeps F a W) {g:Nat} (hg:a.heap.size≤g) (v0 v1 v2 v3 v4:Value):Keeps F a (put5 W g v0 v1 v2 v3 v4) :=
 ((((h.set (.inr hg) _).set (.inr hg) _).set (.inr hg) _).set (.inr hg) _).set (.inr hg) _
theorem keeps_alloc {b:Nat} {w W:World} {o:Obj} (h:Keeps (Only b) (w.alloc o) W):Keeps (Only b) w W :=
 ⟨h.os,h.tape,h.output,Nat.le_trans (by simp) h.size,fun k hk hF=>(h.block k (by simp;omega) hF).trans (heap_alloc_old w o hk)⟩
end Go.Proofs.YtgepobccoffnaaaGreatDoor.Rd
namespace Go.Proofs.YtgepobccoffnaaaGreatDoor.Rd
open Go.RowKit Mem
theorem strB_cut (l:Str) (a:Nat):(strB l).extract 0 a=strB (l.take a):=by
 apply toList_inj
 rw[toList_strB,ext_list,toList_strB,List.drop_zero,Nat.sub_zero]
theorem res_set {W:World} {R b j:Nat} {o:Obj} {v:Value} (h:W.heap[R]?=some o) (hne:R≠b):(W.setCell ⟨b,j,none⟩ v).heap[R]?=some o:=by
 rw[heap_setCell_other _ _ _ _ hne];exact h
end Go.Proofs.YtgepobccoffnaaaGreatDoor.Rd
end
section
namespace Go.Proofs.YtgepobccoffnaaaGreatDoor.Rd
open Go.RowKit Mem
end Go.Proofs.YtgepobccoffnaaaGreatDoor.Rd
namespace Go.Proofs.YtgepobccoffnaaaGreatDoor.Rd
open Go.RowKit Mem
theorem uiff (c d:UInt8) (n:Int) (h:(d.toNat:Int)=n):(c=d)↔(((c.toNat:Int)==n)=true):=by
 rw[beq_iff_eq,←h,←UInt8.toNat_inj];omega
theorem look_two (m:MkM) (c0 c1:UInt8) (r:Str) (hm:m.mode=0):lookF m (c0::c1::r)=if letterB c1=true then 2 else if((c1.toNat:Int)==63)=true then 8 else if((c1.toNat:Int)==33)=true then declF m (c0::c1::r)else if((c1.toNat:Int) !=47)=true then 0
 else match r with
  | []=>unlessF m.closed 0
  |d::_=>if letterB d=true then 3 else if((d.toNat:Int)==62)=true then 4 else 8:=by
 unfold lookF
 rw[if_neg (fun h=>h hm)]
 simp only[uiff c1 63 63 rfl,uiff c1 33 33 rfl,ne_eq,uiff c1 47 47 rfl,bne,Bool.not_eq_true',Bool.not_eq_true]
 cases r with
 |nil=>rfl
 |cons d r=>simp only[uiff d 62 62 rfl]
end Go.Proofs.YtgepobccoffnaaaGreatDoor.Rd
namespace Go.Proofs.YtgepobccoffnaaaGreatDoor.Rd
open Go.RowKit Mem
theorem keeps_then' {F:Nat→Prop} {w a u:World} (h:Keeps F w a) (hq:Below a.heap.size a u):Keeps F w u:=h.trans (Keeps.ofBelow hq)
theorem zero_below {a u:World} {R:Nat} {o:Obj} (h:a.heap[R]?=some o) (hq:Below a.heap.size a u) (hR:R<a.heap.size):u.heap[R]?=some o:=(hq.block R hR).trans h
theorem only_zero {a u:World} {R b:Nat} {o:Obj} (h:a.heap[R]?=some o) (hk:Keeps (Only b) a u) (hR:R<a.heap.size) (hne:R≠b):u.heap[R]?=some o:=(hk.block R hR hne).trans h
end Go.Proofs.YtgepobccoffnaaaGreatDoor.Rd
namespace Go.Proofs.YtgepobccoffnaaaGreatDoor.Rd
open Go.RowKit Mem
end Go.Proofs.YtgepobccoffnaaaGreatDoor.Rd
end
