/- Texts joined for a claim: BytesP, Bytes, ForA, ForB, ForL, ForC: plain laws and contracts. No conditions beyond those that each lemma types. -/
import Derived.Test.YtgepobccoffnaaaGreatDoorT01
import Derived.BigQuiet
import Derived.Deep.QuietTactic
import Derived.Deep.RegionWith
import Derived.Test.YtgepobccoffnaaaGreatDoorRows
import Derived.Test.YtgepobccoffnaaaGreatDoorT11
set_option linter.unusedVariables false
set_option linter.unusedSimpArgs false
set_option maxRecDepth 100000
set_option maxHeartbeats 8000000
namespace Go.Proofs.YtgepobccoffnaaaGreatDoor
open Go.RowKit Mem
def lowB (b:UInt8):UInt8:=if 65≤b∧b≤90 then b+32 else b
def lowS (l:Str):Str:=l.map lowB
def mixS (k:Nat) (l:Str):Str:=(l.take k).map lowB++l.drop k
theorem lowB_nat (b:UInt8):((lowB b).toNat:Int)=if 65≤(b.toNat:Int)∧(b.toNat:Int)≤90 then(b.toNat:Int)+32 else b.toNat:=by
 have h1:(65≤b)↔65≤(b.toNat:Int):=by rw[UInt8.le_iff_toNat_le];simp;omega
 have h2:(b≤90)↔(b.toNat:Int)≤90:=by rw[UInt8.le_iff_toNat_le];simp;omega
 unfold lowB
 by_cases h:65≤(b.toNat:Int)∧(b.toNat:Int)≤90
 ·rw[if_pos h,if_pos ⟨h1.2 h.1,h2.2 h.2⟩,UInt8.toNat_add]
  simp
  omega
 ·rw[if_neg h,if_neg (fun hh=>h ⟨h1.1 hh.1,h2.1 hh.2⟩)]
theorem mixS_length (k:Nat) (l:Str):(mixS k l).length=l.length:=by simp[mixS];omega
theorem mixS_zero (l:Str):mixS 0 l=l:=by simp[mixS]
theorem mixS_all (l:Str):mixS l.length l=lowS l:=by simp[mixS,lowS]
theorem mixS_get (k:Nat) (l:Str) (h:k<l.length):(mixS k l)[k]?=some l[k]:=by
 simp only[mixS]
 rw[List.getElem?_append_right (by simp;omega)]
 simp[Nat.min_eq_left (Nat.le_of_lt h),h]
theorem mixS_succ (k:Nat) (l:Str) (h:k<l.length):(mixS k l).set k (lowB l[k])=mixS (k+1) l:=by
 simp only[mixS]
 rw[List.set_append_right _ _ (by simp;omega),List.drop_eq_getElem_cons h]
 simp only[List.length_map,List.length_take,Nat.min_eq_left (Nat.le_of_lt h),Nat.sub_self,List.set_cons_zero]
 rw[List.take_succ_eq_append_getElem h,List.map_append]
 simp
theorem bytesV_mix_succ (k:Nat) (l:Str) (h:k<l.length) (v:Value) (hv:v= .int .u8 (lowB l[k]).toNat):(bytesV (mixS k l)).set k v=bytesV (mixS (k+1) l):=by
 subst hv
 unfold bytesV
 rw[←mixS_succ k l h,List.map_set]
theorem bytesV_mix_same (k:Nat) (l:Str) (h:k<l.length) (hv:((lowB l[k]).toNat:Int)=l[k].toNat):bytesV (mixS k l)=bytesV (mixS (k+1) l):=by
 rw[←bytesV_mix_succ k l h (.int .u8 l[k].toNat) (by rw[hv])]
 have hg:(bytesV (mixS k l))[k]?=some (.int .u8 l[k].toNat):=by simp[bytesV,mixS_get k l h]
 obtain⟨hk,he⟩:=List.getElem?_eq_some_iff.1 hg
 rw[←he,List.set_getElem_self]
theorem bytesV_mix_get (k:Nat) (l:Str) (h:k<l.length):(bytesV (mixS k l))[k]?=some (.int .u8 l[k].toNat):=by
 simp[bytesV,mixS_get k l h]
theorem small_any (s:ByteArray) (w:World) (hs:s.size≤maxLen) :
 Calls Tryz.prog 100 #[.string s] w fun e w'=>e= .returned (.string ⟨(lowS s.toList).toArray⟩)∧Below w.heap.size w w':=by
 obtain⟨c,W,hconv,hb,hsz,hrow,hcc⟩:=run_bytes_of (P:=Tryz.prog) w 9 54 5 s Tryz.underlying9 Tryz.underlying54 Tryz.underlying5
 have hsl:=size_toList s
 unfold maxLen at hs
 have HB:=Lib.hid hb
 have HR:=Lib.hid hrow
 have HZ:=Lib.hid hsz
 have HL:=Lib.hid hsl
 clear hb hrow hsz hsl
 go_enter Tryz.func100,Tryz.ntmps100
 go_wp2
 go_loopw [10] (fun i wr=> ∃k:Nat,k≤s.size∧i= .int .i64 k∧Below w.heap.size w wr∧w.heap.size<wr.heap.size∧Row wr w.heap.size (bytesV (mixS k s.toList))) (fun i _=>s.size-(intOf i).toNat)
 case atStart=>exact⟨0,Nat.zero_le _,rfl,HB.out,by rw[HZ.out];omega,by rw[mixS_zero];exact HR.out⟩
 case round =>
  obtain⟨k,hk,rfl,hb,hz,hr⟩:=hrel
  clear hconv HB HR HZ
  by_cases hlt:k<s.size
  ·have hkl:k<s.toList.length:=by rw[HL.out];exact hlt
   obtain⟨x,hx⟩: ∃x:Nat,x=s.toList[k].toNat:=⟨_,rfl⟩
   have hx255:x≤255:=by have:=s.toList[k].toNat_lt;omega
   have hcell:wr.cell? ⟨w.heap.size,k,none⟩=some (.int .u8 x):=by rw[hx];exact hr.cell (bytesV_mix_get k _ hkl)
   have hfz:wr.frozen? ⟨w.heap.size,k,none⟩=false:=hr.frozen (by rw[bytesV_length,mixS_length];exact hkl)
   have hl:=lowB_nat s.toList[k]
   rw[←hx]at hl
   have HX:=Lib.hid hl
   have HX2:=Lib.hid hx
   have HB:=Lib.hid hb
   have HR:=Lib.hid hr
   clear hl hx hb hr
   go_wp2
   ·go_roundw
    case rel =>
     exact⟨k+1,by omega,by go_num,HB.out.setCell (Nat.le_refl _) _,by rw[World.size_setCell];exact hz,by
      rw[←bytesV_mix_succ k _ hkl (.int .u8 (x+32)) (by rw[HX.out,if_pos ⟨by assumption,by assumption⟩])]
      exact HR.out.set k _⟩
    case measure=>simp[intOf];omega
   ·go_roundw
    case rel=>exact⟨k+1,by omega,by go_num,HB.out,hz,by rw[←bytesV_mix_same k _ hkl (by rw[HX.out,if_neg (by omega),HX2.out])];exact HR.out⟩
    case measure=>simp[intOf];omega
   ·go_roundw
    case rel=>exact⟨k+1,by omega,by go_num,HB.out,hz,by rw[←bytesV_mix_same k _ hkl (by rw[HX.out,if_neg (by omega),HX2.out])];exact HR.out⟩
    case measure=>simp[intOf];omega
  ·obtain rfl:k=s.size:=by omega
   have hback:=run_string_of (P:=Tryz.prog) wr 54 9 5 w.heap.size c (mixS s.size s.toList) s.size (by rw[mixS_length,HL.out]) Tryz.underlying54 Tryz.underlying5 Tryz.underlying9 hr
   have HB:=Lib.hid hb
   clear hb hr
   go_wp2
   go_ret
   refine⟨ret_string ?_,HB.out⟩
   rw[←HL.out,mixS_all]
def valueOf (l:List Pair) (name:ByteArray):ByteArray :=
 match l with
 | []=>⟨#[]⟩
 |p::r=>if p.1=name then p.2 else valueOf r name
theorem valueOf_step (l:List Pair) (name:ByteArray) (k:Nat) (h:k<l.length) (hne:l[k].1≠name):valueOf (l.drop k) name=valueOf (l.drop (k+1)) name:=by
 rw[List.drop_eq_getElem_cons h,valueOf,if_neg hne]
theorem valueOf_hit (l:List Pair) (name:ByteArray) (k:Nat) (h:k<l.length) (he:l[k].1=name):valueOf (l.drop k) name=l[k].2:=by
 rw[List.drop_eq_getElem_cons h,valueOf,if_pos he]
theorem value_any (l:List Pair) (name:ByteArray) (a:Option Addr) (c:Nat) (w:World) (hl:l.length≤maxLen) (ha:At w a (pairsV l)) :
 Calls Tryz.prog 101 #[.slice a l.length c,.string name] w fun e w'=>e= .returned (.string (valueOf l name))∧Below w.heap.size w w':=by
 unfold maxLen at hl
 have HA:=Lib.hid ha
 clear ha
 go_enter Tryz.func101,Tryz.ntmps101
 go_wp2
 go_loopw [9] (fun i wr=> ∃k:Nat,k≤l.length∧i= .int .i64 k∧Below w.heap.size w wr∧valueOf l name=valueOf (l.drop k) name) (fun i _=>l.length-(intOf i).toNat)
 case atStart=>exact⟨0,Nat.zero_le _,rfl,Below.refl _ _,rfl⟩
 case round =>
  obtain⟨k,hk,rfl,hb,hv⟩:=hrel
  have HV:=Lib.hid hv
  have HB:=Lib.hid hb
  by_cases hlt:k<l.length
  ·obtain⟨b,o,rfl,hlb,h1,h2⟩:=pair_cells (HA.out.below hb) hlt
   clear hv hb
   go_wp2
   ·go_ret
    refine⟨ret_string ?_,HB.out.alloc HB.out.size _⟩
    rw[HV.out,valueOf_hit l name k hlt (beqT ‹_›)]
   ·go_roundw
    case rel =>
     exact⟨k+1,by omega,by go_num,HB.out.alloc HB.out.size _,by
      rw[HV.out,valueOf_step l name k hlt (beqF ‹_›)]⟩
    case measure=>simp[intOf];omega
  ·clear hb hv
   go_wp2
   go_ret
   refine⟨ret_string ?_,HB.out⟩
   rw[HV.out,List.drop_of_length_le (by omega)]
   rfl
def isIn (l:List ByteArray) (word:ByteArray):Bool :=
 match l with
 | []=>false
 |x::r=>if x=word then true else isIn r word
def large (l:List ByteArray) (name:ByteArray):ByteArray :=
 match l with
 | []=>name
 |x::r=>if lowS x.toList=name.toList then x else large r name
theorem large_step (l:List ByteArray) (name:ByteArray) (k:Nat) (h:k<l.length) (hne:lowS l[k].toList≠name.toList):large (l.drop k) name=large (l.drop (k+1)) name:=by
 rw[List.drop_eq_getElem_cons h,large,if_neg hne]
theorem large_hit (l:List ByteArray) (name:ByteArray) (k:Nat) (h:k<l.length) (he:lowS l[k].toList=name.toList):large (l.drop k) name=l[k]:=by
 rw[List.drop_eq_getElem_cons h,large,if_pos he]
theorem written_any (name:ByteArray) (l:List ByteArray) (a:Option Addr) (c:Nat) (w:World) (hl:l.length≤maxLen) (hs: ∀i (h:i<l.length),l[i].size≤maxLen) (ha:At w a (strsV l)) :
 Calls Tryz.prog 156 #[.string name,.slice a l.length c] w fun e w'=>e= .returned (.string (large l name))∧Below w.heap.size w w':=by
 unfold maxLen at hl
 have HA:=Lib.hid ha
 have HS:=Lib.hid hs
 clear ha hs
 go_enter Tryz.func156,Tryz.ntmps156
 go_wp2
 go_loopw [9] (fun i wr=> ∃k:Nat,k≤l.length∧i= .int .i64 k∧Below w.heap.size w wr∧large l name=large (l.drop k) name) (fun i _=>l.length-(intOf i).toNat)
 case atStart=>exact⟨0,Nat.zero_le _,rfl,Below.refl _ _,rfl⟩
 case round =>
  obtain⟨k,hk,rfl,hb,hv⟩:=hrel
  have HV:=Lib.hid hv
  have HB:=Lib.hid hb
  by_cases hlt:k<l.length
  ·obtain⟨b,o,rfl,hlb,h1⟩:=str_cell (HA.out.below hb) hlt
   clear hv hb
   have hsz:=HS.out k hlt
   go_wp2_with (go_at_call 100;refine(small_any _ _ hsz).mono ?_;rintro e w1 ⟨rfl,hb1⟩;have HB1:=Lib.hid hb1;clear hb1 h1)
   ·go_ret
    refine⟨ret_string ?_,belowCall HB.out HB1.out⟩
    rw[HV.out,large_hit l name k hlt (beqL ‹_›)]
   ·go_roundw
    case rel =>
     exact⟨k+1,by omega,by go_num,belowCall HB.out HB1.out,by
      rw[HV.out,large_step l name k hlt (beqLF ‹_›)]⟩
    case measure=>simp[intOf];omega
  ·clear hb hv
   go_wp2
   go_ret
   refine⟨ret_string ?_,HB.out⟩
   rw[HV.out,List.drop_of_length_le (by omega)]
   rfl
def svgNames:List ByteArray:= [⟨#[97,108,116,71,108,121,112,104]⟩,⟨#[97,110,105,109,97,116,101,77,111,116,105,111,110]⟩,⟨#[97,110,105,109,97,116,101,84,114,97,110,115,102,111,114,109]⟩,⟨#[99,108,105,112,80,97,116,104]⟩,⟨#[102,101,71,97,117,115,115,105,97,110,66,108,117,114]⟩,⟨#[102,111,114,101,105,103,110,79,98,106,101,99,116]⟩,⟨#[103,108,121,112,104,82,101,102]⟩,⟨#[108,105,110,101,97,114,71,114,97,100,105,101,110,116]⟩,⟨#[114,97,100,105,97,108,71,114,97,100,105,101,110,116]⟩,⟨#[116,101,120,116,80,97,116,104]⟩]
def pageNames:List ByteArray:= [⟨#[102,111,114,101,105,103,110,79,98,106,101,99,116]⟩,⟨#[100,101,115,99]⟩,⟨#[116,105,116,108,101]⟩]
def textNames:List ByteArray:= [⟨#[109,105]⟩,⟨#[109,111]⟩,⟨#[109,110]⟩,⟨#[109,115]⟩,⟨#[109,116,101,120,116]⟩]
def encNames:List ByteArray:= [⟨#[116,101,120,116,47,104,116,109,108]⟩,⟨#[97,112,112,108,105,99,97,116,105,111,110,47,120,104,116,109,108,43,120,109,108]⟩]
def nameF (space:Int) (name:ByteArray):ByteArray:=if space=1 then large svgNames name else name
theorem name_any (space:Int) (name:ByteArray) (w:World) :
 Calls Tryz.prog 103 #[.int .i64 space,.string name] w fun e w'=>e= .returned (.string (nameF space name))∧Below w.heap.size w w':=by
 by_cases h:space=1
 ·subst h
  go_enter Tryz.func103,Tryz.ntmps103
  go_wp2_with (go_at_call 156;refine(written_any name svgNames _ _ _ (by decide) (by decide) (Row.alloc _ _ _).at).mono ?_;rintro e w1 ⟨rfl,hb1⟩;have HB1:=Lib.hid hb1;clear hb1)
  go_ret
  exact⟨ret_string rfl,belowCall ((Below.refl _ _).alloc (Nat.le_refl _) _) HB1.out⟩
 ·have h':(space==1)=false:=by simpa using h
  go_enter Tryz.func103,Tryz.ntmps103
  go_wp2
  go_ret
  exact⟨ret_string (by rw[nameF,if_neg h]),Below.refl _ _⟩
def pointF (space:Int) (name:ByteArray) (attrs:List Pair):Int :=
 if space=1 then(if isIn pageNames name then 2 else 0)
 else if space=2 then(if isIn textNames name then 1 else if name=(⟨#[97,110,110,111,116,97,116,105,111,110,45,120,109,108]⟩:ByteArray)then(if isIn encNames ⟨(lowS (valueOf attrs (⟨#[101,110,99,111,100,105,110,103]⟩:ByteArray)).toList).toArray⟩then 2 else 0)else 0)
 else 0
theorem eq_mk_iff (l:Str) (b:ByteArray):(b=(⟨l.toArray⟩:ByteArray))↔(b.toList=l) :=
 ⟨fun h=>by subst h;simp,fun h=>toList_inj (by simpa using h)⟩
theorem isIn_mem {names:List ByteArray} {x:ByteArray} (h:isIn names x=true):x∈names:=by
 induction names with
 |nil=>simp[isIn]at h
 |cons y r ih =>
  rw[isIn]at h
  split at h
  ·rename_i e;subst e;exact List.mem_cons_self
  ·exact List.mem_cons_of_mem _ (ih h)
theorem isIn_no {names:List ByteArray} {L:Str} (h:isIn names ⟨L.toArray⟩=false) (l:Str) (hm:isIn names ⟨l.toArray⟩=true):(L==l)=false:=by
 rw[beq_eq_false_iff_ne]
 intro e
 subst e
 rw[hm]at h
 cases h
theorem isIn_mk (names:List ByteArray) (x:ByteArray):isIn names x=isIn names ⟨x.toList.toArray⟩:=by rw[mk_toList]
theorem point_any (space:Int) (name:ByteArray) (attrs:List Pair) (a:Option Addr) (c:Nat) (w:World) (hl:attrs.length≤maxLen) (hs:(valueOf attrs (⟨#[101,110,99,111,100,105,110,103]⟩:ByteArray)).size≤maxLen) (ha:At w a (pairsV attrs)) :
 Calls Tryz.prog 62 #[.int .i64 space,.string name,.slice a attrs.length c] w fun e w'=>e= .returned (.int .i64 (pointF space name attrs))∧Below w.heap.size w w':=by
 have HA:=Lib.hid ha
 clear ha
 by_cases h1:space=1
 ·subst h1
  clear hl hs
  by_cases hin:isIn pageNames name=true
  ·have HP:Hid (pointF 1 name attrs=2):=by show pointF 1 name attrs=2;simp[pointF,hin]
   have h:=isIn_mem hin
   clear hin
   simp only[pageNames,List.mem_cons,List.not_mem_nil,or_false,eq_mk_iff]at h
   rcases h with h|h|h
   all_goals
    go_enter Tryz.func62,Tryz.ntmps62
    go_wp2_with fail
    go_ret
    exact⟨ret_int HP.out.symm,Below.refl _ _⟩
  ·have hin':isIn pageNames name=false:=by simpa using hin
   have HP:Hid (pointF 1 name attrs=0):=by show pointF 1 name attrs=0;simp[pointF,hin']
   rw[isIn_mk]at hin'
   have no0:(name.toList== [102,111,114,101,105,103,110,79,98,106,101,99,116])=false:=isIn_no hin' [102,111,114,101,105,103,110,79,98,106,101,99,116] (by decide);have no1:(name.toList== [100,101,115,99])=false:=isIn_no hin' [100,101,115,99] (by decide);have no2:(name.toList== [116,105,116,108,101])=false:=isIn_no hin' [116,105,116,108,101] (by decide)
   clear hin hin'
   go_enter Tryz.func62,Tryz.ntmps62
   go_wp2_with fail
   go_ret
   exact⟨ret_int HP.out.symm,Below.refl _ _⟩
 ·by_cases h2:space=2
  ·subst h2
   clear h1
   by_cases hin:isIn textNames name=true
   ·have HP:Hid (pointF 2 name attrs=1):=by show pointF 2 name attrs=1;simp[pointF,hin]
    have h:=isIn_mem hin
    clear hin hl hs
    simp only[textNames,List.mem_cons,List.not_mem_nil,or_false,eq_mk_iff]at h
    rcases h with h|h|h|h|h
    all_goals
     go_enter Tryz.func62,Tryz.ntmps62
     go_wp2_with fail
     go_ret
     exact⟨ret_int HP.out.symm,Below.refl _ _⟩
   ·have hin':isIn textNames name=false:=by simpa using hin
    have HI:=Lib.hid hin'
    rw[isIn_mk]at hin'
    have no0:(name.toList== [109,105])=false:=isIn_no hin' [109,105] (by decide);have no1:(name.toList== [109,111])=false:=isIn_no hin' [109,111] (by decide);have no2:(name.toList== [109,110])=false:=isIn_no hin' [109,110] (by decide);have no3:(name.toList== [109,115])=false:=isIn_no hin' [109,115] (by decide);have no4:(name.toList== [109,116,101,120,116])=false:=isIn_no hin' [109,116,101,120,116] (by decide)
    clear hin hin'
    by_cases han:name=(⟨#[97,110,110,111,116,97,116,105,111,110,45,120,109,108]⟩:ByteArray)
    ·have han':name.toList=([97,110,110,111,116,97,116,105,111,110,45,120,109,108]:List UInt8):=(eq_mk_iff _ _).1 han
     have HN:=Lib.hid han
     clear han
     by_cases hen:isIn encNames ⟨(lowS (valueOf attrs (⟨#[101,110,99,111,100,105,110,103]⟩:ByteArray)).toList).toArray⟩=true
     ·have HP:Hid (pointF 2 name attrs=2):=by show pointF 2 name attrs=2;rw[pointF,if_neg (by decide),if_pos rfl,HI.out,if_neg (by decide),if_pos HN.out,hen];rfl
      have h:=isIn_mem hen
      clear hen
      simp only[encNames,List.mem_cons,List.not_mem_nil,or_false,eq_mk_iff,ByteArray.toList_mk]at h
      rcases h with h|h
      all_goals
       go_enter Tryz.func62,Tryz.ntmps62
       go_wp2_with (first|(go_at_call 101;refine(value_any attrs _ _ _ _ hl HA.out).mono ?_;rintro e w1 ⟨rfl,hb1⟩;have HB1:=Lib.hid hb1;clear hb1)|(go_at_call 100;refine(small_any _ _ hs).mono ?_;rintro e w2 ⟨rfl,hb2⟩;have HB2:=Lib.hid hb2;clear hb2))
       go_ret
       exact⟨ret_int HP.out.symm,belowCall HB1.out HB2.out⟩
     ·have hen':isIn encNames ⟨(lowS (valueOf attrs (⟨#[101,110,99,111,100,105,110,103]⟩:ByteArray)).toList).toArray⟩=false:=by simpa using hen
      have HP:Hid (pointF 2 name attrs=0):=by show pointF 2 name attrs=0;rw[pointF,if_neg (by decide),if_pos rfl,HI.out,if_neg (by decide),if_pos HN.out,hen'];rfl
      have HE:=Lib.hid hen'
      clear hen hen'
      have ne0:(lowS (valueOf attrs ⟨#[101,110,99,111,100,105,110,103]⟩).toList== [116,101,120,116,47,104,116,109,108])=false:=isIn_no HE.out [116,101,120,116,47,104,116,109,108] (by decide);have ne1:(lowS (valueOf attrs ⟨#[101,110,99,111,100,105,110,103]⟩).toList== [97,112,112,108,105,99,97,116,105,111,110,47,120,104,116,109,108,43,120,109,108])=false:=isIn_no HE.out [97,112,112,108,105,99,97,116,105,111,110,47,120,104,116,109,108,43,120,109,108] (by decide)
      go_enter Tryz.func62,Tryz.ntmps62
      go_wp2_with (first|(go_at_call 101;refine(value_any attrs _ _ _ _ hl HA.out).mono ?_;rintro e w1 ⟨rfl,hb1⟩;have HB1:=Lib.hid hb1;clear hb1)|(go_at_call 100;refine(small_any _ _ hs).mono ?_;rintro e w2 ⟨rfl,hb2⟩;have HB2:=Lib.hid hb2;clear hb2))
      go_ret
      exact⟨ret_int HP.out.symm,belowCall HB1.out HB2.out⟩
    ·have han':(name.toList==([97,110,110,111,116,97,116,105,111,110,45,120,109,108]:List UInt8))=false:=by rw[beq_eq_false_iff_ne];exact fun e=>han ((eq_mk_iff _ _).2 e)
     have HP:Hid (pointF 2 name attrs=0):=by show pointF 2 name attrs=0;rw[pointF,if_neg (by decide),if_pos rfl,HI.out,if_neg (by decide),if_neg han]
     clear han hl hs
     go_enter Tryz.func62,Tryz.ntmps62
     go_wp2_with fail
     go_ret
     exact⟨ret_int HP.out.symm,Below.refl _ _⟩
  ·have h1':(space==1)=false:=by simpa using h1
   have h2':(space==2)=false:=by simpa using h2
   go_enter Tryz.func62,Tryz.ntmps62
   go_wp2_with fail
   go_ret
   exact⟨ret_int (by rw[pointF,if_neg h1,if_neg h2]),Below.refl _ _⟩
def svgAttrs:List ByteArray:= [⟨#[97,116,116,114,105,98,117,116,101,78,97,109,101]⟩,⟨#[103,114,97,100,105,101,110,116,84,114,97,110,115,102,111,114,109]⟩,⟨#[103,114,97,100,105,101,110,116,85,110,105,116,115]⟩,⟨#[112,97,116,104,76,101,110,103,116,104]⟩,⟨#[112,97,116,116,101,114,110,85,110,105,116,115]⟩,⟨#[112,114,101,115,101,114,118,101,65,115,112,101,99,116,82,97,116,105,111]⟩,⟨#[114,101,102,88]⟩,⟨#[114,101,102,89]⟩,⟨#[115,116,100,68,101,118,105,97,116,105,111,110]⟩,⟨#[116,101,120,116,76,101,110,103,116,104]⟩,⟨#[118,105,101,119,66,111,120]⟩]
def mathAttrs:List ByteArray:= [⟨#[100,101,102,105,110,105,116,105,111,110,85,82,76]⟩]
def wordsOf (space:Int):List ByteArray:=if space=1 then svgAttrs else if space=2 then mathAttrs else []
def adjust (words:List ByteArray) (p:Pair):Pair:=(large words p.1,p.2)
def attrsF (space:Int) (l:List Pair):List Pair:=l.map (adjust (wordsOf space))
theorem info_attr:(Tryz.prog.info? 57).map (fun i=>(i.zero,i.size,i.bytes))=some (some (.agg #[.string ⟨#[]⟩,.string ⟨#[]⟩]),2,32):=by kernel_rfl
theorem cell_next {X:Array Value} {e:TypeId} {j:Nat} {v:Value} (w:World) (h:X[j]?=some v):(w.alloc (.cells X e)).drew.cell? ⟨w.heap.size,j,none⟩=some v:=by
 rw[World.cell?_drew,World.cell?_alloc_new];exact h
theorem cell_old {w:World} {o:Obj} {b j:Nat} {v:Value} (hb:b<w.heap.size) (h:w.cell? ⟨b,j,none⟩=some v):(w.alloc o).drew.cell? ⟨b,j,none⟩=some v:=by
 rw[World.cell?_drew,World.cell?_alloc_past _ _ _ hb];exact h
theorem froz_old {w wx:World} {o:Obj} {b j:Nat} (hx:Below (w.alloc o).drew.heap.size (w.alloc o).drew wx) (hb:b<w.heap.size) (h:w.frozen? ⟨b,j,none⟩=false):wx.frozen? ⟨b,j,none⟩=false:=by
 rw[hx.frozen (p:=⟨b,j,none⟩) (by simp;omega),World.frozen?_drew,World.frozen?_alloc_past _ _ _ hb];exact h
def part (words:List ByteArray) (l:List Pair) (k:Nat):List Pair:=(l.take k).map (adjust words)++blanks (l.length-k)
theorem part_zero (words:List ByteArray) (l:List Pair):part words l 0=blanks l.length:=by simp[part]
theorem part_all (words:List ByteArray) (l:List Pair):part words l l.length=l.map (adjust words):=by simp[part,blanks]
theorem part_length (words:List ByteArray) (l:List Pair) (k:Nat) (h:k≤l.length):(part words l k).length=l.length:=by simp[part,blanks];omega
theorem part_succ (words:List ByteArray) (l:List Pair) (k:Nat) (h:k<l.length):(part words l k).set k (adjust words l[k])=part words l (k+1):=by
 simp only[part,blanks]
 rw[List.set_append_right _ _ (by simp;omega)]
 simp only[List.length_map,List.length_take,Nat.min_eq_left (Nat.le_of_lt h),Nat.sub_self]
 rw[show l.length-k=(l.length-(k+1))+1 from by omega,List.replicate_succ,List.set_cons_zero,List.take_succ_eq_append_getElem h,List.map_append]
 simp
theorem part_step (words:List ByteArray) (l:List Pair) (k:Nat) (h:k<l.length):((pairsV (part words l k)).set (k*2) (.string (large words l[k].1))).set (k*2+1) (.string l[k].2)=pairsV (part words l (k+1)):=by
 have h2:=pairsV_set (part words l k) k (adjust words l[k])
 rw[part_succ words l k h]at h2
 exact h2
theorem attrs_svg (l:List Pair) (a:Option Addr) (c:Nat) (w:World) (hl:l.length≤2097152) (ha:At w a (pairsV l)) :
 Calls Tryz.prog 104 #[.int .i64 1,.slice a l.length c] w fun e w'=> ∃v,e= .returned v∧w'.ownsRow w.heap.size 57 2 v l.length (pairsV (attrsF 1 l))∧Below w.heap.size w w':=by
 obtain⟨i0,hi,hz0,hz1,hz2⟩:=info_parts info_attr
 have HA:=Lib.hid ha
 clear ha
 go_enter Tryz.func104,Tryz.ntmps104
 have hb2:i0.bytes*l.length≤281474976710656:=by rw[hz2];omega
 have hb3:l.length≤maxLen:=by unfold maxLen;omega
 go_wp2_with (at_make;refine wpList_make_full _ rfl _ _ 23 rfl w.heap.size 57 i0 _ 2 Tryz.underlying23 hi hz0 hz1 .i64 .i64 (l.length:Int) (l.length:Int) l.length rfl rfl rfl rfl hb2 hb3 (by simp) ?_;intro w1 hown hgr;have HO:=Lib.hid hown;have HG:=Lib.hid hgr;clear hown hgr hi hz0 hz1 hz2 hb2 hb3)
 go_loopw [21] (fun i wr=> ∃k:Nat,k≤l.length∧i= .int .i64 k∧Below w.heap.size w wr∧Row wr w.heap.size (strsV svgAttrs)∧wr.ownsRow w.heap.size 57 2 (.slice (some ⟨w.heap.size+1,0,none⟩) l.length l.length) l.length (pairsV (part (svgAttrs) l k))) (fun i _=>l.length-(intOf i).toNat)
 case atStart =>
  refine⟨0,Nat.zero_le _,rfl,((Below.refl _ _).alloc (Nat.le_refl _) _).grown HG.out (by simp) (fun k h=>by cases h),(Row.alloc w _ _).kept (HG.out.block _ (by simp) (by simp)),?_⟩
  rw[part_zero,←made_pairs]
  have h:=HO.out
  simp only[World.size_alloc,Value.cells]at h
  exact h
 case round =>
  obtain⟨k,hk,rfl,hb,hwd,ho⟩:=hrel
  clear HO HG
  have HB:=Lib.hid hb
  have HW:=Lib.hid hwd
  have HO:=Lib.hid ho
  by_cases hlt:k<l.length
  ·obtain⟨b,o,rfl,hlb,h1,h2⟩:=pair_cells (HA.out.below hb) hlt
   have hn:(part (svgAttrs) l k).length=l.length:=part_length _ l k hk
   have hkp:k<(part (svgAttrs) l k).length:=by rw[hn];exact hlt
   have g1:wr.cell? ⟨w.heap.size+1,k*2,none⟩=some (.string (part (svgAttrs) l k)[k].1):=(own_row ho).cell (pairsV_get0 _ k hkp)
   have g2:wr.cell? ⟨w.heap.size+1,k*2+1,none⟩=some (.string (part (svgAttrs) l k)[k].2):=(own_row ho).cell (pairsV_get1 _ k hkp)
   have f1:wr.frozen? ⟨w.heap.size+1,k*2,none⟩=false:=ho.frozenAt _
   have f2:wr.frozen? ⟨w.heap.size+1,k*2+1,none⟩=false:=ho.frozenAt _
   have hg:=(own_row ho).lt
   have HN:=Lib.hid hn
   clear hb hwd ho hn
   go_wp2_with fail
   go_region_with (go_at_call 156;refine(written_any _ (svgAttrs) _ _ _ (by decide) (by decide) ?_).mono ?_;(exact(HW.out.below (((Below.refl _ _).alloc (Nat.le_refl _) _).drew) HW.out.lt).at);rintro e wx ⟨rfl,hbx⟩;have p0:=cell_later hbx (cell_next (X:= #[.string l[k].1,.string l[k].2]) (e:=57) (j:=1) (v:= .string l[k].2) wr rfl);have p1:=cell_later hbx (cell_old (o:= .cells #[.string l[k].1,.string l[k].2] 57) hg g1);have p2:=cell_later hbx (cell_old (o:= .cells #[.string l[k].1,.string l[k].2] 57) hg g2);have p3:=froz_old (o:= .cells #[.string l[k].1,.string l[k].2] 57) hbx hg f1;have p4:=froz_old (o:= .cells #[.string l[k].1,.string l[k].2] 57) hbx hg f2;have hzx:wr.heap.size<wx.heap.size:=(by have hz0:=hbx.size;simp at hz0;omega);have HX:=Lib.hid hbx;clear hbx)
   all_goals
    go_wp2
    go_roundw
    case rel =>
     have hB:=belowCall ((HB.out.alloc HB.out.size (.cells #[.string l[k].1,.string l[k].2] 57)).drew) HX.out
     have hO:=own_below (own_below HO.out (((Below.refl _ _).alloc (Nat.le_refl _) (.cells #[.string l[k].1,.string l[k].2] 57)).drew)) HX.out
     have hR:=HW.out.below (((Below.refl _ _).alloc (Nat.le_refl _) (.cells #[.string l[k].1,.string l[k].2] 57)).drew) HW.out.lt
     have hR':=hR.below HX.out hR.lt
     refine⟨k+1,by omega,by go_num,(hB.setCell (by simp) _).setCell (by simp) _,?_,?_⟩
     ·exact(hR'.kept (heap_setCell_other _ _ _ _ (by simp))).kept (heap_setCell_other _ _ _ _ (by simp))
     ·have hS:=((hO.stored (k*2) (.string (large svgAttrs l[k].1))).1.stored (k*2+1) (.string l[k].2)).1
      rw[part_step svgAttrs l k hlt]at hS
      exact hS
    case measure=>simp[intOf];omega
  ·obtain rfl:k=l.length:=by omega
   clear hb hwd ho
   go_wp2_with fail
   go_ret
   exact⟨_,rfl,by have:=HO.out;rw[part_all]at this;exact this,HB.out⟩
theorem attrs_math (l:List Pair) (a:Option Addr) (c:Nat) (w:World) (hl:l.length≤2097152) (ha:At w a (pairsV l)) :
 Calls Tryz.prog 104 #[.int .i64 2,.slice a l.length c] w fun e w'=> ∃v,e= .returned v∧w'.ownsRow w.heap.size 57 2 v l.length (pairsV (attrsF 2 l))∧Below w.heap.size w w':=by
 obtain⟨i0,hi,hz0,hz1,hz2⟩:=info_parts info_attr
 have HA:=Lib.hid ha
 clear ha
 go_enter Tryz.func104,Tryz.ntmps104
 have hb2:i0.bytes*l.length≤281474976710656:=by rw[hz2];omega
 have hb3:l.length≤maxLen:=by unfold maxLen;omega
 go_wp2_with (at_make;refine wpList_make_full _ rfl _ _ 23 rfl w.heap.size 57 i0 _ 2 Tryz.underlying23 hi hz0 hz1 .i64 .i64 (l.length:Int) (l.length:Int) l.length rfl rfl rfl rfl hb2 hb3 (by simp) ?_;intro w1 hown hgr;have HO:=Lib.hid hown;have HG:=Lib.hid hgr;clear hown hgr hi hz0 hz1 hz2 hb2 hb3)
 go_loopw [21] (fun i wr=> ∃k:Nat,k≤l.length∧i= .int .i64 k∧Below w.heap.size w wr∧Row wr w.heap.size (strsV mathAttrs)∧wr.ownsRow w.heap.size 57 2 (.slice (some ⟨w.heap.size+1,0,none⟩) l.length l.length) l.length (pairsV (part (mathAttrs) l k))) (fun i _=>l.length-(intOf i).toNat)
 case atStart =>
  refine⟨0,Nat.zero_le _,rfl,((Below.refl _ _).alloc (Nat.le_refl _) _).grown HG.out (by simp) (fun k h=>by cases h),(Row.alloc w _ _).kept (HG.out.block _ (by simp) (by simp)),?_⟩
  rw[part_zero,←made_pairs]
  have h:=HO.out
  simp only[World.size_alloc,Value.cells]at h
  exact h
 case round =>
  obtain⟨k,hk,rfl,hb,hwd,ho⟩:=hrel
  clear HO HG
  have HB:=Lib.hid hb
  have HW:=Lib.hid hwd
  have HO:=Lib.hid ho
  by_cases hlt:k<l.length
  ·obtain⟨b,o,rfl,hlb,h1,h2⟩:=pair_cells (HA.out.below hb) hlt
   have hn:(part (mathAttrs) l k).length=l.length:=part_length _ l k hk
   have hkp:k<(part (mathAttrs) l k).length:=by rw[hn];exact hlt
   have g1:wr.cell? ⟨w.heap.size+1,k*2,none⟩=some (.string (part (mathAttrs) l k)[k].1):=(own_row ho).cell (pairsV_get0 _ k hkp)
   have g2:wr.cell? ⟨w.heap.size+1,k*2+1,none⟩=some (.string (part (mathAttrs) l k)[k].2):=(own_row ho).cell (pairsV_get1 _ k hkp)
   have f1:wr.frozen? ⟨w.heap.size+1,k*2,none⟩=false:=ho.frozenAt _
   have f2:wr.frozen? ⟨w.heap.size+1,k*2+1,none⟩=false:=ho.frozenAt _
   have hg:=(own_row ho).lt
   have HN:=Lib.hid hn
   clear hb hwd ho hn
   go_wp2_with fail
   go_region_with (go_at_call 156;refine(written_any _ (mathAttrs) _ _ _ (by decide) (by decide) ?_).mono ?_;(exact(HW.out.below (((Below.refl _ _).alloc (Nat.le_refl _) _).drew) HW.out.lt).at);rintro e wx ⟨rfl,hbx⟩;have p0:=cell_later hbx (cell_next (X:= #[.string l[k].1,.string l[k].2]) (e:=57) (j:=1) (v:= .string l[k].2) wr rfl);have p1:=cell_later hbx (cell_old (o:= .cells #[.string l[k].1,.string l[k].2] 57) hg g1);have p2:=cell_later hbx (cell_old (o:= .cells #[.string l[k].1,.string l[k].2] 57) hg g2);have p3:=froz_old (o:= .cells #[.string l[k].1,.string l[k].2] 57) hbx hg f1;have p4:=froz_old (o:= .cells #[.string l[k].1,.string l[k].2] 57) hbx hg f2;have hzx:wr.heap.size<wx.heap.size:=(by have hz0:=hbx.size;simp at hz0;omega);have HX:=Lib.hid hbx;clear hbx)
   all_goals
    go_wp2
    go_roundw
    case rel =>
     have hB:=belowCall ((HB.out.alloc HB.out.size (.cells #[.string l[k].1,.string l[k].2] 57)).drew) HX.out
     have hO:=own_below (own_below HO.out (((Below.refl _ _).alloc (Nat.le_refl _) (.cells #[.string l[k].1,.string l[k].2] 57)).drew)) HX.out
     have hR:=HW.out.below (((Below.refl _ _).alloc (Nat.le_refl _) (.cells #[.string l[k].1,.string l[k].2] 57)).drew) HW.out.lt
     have hR':=hR.below HX.out hR.lt
     refine⟨k+1,by omega,by go_num,(hB.setCell (by simp) _).setCell (by simp) _,?_,?_⟩
     ·exact(hR'.kept (heap_setCell_other _ _ _ _ (by simp))).kept (heap_setCell_other _ _ _ _ (by simp))
     ·have hS:=((hO.stored (k*2) (.string (large mathAttrs l[k].1))).1.stored (k*2+1) (.string l[k].2)).1
      rw[part_step mathAttrs l k hlt]at hS
      exact hS
    case measure=>simp[intOf];omega
  ·obtain rfl:k=l.length:=by omega
   clear hb hwd ho
   go_wp2_with fail
   go_ret
   exact⟨_,rfl,by have:=HO.out;rw[part_all]at this;exact this,HB.out⟩
theorem attrs_other (space:Int) (h1:(space==1)=false) (h2':(space==2)=false) (l:List Pair) (a:Option Addr) (c:Nat) (w:World) (hl:l.length≤2097152) (ha:At w a (pairsV l)) :
 Calls Tryz.prog 104 #[.int .i64 space,.slice a l.length c] w fun e w'=> ∃v,e= .returned v∧w'.ownsRow w.heap.size 57 2 v l.length (pairsV (attrsF space l))∧Below w.heap.size w w':=by
 have HE:Hid (attrsF space l=l.map (adjust [])):=by show _=_;rw[attrsF,wordsOf,if_neg (by simpa using h1),if_neg (by simpa using h2')]
 obtain⟨i0,hi,hz0,hz1,hz2⟩:=info_parts info_attr
 have HA:=Lib.hid ha
 clear ha
 go_enter Tryz.func104,Tryz.ntmps104
 have hb2:i0.bytes*l.length≤281474976710656:=by rw[hz2];omega
 have hb3:l.length≤maxLen:=by unfold maxLen;omega
 go_wp2_with (at_make;refine wpList_make_full _ rfl _ _ 23 rfl w.heap.size 57 i0 _ 2 Tryz.underlying23 hi hz0 hz1 .i64 .i64 (l.length:Int) (l.length:Int) l.length rfl rfl rfl rfl hb2 hb3 (by simp) ?_;intro w1 hown hgr;have HO:=Lib.hid hown;have HG:=Lib.hid hgr;clear hown hgr hi hz0 hz1 hz2 hb2 hb3)
 go_loopw [21] (fun i wr=> ∃k:Nat,k≤l.length∧i= .int .i64 k∧Below w.heap.size w wr∧wr.ownsRow w.heap.size 57 2 (.slice (some ⟨w.heap.size,0,none⟩) l.length l.length) l.length (pairsV (part (([]:List ByteArray)) l k))) (fun i _=>l.length-(intOf i).toNat)
 case atStart =>
  refine⟨0,Nat.zero_le _,rfl,(Below.refl _ _).grown HG.out (by simp) (fun k h=>by cases h),?_⟩
  rw[part_zero,←made_pairs]
  have h:=HO.out
  simp only[Value.cells]at h
  exact h
 case round =>
  obtain⟨k,hk,rfl,hb,ho⟩:=hrel
  clear HO HG
  have HB:=Lib.hid hb
  have HO:=Lib.hid ho
  by_cases hlt:k<l.length
  ·obtain⟨b,o,rfl,hlb,h1,h2⟩:=pair_cells (HA.out.below hb) hlt
   have hn:(part (([]:List ByteArray)) l k).length=l.length:=part_length _ l k hk
   have hkp:k<(part (([]:List ByteArray)) l k).length:=by rw[hn];exact hlt
   have g1:wr.cell? ⟨w.heap.size,k*2,none⟩=some (.string (part (([]:List ByteArray)) l k)[k].1):=(own_row ho).cell (pairsV_get0 _ k hkp)
   have g2:wr.cell? ⟨w.heap.size,k*2+1,none⟩=some (.string (part (([]:List ByteArray)) l k)[k].2):=(own_row ho).cell (pairsV_get1 _ k hkp)
   have f1:wr.frozen? ⟨w.heap.size,k*2,none⟩=false:=ho.frozenAt _
   have f2:wr.frozen? ⟨w.heap.size,k*2+1,none⟩=false:=ho.frozenAt _
   have hg:=(own_row ho).lt
   have HN:=Lib.hid hn
   clear hb ho hn
   go_wp2_with fail
   go_region_with (go_at_call 156;refine(written_any _ (([]:List ByteArray)) _ _ _ (by decide) (by decide) ?_).mono ?_;(exact At.nil _ _);rintro e wx ⟨rfl,hbx⟩;have p0:=cell_later hbx (cell_next (X:= #[.string l[k].1,.string l[k].2]) (e:=57) (j:=1) (v:= .string l[k].2) wr rfl);have p1:=cell_later hbx (cell_old (o:= .cells #[.string l[k].1,.string l[k].2] 57) hg g1);have p2:=cell_later hbx (cell_old (o:= .cells #[.string l[k].1,.string l[k].2] 57) hg g2);have p3:=froz_old (o:= .cells #[.string l[k].1,.string l[k].2] 57) hbx hg f1;have p4:=froz_old (o:= .cells #[.string l[k].1,.string l[k].2] 57) hbx hg f2;have hzx:wr.heap.size<wx.heap.size:=(by have hz0:=hbx.size;simp at hz0;omega);have HX:=Lib.hid hbx;clear hbx)
   all_goals
    go_wp2
    go_roundw
    case rel =>
     have hB:=belowCall ((HB.out.alloc HB.out.size (.cells #[.string l[k].1,.string l[k].2] 57)).drew) HX.out
     have hO:=own_below (own_below HO.out (((Below.refl _ _).alloc (Nat.le_refl _) (.cells #[.string l[k].1,.string l[k].2] 57)).drew)) HX.out
     refine⟨k+1,by omega,by go_num,(hB.setCell (by simp) _).setCell (by simp) _,?_⟩
     ·have hS:=((hO.stored (k*2) (.string (large ([]:List ByteArray) l[k].1))).1.stored (k*2+1) (.string l[k].2)).1
      rw[part_step ([]:List ByteArray) l k hlt]at hS
      exact hS
    case measure=>simp[intOf];omega
  ·obtain rfl:k=l.length:=by omega
   clear hb ho
   go_wp2_with fail
   go_ret
   exact⟨_,rfl,by have:=HO.out;rw[part_all,←HE.out]at this;exact this,HB.out⟩
theorem attrs_any (space:Int) (l:List Pair) (a:Option Addr) (c:Nat) (w:World) (hl:l.length≤2097152) (ha:At w a (pairsV l)) :
 Calls Tryz.prog 104 #[.int .i64 space,.slice a l.length c] w fun e w'=> ∃v,e= .returned v∧w'.ownsRow w.heap.size 57 2 v l.length (pairsV (attrsF space l))∧Below w.heap.size w w':=by
 by_cases h1:space=1
 ·subst h1;exact attrs_svg l a c w hl ha
 ·by_cases h2:space=2
  ·subst h2;exact attrs_math l a c w hl ha
  ·exact attrs_other space (by simpa using h1) (by simpa using h2) l a c w hl ha
theorem valueOf_size (attrs:List Pair) (n:ByteArray) (hs: ∀p∈attrs,p.2.size≤maxLen):(valueOf attrs n).size≤maxLen:=by
 induction attrs with
 |nil=>rw[valueOf];decide
 |cons p r ih =>
  rw[valueOf]
  split
  ·exact hs p List.mem_cons_self
  ·exact ih fun q hq=>hs q (List.mem_cons_of_mem _ hq)
end Go.Proofs.YtgepobccoffnaaaGreatDoor
