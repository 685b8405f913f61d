/- Texts joined for a claim: OpenRS: plain laws and contracts. No conditions beyond those that each lemma types. -/
import Derived.Test.YtgepobccoffnaaaGreatDoorT01
import Derived.Test.YtgepobccoffnaaaGreatDoorT02
import Derived.Test.YtgepobccoffnaaaGreatDoorT04
import Derived.Test.YtgepobccoffnaaaGreatDoorT05
import Derived.Test.YtgepobccoffnaaaGreatDoorT06
import Derived.Deep.DeepMust
import Derived.Deep.RegionLaw
import Derived.Shelf.Abstract
import Derived.Test.YtgepobccoffnaaaGreatDoorRows
set_option linter.unusedVariables false
set_option linter.unusedSimpArgs false
set_option maxRecDepth 100000
set_option maxHeartbeats 8000000
section
namespace Go.Proofs.YtgepobccoffnaaaGreatDoor
open Go.RowKit Mem
def voidNames:List ByteArray:= [⟨#[97,114,101,97]⟩,⟨#[98,97,115,101]⟩,⟨#[98,97,115,101,102,111,110,116]⟩,⟨#[98,103,115,111,117,110,100]⟩,⟨#[98,114]⟩,⟨#[99,111,108]⟩,⟨#[101,109,98,101,100]⟩,⟨#[102,114,97,109,101]⟩,⟨#[104,114]⟩,⟨#[105,109,103]⟩,⟨#[105,110,112,117,116]⟩,⟨#[107,101,121,103,101,110]⟩,⟨#[108,105,110,107]⟩,⟨#[109,101,116,97]⟩,⟨#[112,97,114,97,109]⟩,⟨#[115,111,117,114,99,101]⟩,⟨#[116,114,97,99,107]⟩,⟨#[119,98,114]⟩]
def specNames:List ByteArray:= [⟨#[97,100,100,114,101,115,115]⟩,⟨#[97,112,112,108,101,116]⟩,⟨#[97,114,116,105,99,108,101]⟩,⟨#[97,115,105,100,101]⟩,⟨#[98,108,111,99,107,113,117,111,116,101]⟩,⟨#[98,111,100,121]⟩,⟨#[98,117,116,116,111,110]⟩,⟨#[99,97,112,116,105,111,110]⟩,⟨#[99,101,110,116,101,114]⟩,⟨#[99,111,108,103,114,111,117,112]⟩,⟨#[100,100]⟩,⟨#[100,101,116,97,105,108,115]⟩,⟨#[100,105,114]⟩,⟨#[100,105,118]⟩,⟨#[100,108]⟩,⟨#[100,116]⟩,⟨#[102,105,101,108,100,115,101,116]⟩,⟨#[102,105,103,99,97,112,116,105,111,110]⟩,⟨#[102,105,103,117,114,101]⟩,⟨#[102,111,111,116,101,114]⟩,⟨#[102,111,114,109]⟩,⟨#[104,49]⟩,⟨#[104,50]⟩,⟨#[104,51]⟩,⟨#[104,52]⟩,⟨#[104,53]⟩,⟨#[104,54]⟩,⟨#[104,101,97,100]⟩,⟨#[104,101,97,100,101,114]⟩,⟨#[104,116,109,108]⟩,⟨#[105,102,114,97,109,101]⟩,⟨#[108,105]⟩,⟨#[108,105,115,116,105,110,103]⟩,⟨#[109,97,105,110]⟩,⟨#[109,97,114,113,117,101,101]⟩,⟨#[109,101,110,117]⟩,⟨#[110,97,118]⟩,⟨#[110,111,101,109,98,101,100]⟩,⟨#[110,111,102,114,97,109,101,115]⟩,⟨#[111,98,106,101,99,116]⟩,⟨#[111,108]⟩,⟨#[112]⟩,⟨#[112,114,101]⟩,⟨#[115,99,114,105,112,116]⟩,⟨#[115,101,99,116,105,111,110]⟩,⟨#[115,101,108,101,99,116]⟩,⟨#[115,116,121,108,101]⟩,⟨#[115,117,109,109,97,114,121]⟩,⟨#[116,97,98,108,101]⟩,⟨#[116,98,111,100,121]⟩,⟨#[116,100]⟩,⟨#[116,101,120,116,97,114,101,97]⟩,⟨#[116,102,111,111,116]⟩,⟨#[116,104]⟩,⟨#[116,104,101,97,100]⟩,⟨#[116,105,116,108,101]⟩,⟨#[116,114]⟩,⟨#[117,108]⟩,⟨#[120,109,112]⟩]
def mathNames:List ByteArray:= [⟨#[109,105]⟩,⟨#[109,111]⟩,⟨#[109,110]⟩,⟨#[109,115]⟩,⟨#[109,116,101,120,116]⟩,⟨#[97,110,110,111,116,97,116,105,111,110,45,120,109,108]⟩]
def svgNames14:List ByteArray:= [⟨#[102,111,114,101,105,103,110,79,98,106,101,99,116]⟩,⟨#[100,101,115,99]⟩,⟨#[116,105,116,108,101]⟩]
theorem Void_any (name:ByteArray) (w:World):Calls Tryz.prog 225 #[.string name] w fun e w'=>e= .returned (.bool (isW voidNames name))∧w=w':=by
 go_enter Tryz.func225,Tryz.ntmps225
 go_wp2_with fail
 all_goals go_ret
 all_goals exact⟨ret_bool (by first|exact clash (x:=name.toList) ‹_› ‹_›|exact(isW_lit ‹_› (by decide)).symm|simp[isW,voidNames, *]),rfl⟩
theorem special_any (name:ByteArray) (w:World):Calls Tryz.prog 226 #[.string name] w fun e w'=>e= .returned (.bool (isW specNames name))∧w=w':=by
 go_enter Tryz.func226,Tryz.ntmps226
 go_wp2_with fail
 all_goals go_ret
 all_goals exact⟨ret_bool (by first|exact clash (x:=name.toList) ‹_› ‹_›|exact(isW_lit ‹_› (by decide)).symm|simp[isW,specNames, *]),rfl⟩
end Go.Proofs.YtgepobccoffnaaaGreatDoor
namespace Go.Proofs.YtgepobccoffnaaaGreatDoor
open Go.RowKit Mem
def specialF (space:Int) (name:ByteArray):Bool :=
 if space=2 then isW mathNames name else if space=1 then isW svgNames14 name else if space=0 then isW voidNames name||isW specNames name else false
def tabNames:List ByteArray:= [⟨#[104,116,109,108]⟩,⟨#[116,97,98,108,101]⟩]
def bounds0:List ByteArray:= [⟨#[97,112,112,108,101,116]⟩,⟨#[99,97,112,116,105,111,110]⟩,⟨#[104,116,109,108]⟩,⟨#[116,97,98,108,101]⟩,⟨#[116,100]⟩,⟨#[116,104]⟩,⟨#[109,97,114,113,117,101,101]⟩,⟨#[111,98,106,101,99,116]⟩]
def bounds1:List ByteArray:= [⟨#[97,112,112,108,101,116]⟩,⟨#[99,97,112,116,105,111,110]⟩,⟨#[104,116,109,108]⟩,⟨#[116,97,98,108,101]⟩,⟨#[116,100]⟩,⟨#[116,104]⟩,⟨#[109,97,114,113,117,101,101]⟩,⟨#[111,98,106,101,99,116]⟩,⟨#[111,108]⟩,⟨#[117,108]⟩]
def bounds2:List ByteArray:= [⟨#[97,112,112,108,101,116]⟩,⟨#[99,97,112,116,105,111,110]⟩,⟨#[104,116,109,108]⟩,⟨#[116,97,98,108,101]⟩,⟨#[116,100]⟩,⟨#[116,104]⟩,⟨#[109,97,114,113,117,101,101]⟩,⟨#[111,98,106,101,99,116]⟩,⟨#[98,117,116,116,111,110]⟩]
def boundsF (scope space:Int) (name:ByteArray):Bool :=
 if scope=0 then(if space=0 then isW bounds0 name else specialF space name)else
 if scope=1 then(if space=0 then isW bounds1 name else specialF space name)else
 if scope=2 then(if space=0 then isW bounds2 name else specialF space name)else
 if scope=3 then(if space=0 then isW tabNames name else false)else false
theorem Special_any (space:Int) (name:ByteArray) (w:World):Calls Tryz.prog 211 #[.int .i64 space,.string name] w fun e w'=>e= .returned (.bool (specialF space name))∧w=w':=by
 by_cases h2:space=2
 ·subst h2
  rw[show specialF 2 name=isW mathNames name from rfl]
  go_enter Tryz.func211,Tryz.ntmps211
  go_wp2_with fail
  all_goals go_ret
  all_goals exact⟨ret_bool (by first|exact clash (x:=name.toList) ‹_› ‹_›|exact(isW_lit ‹_› (by decide)).symm|simp[isW,mathNames, *]),rfl⟩
 by_cases h1:space=1
 ·subst h1
  rw[show specialF 1 name=isW svgNames14 name from rfl]
  cases e1:(name.toList==([102,111,114,101,105,103,110,79,98,106,101,99,116]:List UInt8)) <;>cases e2:(name.toList==([100,101,115,99]:List UInt8))
  all_goals
   go_enter Tryz.func211,Tryz.ntmps211
   go_wp2_with fail
   all_goals go_ret
   all_goals exact⟨ret_bool (by simp[isW,svgNames14, *]),rfl⟩
 by_cases h0:space=0
 ·subst h0
  have HV:=Lib.hid (Void_any name w)
  have HS:=Lib.hid (special_any name w)
  have hs:specialF 0 name=(isW voidNames name||isW specNames name):=rfl
  rw[hs]
  cases hv:isW voidNames name
  all_goals
   rw[hv]at HV
   go_enter Tryz.func211,Tryz.ntmps211
   go_wp2_with (first|(go_at_call 225;go_must (refine HV.out.mono ?_;rintro e w1 ⟨rfl,rfl⟩))|(go_at_call 226;go_must (refine HS.out.mono ?_;rintro e w1 ⟨rfl,rfl⟩)))
   go_ret
   exact⟨ret_bool (by simp),rfl⟩
 ·have hs:specialF space name=false:=by rw[specialF,if_neg h2,if_neg h1,if_neg h0]
  have h2':(space==2)=false:=by simpa using h2
  have h1':(space==1)=false:=by simpa using h1
  have h0':(space==0)=false:=by simpa using h0
  rw[hs]
  clear h2 h1 h0 hs
  go_enter Tryz.func211,Tryz.ntmps211
  go_wp2_with fail
  all_goals go_ret
  exact⟨rfl,rfl⟩
theorem Bounds_any (scope space:Int) (name:ByteArray) (w:World):Calls Tryz.prog 213 #[.int .i64 scope,.int .i64 space,.string name] w fun e w'=>e= .returned (.bool (boundsF scope space name))∧w=w':=by
 by_cases s0:scope=0
 ·subst s0
  by_cases h0:space=0
  ·subst h0
   go_enter Tryz.func213,Tryz.ntmps213
   go_wp2_with fail
   all_goals go_ret
   all_goals exact⟨ret_bool (by rw[show boundsF 0 0 name=isW bounds0 name from rfl];first|exact clash (x:=name.toList) ‹_› ‹_›|exact(isW_lit ‹_› (by decide)).symm|(simp[isW,bounds0, *];done)|simp_all),rfl⟩
  ·have h0':(space==0)=false:=by simpa using h0
   have h0'':(space !=0)=true:=by simpa using h0
   have HF:Hid (boundsF 0 space name=specialF space name):=Lib.hid (by simp[boundsF,h0])
   have HS:=Lib.hid (Special_any space name w)
   clear h0
   go_enter Tryz.func213,Tryz.ntmps213
   go_wp2_with (first|(go_at_call 211;go_must (refine HS.out.mono ?_;rintro e w1 ⟨rfl,rfl⟩)))
   go_ret
   exact⟨ret_bool HF.out.symm,rfl⟩
 by_cases s1:scope=1
 ·subst s1
  by_cases h0:space=0
  ·subst h0
   go_enter Tryz.func213,Tryz.ntmps213
   go_wp2_with fail
   all_goals go_ret
   all_goals exact⟨ret_bool (by rw[show boundsF 1 0 name=isW bounds1 name from rfl];first|exact clash (x:=name.toList) ‹_› ‹_›|exact(isW_lit ‹_› (by decide)).symm|(simp[isW,bounds1, *];done)|simp_all),rfl⟩
  ·have h0':(space==0)=false:=by simpa using h0
   have h0'':(space !=0)=true:=by simpa using h0
   have HF:Hid (boundsF 1 space name=specialF space name):=Lib.hid (by simp[boundsF,h0])
   have HS:=Lib.hid (Special_any space name w)
   clear h0
   go_enter Tryz.func213,Tryz.ntmps213
   go_wp2_with (first|(go_at_call 211;go_must (refine HS.out.mono ?_;rintro e w1 ⟨rfl,rfl⟩)))
   go_ret
   exact⟨ret_bool HF.out.symm,rfl⟩
 by_cases s2:scope=2
 ·subst s2
  by_cases h0:space=0
  ·subst h0
   go_enter Tryz.func213,Tryz.ntmps213
   go_wp2_with fail
   all_goals go_ret
   all_goals exact⟨ret_bool (by rw[show boundsF 2 0 name=isW bounds2 name from rfl];first|exact clash (x:=name.toList) ‹_› ‹_›|exact(isW_lit ‹_› (by decide)).symm|(simp[isW,bounds2, *];done)|(simp_all;done)|simp_all[isW,bounds2]),rfl⟩
  ·have h0':(space==0)=false:=by simpa using h0
   have h0'':(space !=0)=true:=by simpa using h0
   have HF:Hid (boundsF 2 space name=specialF space name):=Lib.hid (by simp[boundsF,h0])
   have HS:=Lib.hid (Special_any space name w)
   clear h0
   go_enter Tryz.func213,Tryz.ntmps213
   go_wp2_with (first|(go_at_call 211;go_must (refine HS.out.mono ?_;rintro e w1 ⟨rfl,rfl⟩)))
   go_ret
   exact⟨ret_bool HF.out.symm,rfl⟩
 by_cases s3:scope=3
 ·subst s3
  by_cases h0:space=0
  ·subst h0
   rw[show boundsF 3 0 name=isW tabNames name from rfl]
   cases e1:(name.toList==([104,116,109,108]:List UInt8))
   all_goals
    go_enter Tryz.func213,Tryz.ntmps213
    go_wp2_with fail
    go_ret
    exact⟨ret_bool (by simp[isW,tabNames,e1]),rfl⟩
  ·have h0':(space==0)=false:=by simpa using h0
   have hs:boundsF 3 space name=false:=by simp[boundsF,h0]
   rw[hs]
   clear h0 hs
   go_enter Tryz.func213,Tryz.ntmps213
   go_wp2_with fail
   go_ret
   exact⟨rfl,rfl⟩
 ·have hs:boundsF scope space name=false:=by rw[boundsF,if_neg s0,if_neg s1,if_neg s2,if_neg s3]
  rw[hs]
  by_cases hlo:scope<0
  ·go_enter Tryz.func213,Tryz.ntmps213
   go_wp2_with fail
   go_ret
   exact⟨rfl,rfl⟩
  ·have hhi:3<scope:=by omega
   have h1':(scope<0)=False:=by simpa using hlo
   clear s0 s1 s2 s3
   go_enter Tryz.func213,Tryz.ntmps213
   go_wp2_with fail
   go_ret
   exact⟨rfl,rfl⟩
end Go.Proofs.YtgepobccoffnaaaGreatDoor
namespace Go.Proofs.YtgepobccoffnaaaGreatDoor
open Go.RowKit Mem
theorem isW_cons (y:ByteArray) (l:List ByteArray) (x:ByteArray):isW (y::l) x=((x.toList==y.toList)||isW l x):=by simp[isW]
theorem isW_drop (l:List ByteArray) (x:ByteArray) (k:Nat) (h:k<l.length):isW (l.drop k) x=((x.toList==l[k].toList)||isW (l.drop (k+1)) x):=by
 rw[List.drop_eq_getElem_cons h,isW_cons]
theorem sindex_any (l:List ByteArray) (a:Option Addr) (c:Nat) (x:ByteArray) (w:World) (ha:At w a (strsV l)) (hl:l.length≤9223372036854775806) :
 Calls Tryz.prog 227 #[.slice a l.length c,.string x] w fun e w'=> ∃i:Int,e= .returned (.int .i64 i)∧decide (0≤i)=isW l x∧w=w':=by
 have HA:=Lib.hid ha
 clear ha
 go_enter Tryz.func227,Tryz.ntmps227
 go_wp2_with fail
 go_loop [8] (fun i=> ∃k:Nat,k≤l.length∧i= .int .i64 k∧isW l x=isW (l.drop k) x) (fun i=>l.length-(intOf i).toNat)
 case atStart=>exact⟨0,Nat.zero_le _,rfl,rfl⟩
 case round =>
  obtain⟨k,hk,rfl,hv⟩:=hrel
  have HV:=Lib.hid hv
  clear hv
  by_cases hlt:k<l.length
  ·obtain⟨b,o,rfl,hb,e1⟩:=str_cell HA.out hlt
   have HD:=Lib.hid (isW_drop l x k hlt)
   cases hq:(x.toList==l[k].toList)
   ·rw[hq]at HD
    go_wp2_with fail
    go_round
    case rel=>exact⟨k+1,by omega,by go_num,by rw[HV.out,HD.out];rfl⟩
    case measure=>simp[intOf];omega
   ·rw[hq]at HD
    go_wp2_with fail
    go_ret
    exact⟨_,rfl,by rw[HV.out,HD.out];simp,rfl⟩
  ·have HD:Hid (isW (l.drop k) x=false):=Lib.hid (by rw[List.drop_of_length_le (by omega)];rfl)
   go_wp2_with fail
   go_ret
   exact⟨-1,rfl,by rw[HV.out,HD.out];rfl,rfl⟩
theorem contains_any (l:List ByteArray) (a:Option Addr) (c:Nat) (x:ByteArray) (w:World) (ha:At w a (strsV l)) (hl:l.length≤9223372036854775806) :
 Calls Tryz.prog 212 #[.slice a l.length c,.string x] w fun e w'=>e= .returned (.bool (isW l x))∧w=w':=by
 have HC:=Lib.hid (sindex_any l a c x w ha hl)
 clear ha
 go_enter Tryz.func212,Tryz.ntmps212
 go_wp2_with (go_at_call 227;go_must (refine HC.out.mono ?_;rintro e w1 ⟨i,rfl,hi,rfl⟩;have HI:=Lib.hid hi;clear hi))
 go_ret
 exact⟨ret_bool HI.out,rfl⟩
def namedF (T:TreeD) (n:Int) (names:List ByteArray):Bool:=elemF T n&&((spaceQ T n==0)&&isW names (nameQ T n))
def stopF (T:TreeD) (scope n:Int):Bool:=elemF T n&&boundsF scope (spaceQ T n) (nameQ T n)
def searchF (p stop:Int→Bool):List Int→Bool
 | []=>false
 |x::r=>p x||(!stop x&&searchF p stop r)
section
variable (T:TreeD) (w:World) (sb tb g:Nat) (gs:Option Nat) (l:List Int)
theorem snamed_any (h:StkO w sb tb gs l) (hT:TreeO w tb g T) (hat: ∀i (h:i<T.nodes.length),T.nodes[i].attrs.length≤1048576) (n:Int) (names:List ByteArray) (a:Option Addr) (c:Nat) (ha:At w a (strsV names)) (hl:names.length≤1048576) :
 Calls Tryz.prog 176 #[.pointer (some ⟨sb,0,none⟩),.int .i64 n,.slice a names.length c] w fun e w'=>e= .returned (.bool (namedF T n names))∧Below w.heap.size w w':=by
 obtain⟨sa,sc,c0,_⟩:=h.cells
 have HW:=Lib.hid (What_any T tb g w n hat hT)
 have HT:=Lib.hid hT
 have HA:=Lib.hid ha
 have HN:Hid (namedF T n names=(elemF T n&&((spaceQ T n==0)&&isW names (nameQ T n)))):=by show _=_;rfl
 clear h hT ha hat
 cases he:elemF T n <;>cases hs:(spaceQ T n==0)
 all_goals
  rw[he,hs]at HN
  go_enter Tryz.func176,Tryz.ntmps176
  go_wp2_with (first|(go_at_call 49;go_must (refine HW.out.mono ?_;rintro e w1 ⟨v,rfl,_,hb⟩;have c0':=cell_later hb c0;have HE:=Lib.hid (elem_any T tb g w1 n (HT.out.below hb));rw[he]at HE;have HCo:=Lib.hid (contains_any names a c (nameQ T n) w1 (HA.out.below hb) (by omega));have HB:=Lib.hid hb;clear hb))|(go_at_call 80;go_must (refine HE.out.mono ?_;rintro e w2 ⟨rfl,rfl⟩))|(go_at_call 212;go_must (refine HCo.out.mono ?_;rintro e w2 ⟨rfl,rfl⟩)))
  go_ret
  exact⟨ret_bool (by rw[HN.out];simp),HB.out⟩
end
end Go.Proofs.YtgepobccoffnaaaGreatDoor
namespace Go.Proofs.YtgepobccoffnaaaGreatDoor
open Go.RowKit Mem
theorem rfind_snoc (l:List Int) (x n:Int):rfind (l++ [x]) n=if x=n then(l.length:Int)else rfind l n:=by
 obtain⟨q1,q2,q3,q4⟩:=rfind_spec l n
 split
 ·rename_i e
  refine(rfind_eq (by omega) (by simp;omega) (fun k h hk=>by simp at h;omega) fun k h hk=> ?_)
  have:k=l.length:=by omega
  subst this
  simpa using e
 ·rename_i e
  refine(rfind_eq q1 (by simp;omega) (fun k h hk=> ?_) fun k h hk=> ?_)
  ·by_cases hkl:k<l.length
   ·rw[List.getElem_append_left hkl];exact q3 k hkl hk
   ·have:k=l.length:=by simp at h;omega
    subst this
    simpa using e
  ·have hkl:k<l.length:=by omega
   rw[List.getElem_append_left hkl];exact q4 k hkl hk
end Go.Proofs.YtgepobccoffnaaaGreatDoor
end
