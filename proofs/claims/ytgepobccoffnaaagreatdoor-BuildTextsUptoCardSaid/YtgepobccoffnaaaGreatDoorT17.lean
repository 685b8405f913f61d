/- Texts joined for a claim: ForD, ForF: plain laws and contracts. No conditions beyond those that each lemma types. -/
import Derived.Test.YtgepobccoffnaaaGreatDoorT16
set_option linter.unusedVariables false
set_option linter.unusedSimpArgs false
set_option maxRecDepth 100000
set_option maxHeartbeats 8000000
namespace Go.Proofs.YtgepobccoffnaaaGreatDoor
open Go.RowKit Mem
section
def brkNames:List ByteArray:= [⟨#[98]⟩,⟨#[98,105,103]⟩,⟨#[98,108,111,99,107,113,117,111,116,101]⟩,⟨#[98,111,100,121]⟩,⟨#[98,114]⟩,⟨#[99,101,110,116,101,114]⟩,⟨#[99,111,100,101]⟩,⟨#[100,100]⟩,⟨#[100,105,118]⟩,⟨#[100,108]⟩,⟨#[100,116]⟩,⟨#[101,109]⟩,⟨#[101,109,98,101,100]⟩,⟨#[104,49]⟩,⟨#[104,50]⟩,⟨#[104,51]⟩,⟨#[104,52]⟩,⟨#[104,53]⟩,⟨#[104,54]⟩,⟨#[104,101,97,100]⟩,⟨#[104,114]⟩,⟨#[105]⟩,⟨#[105,109,103]⟩,⟨#[108,105]⟩,⟨#[108,105,115,116,105,110,103]⟩,⟨#[109,101,110,117]⟩,⟨#[109,101,116,97]⟩,⟨#[110,111,98,114]⟩,⟨#[111,108]⟩,⟨#[112]⟩,⟨#[112,114,101]⟩,⟨#[114,117,98,121]⟩,⟨#[115]⟩,⟨#[115,109,97,108,108]⟩,⟨#[115,112,97,110]⟩,⟨#[115,116,114,111,110,103]⟩,⟨#[115,116,114,105,107,101]⟩,⟨#[115,117,98]⟩,⟨#[115,117,112]⟩,⟨#[116,97,98,108,101]⟩,⟨#[116,116]⟩,⟨#[117]⟩,⟨#[117,108]⟩,⟨#[118,97,114]⟩]
def endNames:List ByteArray:= [⟨#[98,114]⟩,⟨#[112]⟩]
def sizeNames:List ByteArray:= [⟨#[99,111,108,111,114]⟩,⟨#[102,97,99,101]⟩,⟨#[115,105,122,101]⟩]
def anySize (l:List Pair):Bool:=l.any fun p=>isIn sizeNames p.1
def breaksF (kind:Int) (name:ByteArray) (attrs:List Pair):Bool :=
 if kind=3 then isIn endNames name else if kind=2 then(if isIn brkNames name then true else if name=(⟨#[102,111,110,116]⟩:ByteArray)then anySize attrs else false)else false
abbrev markA (kind:Int) (name:ByteArray) (a:Option Addr) (n c:Nat) (self:Bool) (text:ByteArray):Value :=
 .agg #[.int .i64 kind,.string name,.slice a n c,.bool self,.string text]
theorem anySize_step (l:List Pair) (k:Nat) (h:k<l.length) (hne:isIn sizeNames l[k].1=false):anySize (l.drop k)=anySize (l.drop (k+1)):=by
 rw[anySize,List.drop_eq_getElem_cons h,List.any_cons,hne,Bool.false_or];rfl
theorem anySize_hit (l:List Pair) (k:Nat) (h:k<l.length) (he:isIn sizeNames l[k].1=true):anySize (l.drop k)=true:=by
 rw[anySize,List.drop_eq_getElem_cons h,List.any_cons,he,Bool.true_or]
section
variable (name:ByteArray) (attrs:List Pair) (a:Option Addr) (c:Nat) (self:Bool) (text:ByteArray) (w:World)
theorem breaks_end :
 Calls Tryz.prog 63 #[markA 3 name a attrs.length c self text] w fun e w'=>e= .returned (.bool (breaksF 3 name attrs))∧Below w.heap.size w w':=by
 have HP:Hid (breaksF 3 name attrs=isIn endNames name):=by show _=_;simp[breaksF]
 cases hin:isIn endNames name
 ·have HI:=Lib.hid hin
  rw[isIn_mk]at hin
  have no0:(name.toList== [98,114])=false:=isIn_no hin [98,114] (by decide);have no1:(name.toList== [112])=false:=isIn_no hin [112] (by decide)
  clear hin
  go_enter Tryz.func63,Tryz.ntmps63
  go_wp2_with fail
  go_ret
  exact⟨ret_bool (by rw[HP.out,HI.out]),(Below.refl _ _).alloc (Nat.le_refl _) _⟩
 ·have HI:=Lib.hid hin
  have h:=isIn_mem hin
  clear hin
  simp only[endNames,List.mem_cons,List.not_mem_nil,or_false,eq_mk_iff]at h
  rcases h with h|h
  all_goals
   go_enter Tryz.func63,Tryz.ntmps63
   go_wp2_with fail
   go_ret
   exact⟨ret_bool (by rw[HP.out,HI.out]),(Below.refl _ _).alloc (Nat.le_refl _) _⟩
theorem breaks_none (kind:Int) (h3:(kind==3)=false) (h2:(kind==2)=false) :
 Calls Tryz.prog 63 #[markA kind name a attrs.length c self text] w fun e w'=>e= .returned (.bool (breaksF kind name attrs))∧Below w.heap.size w w':=by
 have HP:Hid (breaksF kind name attrs=false):=by show _=_;rw[breaksF,if_neg (by simpa using h3),if_neg (by simpa using h2)]
 have h2':(kind !=2)=true:=by simpa using h2
 go_enter Tryz.func63,Tryz.ntmps63
 go_wp2_with fail
 go_ret
 exact⟨ret_bool HP.out.symm,(Below.refl _ _).alloc (Nat.le_refl _) _⟩
theorem breaks_no (h2f:isIn brkNames name=false) (hf:(name.toList==([102,111,110,116]:List UInt8))=false) :
 Calls Tryz.prog 63 #[markA 2 name a attrs.length c self text] w fun e w'=>e= .returned (.bool (breaksF 2 name attrs))∧Below w.heap.size w w':=by
 have HP:Hid (breaksF 2 name attrs=false):=by
  show _=_
  rw[breaksF,if_neg (by decide),if_pos rfl,h2f,if_neg (by decide),if_neg]
  intro e
  rw[eq_mk_iff]at e
  rw[e]at hf
  simp at hf
 rw[isIn_mk]at h2f
 have no0:(name.toList== [98])=false:=isIn_no h2f [98] (by decide);have no1:(name.toList== [98,105,103])=false:=isIn_no h2f [98,105,103] (by decide);have no2:(name.toList== [98,108,111,99,107,113,117,111,116,101])=false:=isIn_no h2f [98,108,111,99,107,113,117,111,116,101] (by decide);have no3:(name.toList== [98,111,100,121])=false:=isIn_no h2f [98,111,100,121] (by decide);have no4:(name.toList== [98,114])=false:=isIn_no h2f [98,114] (by decide);have no5:(name.toList== [99,101,110,116,101,114])=false:=isIn_no h2f [99,101,110,116,101,114] (by decide);have no6:(name.toList== [99,111,100,101])=false:=isIn_no h2f [99,111,100,101] (by decide);have no7:(name.toList== [100,100])=false:=isIn_no h2f [100,100] (by decide);have no8:(name.toList== [100,105,118])=false:=isIn_no h2f [100,105,118] (by decide);have no9:(name.toList== [100,108])=false:=isIn_no h2f [100,108] (by decide);have no10:(name.toList== [100,116])=false:=isIn_no h2f [100,116] (by decide);have no11:(name.toList== [101,109])=false:=isIn_no h2f [101,109] (by decide);have no12:(name.toList== [101,109,98,101,100])=false:=isIn_no h2f [101,109,98,101,100] (by decide);have no13:(name.toList== [104,49])=false:=isIn_no h2f [104,49] (by decide);have no14:(name.toList== [104,50])=false:=isIn_no h2f [104,50] (by decide);have no15:(name.toList== [104,51])=false:=isIn_no h2f [104,51] (by decide);have no16:(name.toList== [104,52])=false:=isIn_no h2f [104,52] (by decide);have no17:(name.toList== [104,53])=false:=isIn_no h2f [104,53] (by decide);have no18:(name.toList== [104,54])=false:=isIn_no h2f [104,54] (by decide);have no19:(name.toList== [104,101,97,100])=false:=isIn_no h2f [104,101,97,100] (by decide);have no20:(name.toList== [104,114])=false:=isIn_no h2f [104,114] (by decide);have no21:(name.toList== [105])=false:=isIn_no h2f [105] (by decide);have no22:(name.toList== [105,109,103])=false:=isIn_no h2f [105,109,103] (by decide);have no23:(name.toList== [108,105])=false:=isIn_no h2f [108,105] (by decide);have no24:(name.toList== [108,105,115,116,105,110,103])=false:=isIn_no h2f [108,105,115,116,105,110,103] (by decide);have no25:(name.toList== [109,101,110,117])=false:=isIn_no h2f [109,101,110,117] (by decide);have no26:(name.toList== [109,101,116,97])=false:=isIn_no h2f [109,101,116,97] (by decide);have no27:(name.toList== [110,111,98,114])=false:=isIn_no h2f [110,111,98,114] (by decide);have no28:(name.toList== [111,108])=false:=isIn_no h2f [111,108] (by decide);have no29:(name.toList== [112])=false:=isIn_no h2f [112] (by decide);have no30:(name.toList== [112,114,101])=false:=isIn_no h2f [112,114,101] (by decide);have no31:(name.toList== [114,117,98,121])=false:=isIn_no h2f [114,117,98,121] (by decide);have no32:(name.toList== [115])=false:=isIn_no h2f [115] (by decide);have no33:(name.toList== [115,109,97,108,108])=false:=isIn_no h2f [115,109,97,108,108] (by decide);have no34:(name.toList== [115,112,97,110])=false:=isIn_no h2f [115,112,97,110] (by decide);have no35:(name.toList== [115,116,114,111,110,103])=false:=isIn_no h2f [115,116,114,111,110,103] (by decide);have no36:(name.toList== [115,116,114,105,107,101])=false:=isIn_no h2f [115,116,114,105,107,101] (by decide);have no37:(name.toList== [115,117,98])=false:=isIn_no h2f [115,117,98] (by decide);have no38:(name.toList== [115,117,112])=false:=isIn_no h2f [115,117,112] (by decide);have no39:(name.toList== [116,97,98,108,101])=false:=isIn_no h2f [116,97,98,108,101] (by decide);have no40:(name.toList== [116,116])=false:=isIn_no h2f [116,116] (by decide);have no41:(name.toList== [117])=false:=isIn_no h2f [117] (by decide);have no42:(name.toList== [117,108])=false:=isIn_no h2f [117,108] (by decide);have no43:(name.toList== [118,97,114])=false:=isIn_no h2f [118,97,114] (by decide)
 clear h2f
 go_enter Tryz.func63,Tryz.ntmps63
 go_wp2_with fail
 go_ret
 exact⟨ret_bool HP.out.symm,(Below.refl _ _).alloc (Nat.le_refl _) _⟩
theorem breaks_font (h2f:isIn brkNames name=false) (hf:name.toList=([102,111,110,116]:List UInt8)) (hl:attrs.length≤maxLen) (ha:At w a (pairsV attrs)) :
 Calls Tryz.prog 63 #[markA 2 name a attrs.length c self text] w fun e w'=>e= .returned (.bool (breaksF 2 name attrs))∧Below w.heap.size w w':=by
 have HP:Hid (breaksF 2 name attrs=anySize attrs):=by
  show _=_
  rw[breaksF,if_neg (by decide),if_pos rfl,h2f,if_neg (by decide),if_pos ((eq_mk_iff _ _).2 hf)]
 have HA:=Lib.hid ha
 clear ha h2f
 unfold maxLen at hl
 go_enter Tryz.func63,Tryz.ntmps63
 go_wp2_with fail
 go_loopw [71] (fun i wr=> ∃k:Nat,k≤attrs.length∧i= .int .i64 k∧Below w.heap.size w wr∧anySize attrs=anySize (attrs.drop k)) (fun i _=>attrs.length-(intOf i).toNat)
 case atStart=>exact⟨0,Nat.zero_le _,rfl,(Below.refl _ _).alloc (Nat.le_refl _) _,rfl⟩
 case round =>
  obtain⟨k,hk,rfl,hb,hv⟩:=hrel
  have HV:=Lib.hid hv
  have HB:=Lib.hid hb
  by_cases hlt:k<attrs.length
  ·obtain⟨b,o,rfl,hlb,h1,h2⟩:=pair_cells (HA.out.below hb) hlt
   clear hv hb
   cases hin:isIn sizeNames attrs[k].1
   ·have HI:=Lib.hid hin
    rw[isIn_mk]at hin
    have no0:(attrs[k].1.toList== [99,111,108,111,114])=false:=isIn_no hin [99,111,108,111,114] (by decide);have no1:(attrs[k].1.toList== [102,97,99,101])=false:=isIn_no hin [102,97,99,101] (by decide);have no2:(attrs[k].1.toList== [115,105,122,101])=false:=isIn_no hin [115,105,122,101] (by decide)
    clear hin
    go_wp2_with fail
    go_roundw
    case rel=>exact⟨k+1,by omega,by go_num,HB.out.alloc HB.out.size _,by rw[HV.out,anySize_step attrs k hlt HI.out]⟩
    case measure=>simp[intOf];omega
   ·have HI:=Lib.hid hin
    have h:=isIn_mem hin
    clear hin
    simp only[sizeNames,List.mem_cons,List.not_mem_nil,or_false,eq_mk_iff]at h
    rcases h with h|h|h
    all_goals
     go_wp2_with fail
     go_ret
     exact⟨ret_bool (by rw[HP.out,HV.out,anySize_hit attrs k hlt HI.out]),HB.out.alloc HB.out.size _⟩
  ·clear hb hv
   go_wp2_with fail
   go_ret
   exact⟨ret_bool (by rw[HP.out,HV.out,List.drop_of_length_le (by omega)];rfl),HB.out⟩
end
end
section
def foreignB (p1 p2 s1 s2 k1 k2 k6 ann mg ma svg:Bool):Bool :=
 (s1||s2)&& !k6&& !(p1&&(k1||k2&& !mg&& !ma))&& !(p2&&(k1||k2))&& !(s2&&ann&&k2&&svg)
def foreignF (p space:Int) (name:ByteArray) (kind:Int) (mname:ByteArray):Bool :=
 foreignB (p==1) (p==2) (space==1) (space==2) (kind==1) (kind==2) (kind==6) (name.toList==([97,110,110,111,116,97,116,105,111,110,45,120,109,108]:List UInt8)) (mname.toList==([109,103,108,121,112,104]:List UInt8)) (mname.toList==([109,97,108,105,103,110,109,97,114,107]:List UInt8)) (mname.toList==([115,118,103]:List UInt8))
section
variable (name:ByteArray) (attrs:List Pair) (a:Option Addr) (c:Nat) (mname:ByteArray) (ma:Option Addr) (mn mc:Nat) (self:Bool) (text:ByteArray) (w:World)
theorem foreign_none (space kind:Int) (h1:(space==1)=false) (h2:(space==2)=false) :
 Calls Tryz.prog 45 #[.int .i64 space,.string name,.slice a attrs.length c,markA kind mname ma mn mc self text] w fun e w'=>e= .returned (.bool (foreignF (pointF space name attrs) space name kind mname))∧Below w.heap.size w w':=by
 have h1':(space !=1)=true:=by simpa using h1
 have h2':(space !=2)=true:=by simpa using h2
 go_enter Tryz.func45,Tryz.ntmps45
 go_wp2_with fail
 go_ret
 exact⟨ret_bool (by rw[foreignF];simp[foreignB,h1,h2]),(Below.refl _ _).alloc (Nat.le_refl _) _⟩
theorem foreign_eof (space:Int) (hs:space=1∨space=2) :
 Calls Tryz.prog 45 #[.int .i64 space,.string name,.slice a attrs.length c,markA 6 mname ma mn mc self text] w fun e w'=>e= .returned (.bool (foreignF (pointF space name attrs) space name 6 mname))∧Below w.heap.size w w':=by
 rcases hs with rfl|rfl
 all_goals
  go_enter Tryz.func45,Tryz.ntmps45
  go_wp2_with fail
  go_ret
  exact⟨ret_bool (by rw[foreignF];simp[foreignB]),(Below.refl _ _).alloc (Nat.le_refl _) _⟩
theorem foreign_text (space p:Int) (hs:space=1∨space=2) (hp:p=0∨p=1∨p=2)
 (HC:Hid (∀u,Below w.heap.size w u→Calls Tryz.prog 62 #[.int .i64 space,.string name,.slice a attrs.length c] u fun e w'=>e= .returned (.int .i64 p)∧Below u.heap.size u w')) :
 Calls Tryz.prog 45 #[.int .i64 space,.string name,.slice a attrs.length c,markA 1 mname ma mn mc self text] w fun e w'=>e= .returned (.bool (foreignF p space name 1 mname))∧Below w.heap.size w w':=by
 cases han:(name.toList==([97,110,110,111,116,97,116,105,111,110,45,120,109,108]:List UInt8))
 all_goals
  rcases hs with rfl|rfl
  all_goals
   rcases hp with rfl|rfl|rfl
   all_goals
    go_enter Tryz.func45,Tryz.ntmps45
    go_wp2_with (go_at_call 62;refine(HC.out _ ((Below.refl _ _).alloc (Nat.le_refl _) _)).mono ?_;rintro e w1 ⟨rfl,hb1⟩;have f0:w1.cell? ⟨w.heap.size,0,none⟩=_:=cell_later hb1 (World.cell?_alloc_new w _ _ 0);have f1:w1.cell? ⟨w.heap.size,1,none⟩=_:=cell_later hb1 (World.cell?_alloc_new w _ _ 1);have HB1:=Lib.hid hb1;clear hb1)
    go_ret
    exact⟨ret_bool (by rw[foreignF];simp[foreignB, *]),belowCall ((Below.refl _ _).alloc (Nat.le_refl _) _) HB1.out⟩
theorem foreign_other (space p kind:Int) (hs:space=1∨space=2) (hp:p=0∨p=1∨p=2) (hk1:(kind==1)=false) (hk2:(kind==2)=false) (hk6:(kind==6)=false)
 (HC:Hid (∀u,Below w.heap.size w u→Calls Tryz.prog 62 #[.int .i64 space,.string name,.slice a attrs.length c] u fun e w'=>e= .returned (.int .i64 p)∧Below u.heap.size u w')) :
 Calls Tryz.prog 45 #[.int .i64 space,.string name,.slice a attrs.length c,markA kind mname ma mn mc self text] w fun e w'=>e= .returned (.bool (foreignF p space name kind mname))∧Below w.heap.size w w':=by
 cases han:(name.toList==([97,110,110,111,116,97,116,105,111,110,45,120,109,108]:List UInt8))
 all_goals
  rcases hs with rfl|rfl
  all_goals
   rcases hp with rfl|rfl|rfl
   all_goals
    go_enter Tryz.func45,Tryz.ntmps45
    go_wp2_with (go_at_call 62;refine(HC.out _ ((Below.refl _ _).alloc (Nat.le_refl _) _)).mono ?_;rintro e w1 ⟨rfl,hb1⟩;have f0:w1.cell? ⟨w.heap.size,0,none⟩=_:=cell_later hb1 (World.cell?_alloc_new w _ _ 0);have f1:w1.cell? ⟨w.heap.size,1,none⟩=_:=cell_later hb1 (World.cell?_alloc_new w _ _ 1);have HB1:=Lib.hid hb1;clear hb1)
    go_ret
    exact⟨ret_bool (by rw[foreignF];simp[foreignB, *]),belowCall ((Below.refl _ _).alloc (Nat.le_refl _) _) HB1.out⟩
theorem foreign_start (space p:Int) (hs:space=1∨space=2) (hp:p=0∨p=2)
 (HC:Hid (∀u,Below w.heap.size w u→Calls Tryz.prog 62 #[.int .i64 space,.string name,.slice a attrs.length c] u fun e w'=>e= .returned (.int .i64 p)∧Below u.heap.size u w')) :
 Calls Tryz.prog 45 #[.int .i64 space,.string name,.slice a attrs.length c,markA 2 mname ma mn mc self text] w fun e w'=>e= .returned (.bool (foreignF p space name 2 mname))∧Below w.heap.size w w':=by
 cases han:(name.toList==([97,110,110,111,116,97,116,105,111,110,45,120,109,108]:List UInt8))
 all_goals
  cases hsv:(mname.toList==([115,118,103]:List UInt8))
  all_goals
   rcases hs with rfl|rfl
   all_goals
    rcases hp with rfl|rfl
    all_goals
     go_enter Tryz.func45,Tryz.ntmps45
     go_wp2_with (go_at_call 62;refine(HC.out _ ((Below.refl _ _).alloc (Nat.le_refl _) _)).mono ?_;rintro e w1 ⟨rfl,hb1⟩;have f0:w1.cell? ⟨w.heap.size,0,none⟩=_:=cell_later hb1 (World.cell?_alloc_new w _ _ 0);have f1:w1.cell? ⟨w.heap.size,1,none⟩=_:=cell_later hb1 (World.cell?_alloc_new w _ _ 1);have HB1:=Lib.hid hb1;clear hb1)
     go_ret
     exact⟨ret_bool (by rw[foreignF];simp[foreignB, *]),belowCall ((Below.refl _ _).alloc (Nat.le_refl _) _) HB1.out⟩
theorem foreign_start1 (space:Int) (hs:space=1∨space=2)
 (HC:Hid (∀u,Below w.heap.size w u→Calls Tryz.prog 62 #[.int .i64 space,.string name,.slice a attrs.length c] u fun e w'=>e= .returned (.int .i64 1)∧Below u.heap.size u w')) :
 Calls Tryz.prog 45 #[.int .i64 space,.string name,.slice a attrs.length c,markA 2 mname ma mn mc self text] w fun e w'=>e= .returned (.bool (foreignF 1 space name 2 mname))∧Below w.heap.size w w':=by
 by_cases hmg:mname.toList=([109,103,108,121,112,104]:List UInt8)
 ·cases han:(name.toList==([97,110,110,111,116,97,116,105,111,110,45,120,109,108]:List UInt8))
  all_goals
   rcases hs with rfl|rfl
   all_goals
    go_enter Tryz.func45,Tryz.ntmps45
    go_wp2_with (go_at_call 62;refine(HC.out _ ((Below.refl _ _).alloc (Nat.le_refl _) _)).mono ?_;rintro e w1 ⟨rfl,hb1⟩;have f0:w1.cell? ⟨w.heap.size,0,none⟩=_:=cell_later hb1 (World.cell?_alloc_new w _ _ 0);have f1:w1.cell? ⟨w.heap.size,1,none⟩=_:=cell_later hb1 (World.cell?_alloc_new w _ _ 1);have HB1:=Lib.hid hb1;clear hb1)
    go_ret
    exact⟨ret_bool (by rw[foreignF];simp[foreignB, *]),belowCall ((Below.refl _ _).alloc (Nat.le_refl _) _) HB1.out⟩
 ·have hmg':(mname.toList==([109,103,108,121,112,104]:List UInt8))=false:=by simpa using hmg
  by_cases hma:mname.toList=([109,97,108,105,103,110,109,97,114,107]:List UInt8)
  ·clear hmg hmg'
   cases han:(name.toList==([97,110,110,111,116,97,116,105,111,110,45,120,109,108]:List UInt8))
   all_goals
    rcases hs with rfl|rfl
    all_goals
     go_enter Tryz.func45,Tryz.ntmps45
     go_wp2_with (go_at_call 62;refine(HC.out _ ((Below.refl _ _).alloc (Nat.le_refl _) _)).mono ?_;rintro e w1 ⟨rfl,hb1⟩;have f0:w1.cell? ⟨w.heap.size,0,none⟩=_:=cell_later hb1 (World.cell?_alloc_new w _ _ 0);have f1:w1.cell? ⟨w.heap.size,1,none⟩=_:=cell_later hb1 (World.cell?_alloc_new w _ _ 1);have HB1:=Lib.hid hb1;clear hb1)
     go_ret
     exact⟨ret_bool (by rw[foreignF];simp[foreignB, *]),belowCall ((Below.refl _ _).alloc (Nat.le_refl _) _) HB1.out⟩
  ·have hma':(mname.toList==([109,97,108,105,103,110,109,97,114,107]:List UInt8))=false:=by simpa using hma
   clear hmg hma
   rcases hs with rfl|rfl
   all_goals
    go_enter Tryz.func45,Tryz.ntmps45
    go_wp2_with (go_at_call 62;refine(HC.out _ ((Below.refl _ _).alloc (Nat.le_refl _) _)).mono ?_;rintro e w1 ⟨rfl,hb1⟩;have f0:w1.cell? ⟨w.heap.size,0,none⟩=_:=cell_later hb1 (World.cell?_alloc_new w _ _ 0);have f1:w1.cell? ⟨w.heap.size,1,none⟩=_:=cell_later hb1 (World.cell?_alloc_new w _ _ 1);have HB1:=Lib.hid hb1;clear hb1)
    go_ret
    exact⟨ret_bool (by rw[foreignF];simp[foreignB, *]),belowCall ((Below.refl _ _).alloc (Nat.le_refl _) _) HB1.out⟩
theorem foreign_core (space p kind:Int) (hp:p=0∨p=1∨p=2) (hpf:p=pointF space name attrs)
 (HC:Hid (∀u,Below w.heap.size w u→Calls Tryz.prog 62 #[.int .i64 space,.string name,.slice a attrs.length c] u fun e w'=>e= .returned (.int .i64 p)∧Below u.heap.size u w')) :
 Calls Tryz.prog 45 #[.int .i64 space,.string name,.slice a attrs.length c,markA kind mname ma mn mc self text] w fun e w'=>e= .returned (.bool (foreignF p space name kind mname))∧Below w.heap.size w w':=by
 by_cases hs:space=1∨space=2
 ·by_cases h6:kind=6
  ·subst h6 hpf;exact foreign_eof name attrs a c mname ma mn mc self text w space hs
  ·by_cases h1:kind=1
   ·subst h1;exact foreign_text name attrs a c mname ma mn mc self text w space p hs hp HC
   ·by_cases h2:kind=2
    ·subst h2
     rcases hp with h|h|h
     ·exact foreign_start name attrs a c mname ma mn mc self text w space p hs (.inl h) HC
     ·subst h;exact foreign_start1 name attrs a c mname ma mn mc self text w space hs HC
     ·exact foreign_start name attrs a c mname ma mn mc self text w space p hs (.inr h) HC
    ·exact foreign_other name attrs a c mname ma mn mc self text w space p kind hs hp (by simpa using h1) (by simpa using h2) (by simpa using h6) HC
 ·subst hpf;exact foreign_none name attrs a c mname ma mn mc self text w space kind (by simp;omega) (by simp;omega)
end
theorem pointF_cases (space:Int) (name:ByteArray) (attrs:List Pair):pointF space name attrs=0∨pointF space name attrs=1∨pointF space name attrs=2:=by
 unfold pointF
 split
 ·split <;>simp
 ·split
  ·split
   ·simp
   ·split
    ·split <;>simp
    ·simp
  ·simp
theorem foreign_any (space:Int) (name:ByteArray) (attrs:List Pair) (a:Option Addr) (c:Nat) (kind:Int) (mname:ByteArray) (ma:Option Addr) (mn mc:Nat) (self:Bool) (text:ByteArray) (w:World)
 (hl:attrs.length≤maxLen) (hs: ∀p∈attrs,p.2.size≤maxLen) (ha:At w a (pairsV attrs)) :
 Calls Tryz.prog 45 #[.int .i64 space,.string name,.slice a attrs.length c,markA kind mname ma mn mc self text] w fun e w'=>e= .returned (.bool (foreignF (pointF space name attrs) space name kind mname))∧Below w.heap.size w w':=by
 exact foreign_core name attrs a c mname ma mn mc self text w space _ kind (pointF_cases space name attrs) rfl (Lib.hid fun u hu=>point_any space name attrs a c u hl (valueOf_size attrs _ hs) (ha.below hu))
end
end Go.Proofs.YtgepobccoffnaaaGreatDoor
