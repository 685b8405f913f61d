/- Texts joined for a claim: RRefsO, RMkMid: plain laws and contracts. No conditions beyond those that each lemma types. -/
import Derived.Test.YtgepobccoffnaaaGreatDoorQ36
import Derived.Test.YtgepobccoffnaaaGreatDoorQ33
import Derived.Test.YtgepobccoffnaaaGreatDoorQ37
set_option linter.unusedVariables false
set_option linter.unusedSimpArgs false
set_option maxRecDepth 100000
set_option maxHeartbeats 8000000
section
namespace Go.Proofs.YtgepobccoffnaaaGreatDoor.Rd
open Go.RowKit Mem
def namesO:List ByteArray:= [⟨#[97,109,112]⟩,⟨#[65,77,80]⟩,⟨#[108,116]⟩,⟨#[76,84]⟩,⟨#[103,116]⟩,⟨#[113,117,111,116]⟩,⟨#[110,98,115,112]⟩,⟨#[99,111,112,121]⟩,⟨#[114,101,103]⟩,⟨#[110,111,116]⟩,⟨#[112,97,114,97]⟩,⟨#[116,105,109,101,115]⟩,⟨#[100,105,118,105,100,101]⟩,⟨#[101,97,99,117,116,101]⟩,⟨#[69,84,72]⟩,⟨#[115,122,108,105,103]⟩,⟨#[97,112,111,115]⟩,⟨#[110,111,116,105,110]⟩,⟨#[99,111,112,121,115,114]⟩,⟨#[112,97,114,97,108,108,101,108]⟩,⟨#[116,105,109,101,115,98]⟩,⟨#[108,116,105,109,101,115]⟩,⟨#[103,116,100,111,116]⟩,⟨#[104,101,108,108,105,112]⟩,⟨#[110,100,97,115,104]⟩,⟨#[109,100,97,115,104]⟩,⟨#[108,115,113,117,111]⟩,⟨#[114,115,113,117,111]⟩,⟨#[108,100,113,117,111]⟩,⟨#[114,100,113,117,111]⟩,⟨#[101,117,114,111]⟩,⟨#[116,114,97,100,101]⟩,⟨#[108,97,114,114]⟩,⟨#[114,97,114,114]⟩,⟨#[84,97,98]⟩,⟨#[78,101,119,76,105,110,101]⟩,⟨#[99,111,108,111,110]⟩,⟨#[115,111,108]⟩,⟨#[113,117,101,115,116]⟩,⟨#[108,112,97,114]⟩,⟨#[122,119,106]⟩,⟨#[78,111,116,69,113,117,97,108,84,105,108,100,101]⟩,⟨#[84,104,105,99,107,83,112,97,99,101]⟩,⟨#[110,118,108,116]⟩]
theorem namesO_any (s:Str):(namesO.any fun p=>s.isPrefixOf p.toList)=beginsF s:=by
 have h1: ∀p∈namesO,∃q∈bareT++boundT,q.1=p.data.toList:=by decide +kernel
 have h2: ∀q∈bareT++boundT,∃p∈namesO,q.1=p.data.toList:=by decide +kernel
 unfold beginsF
 rw[Bool.eq_iff_iff,List.any_eq_true,List.any_eq_true]
 constructor
 ·rintro⟨p,hp,h⟩
  obtain⟨q,hq,e⟩:=h1 p hp
  exact⟨q,hq,by rw[e,←ByteArray.toList_eq];exact h⟩
 ·rintro⟨q,hq,h⟩
  obtain⟨p,hp,e⟩:=h2 q hq
  exact⟨p,hp,by rw[ByteArray.toList_eq,←e];exact h⟩
theorem namesO_step (s:Str) (k:Nat) (h:k<namesO.length) (b:Bool) (hb:s.isPrefixOf namesO[k].toList=b):((namesO.drop k).any fun p=>s.isPrefixOf p.toList)=(b||(namesO.drop (k+1)).any fun p=>s.isPrefixOf p.toList):=by
 rw[List.drop_eq_getElem_cons h,List.any_cons,hb]
theorem hasp_any (s p:ByteArray) (w:World):Calls Tryz.prog 82 #[.string s,.string p] w fun e w'=>e= .returned (.bool (p.toList.isPrefixOf s.toList))∧w=w':=by
 refine(HasPrefix_any s p w).mono fun e w' ⟨he,hw⟩=>⟨?_,hw.symm⟩
 rw[he,ByteArray.toList_eq,ByteArray.toList_eq];rfl
theorem begins_any (s:ByteArray) (w:World):Calls Tryz.prog 136 #[.string s] w fun e w'=>e= .returned (.bool (beginsF s.toList))∧Below w.heap.size w w':=by
 have HP:=Lib.hid (namesO_any s.toList)
 have hl44:namesO.length=44:=rfl
 have HL:=Lib.hid hl44
 clear hl44
 have HB:=Lib.hid ((Below.refl _ w).alloc (Nat.le_refl _) (.cells (strsV namesO).toArray 9))
 have HA:=Lib.hid (at_alloc (w:=w) (cur:=(strsV namesO).toArray) (e:=9) rfl rfl)
 go_enter Tryz.func136,Tryz.ntmps136
 go_wp2_with ((with_reducible refine wpList_new_at 5 (.slice (some ⟨w.heap.size,0,none⟩) 44 44) (.cells (strsV namesO).toArray 9) rfl rfl (by kernel_rfl) ?_);simp only[Act.put,List.setIfInBounds_toArray,List.set_cons_zero,List.set_cons_succ];generalize w.alloc (.cells (strsV namesO).toArray 9)=wa at *)
 go_loop [7] (fun i=> ∃k:Nat,k≤44∧i= .int .i64 k∧((namesO.drop k).any fun p=>s.toList.isPrefixOf p.toList)=beginsF s.toList) (fun i=>44-(intOf i).toNat)
 case atStart=>exact⟨0,by omega,rfl,by rw[List.drop_zero];exact HP.out⟩
 case round =>
  obtain⟨k,hk,rfl,hv⟩:=hrel
  have HV:=Lib.hid hv
  clear hv
  by_cases hlt:k<44
  ·have hlt':k<namesO.length:=by rw[HL.out];exact hlt
   have hc:=HA.out.get (strsV_get namesO k hlt')
   rw[Nat.zero_add]at hc
   obtain⟨nm,hnm⟩: ∃nm,nm=namesO[k]:=⟨_,rfl⟩
   have hst:=fun b hb=>namesO_step s.toList k hlt' b hb
   rw[←hnm]at hc hst
   have hh:=hasp_any nm s wa
   cases hb:s.toList.isPrefixOf nm.toList
   ·have HS:=Lib.hid (hst false hb)
    rw[hb]at hh
    have HH:=Lib.hid hh
    clear hst hh hb hnm
    by_cases hle:s.size≤nm.size
    all_goals
     go_wp2_with (go_at_call 82;go_must (refine HH.out.mono ?_;rintro e w1 ⟨rfl,rfl⟩))
     go_round
     case rel=>exact⟨k+1,by omega,by go_num,by rw[←HV.out,HS.out,Bool.false_or]⟩
     case measure=>simp[intOf];omega
   ·have HS:=Lib.hid (hst true hb)
    have hle:s.size≤nm.size:=by
     have:=(List.isPrefixOf_iff_prefix.1 hb).length_le
     rwa [size_toList,size_toList]at this
    rw[hb]at hh
    have HH:=Lib.hid hh
    clear hst hh hb hnm
    go_wp2_with (go_at_call 82;go_must (refine HH.out.mono ?_;rintro e w1 ⟨rfl,rfl⟩))
    go_ret
    exact⟨ret_bool (by rw[←HV.out,HS.out,Bool.true_or]),HB.out⟩
  ·go_wp2_with fail
   go_ret
   exact⟨ret_bool (by rw[←HV.out,List.drop_of_length_le (by rw[HL.out];omega)];rfl),HB.out⟩
theorem More_any (s:ByteArray) (w:World) (hs:s.size≤9223372036854775807):Calls Tryz.prog 86 #[.string s] w fun e w'=>e= .returned (.bool (moreF s.toList))∧Below w.heap.size w w':=by
 have key:s.toList.head?≠some 38→Calls Tryz.prog 86 #[.string s] w fun e w'=>e= .returned (.bool (moreF s.toList))∧Below w.heap.size w w':=by
  intro hh
  have hp:=pre_no hh
  have HT:Hid (moreF s.toList=false):=by show _=_;rw[moreF,hp,hp];rfl
  have HC:=Lib.hid (cutp_no (s:=s) (p:=⟨#[38,35]⟩) (by rw[b3835];exact hp [35]) w)
  have HC2:=Lib.hid (cutp_no (s:=s) (p:=⟨#[38]⟩) (by rw[b38];exact hp []) w)
  clear hp hh
  go_enter Tryz.func86,Tryz.ntmps86
  go_wp2_with (go_at_call 134;go_must (first|(with_reducible refine HC.out.mono ?_)|(with_reducible refine HC2.out.mono ?_));rintro e w1 ⟨rfl,rfl⟩)
  go_ret
  exact⟨ret_bool HT.out.symm,Below.refl _ _⟩
 rcases amp_cases s.toList with⟨r,h⟩|⟨r,h,h35⟩|⟨c,r,h,h'⟩|h
 ·have hrs:r.length+2=s.size:=by rw[←size_toList,h];simp
  obtain⟨rb,hrb⟩: ∃rb,rb=strB r:=⟨_,rfl⟩
  have hrl:rb.toList=r:=by rw[hrb,toList_strB]
  have hsz:rb.size=r.length:=by rw[hrb,strB_size]
  have HT:Hid (moreF s.toList=decide (numN r=rb.size)):=by show _=_;rw[h,moreF_hash,hsz];rfl
  have hc:=cutp_yes (s:=s) (p:=⟨#[38,35]⟩) (r:=r) (by rw[h,b3835];rfl) w
  rw[←hrb]at hc
  have HC:=Lib.hid hc
  have HN:=Lib.hid (number_any rb w (by omega))
  rw[hrl]at HN
  generalize numN r=n at *
  generalize (numG r).2=v at *
  generalize decide (0<(numG r).1)=b at *
  clear h hrs hrb hrl hsz hc key
  go_enter Tryz.func86,Tryz.ntmps86
  go_wp2_with (first
   |(go_at_call 134;go_must (refine HC.out.mono ?_;rintro e w1 ⟨rfl,rfl⟩))
   |(go_at_call 135;go_must (refine HN.out.mono ?_;rintro e w1 ⟨rfl,rfl⟩)))
  go_ret
  exact⟨ret_bool (by rw[HT.out,Bool.eq_iff_iff];simp;omega),Below.refl _ _⟩
 ·have hrs:r.length+1=s.size:=by rw[←size_toList,h];simp
  have HT:Hid (moreF s.toList=beginsF r):=by show _=_;rw[h,moreF_amp h35]
  have HC:=Lib.hid (cutp_no (s:=s) (p:=⟨#[38,35]⟩) (by rw[h,b3835];exact pre2_no h35) w)
  have HC2:=Lib.hid (cutp_yes (s:=s) (p:=⟨#[38]⟩) (r:=r) (by rw[h,b38];rfl) w)
  have hb:=begins_any (strB r) w
  rw[toList_strB]at hb
  have HB:=Lib.hid hb
  generalize strB r=rb at *
  clear h hrs hb key h35
  go_enter Tryz.func86,Tryz.ntmps86
  go_wp2_with (first
   |(go_at_call 134;go_must (first|(with_reducible refine HC.out.mono ?_)|(with_reducible refine HC2.out.mono ?_));rintro e w1 ⟨rfl,rfl⟩)
   |(go_at_call 136;go_must (refine HB.out.mono ?_;rintro e w1 ⟨rfl,hb⟩;have HB1:=Lib.hid hb;clear hb)))
  go_ret
  exact⟨ret_bool HT.out.symm,HB1.out⟩
 ·exact key (by rw[h];simpa using h')
 ·exact key (by rw[h];simp)
end Go.Proofs.YtgepobccoffnaaaGreatDoor.Rd
end
section
namespace Go.Proofs.YtgepobccoffnaaaGreatDoor.Rd
open Go.RowKit Mem
theorem ret2_bool {a b c d:Bool} (h:a=b) (h':c=d):Ending.returned (.tuple #[.bool a,.bool c])= .returned (.tuple #[.bool b,.bool d]):=by rw[h,h']
theorem folds_any (s word:ByteArray) (w:World) (hs:s.size≤4294967280) :
 Calls Tryz.prog 191 #[.string s,.string word] w fun e w'=>e= .returned (.tuple #[.bool (foldsF s.toList word.toList).1,.bool (foldsF s.toList word.toList).2])∧Below w.heap.size w w':=by
 obtain⟨k,hk⟩: ∃k,k=min s.size word.size:=⟨_,rfl⟩
 have hmin:min (s.size:Int) (word.size:Int)=(k:Int):=by omega
 have hks:k≤s.size:=by omega
 have hkw:k≤word.size:=by omega
 have hF:foldsF s.toList word.toList=if lowS (s.toList.take k)≠word.toList.take k then(false,false)else(k==word.size,decide (k<word.size)):=by
  unfold foldsF
  rw[size_toList,size_toList,←hk]
 have e1:(s.extract 0 k).toList=s.toList.take k:=by rw[ext_list,List.drop_zero,Nat.sub_zero]
 have e2:(word.extract 0 k).toList=word.toList.take k:=by rw[ext_list,List.drop_zero,Nat.sub_zero]
 have hsm:=fun u=>small_any (s.extract 0 k) u (by unfold maxLen;rw[ByteArray.size_extract];omega)
 rw[←e1,←e2]at hF
 have eA:(strB (lowS (s.extract 0 k).toList)).toList=lowS (s.extract 0 k).toList:=toList_strB _
 rw[←eA]at hF
 obtain⟨A,hA⟩: ∃A,A=strB (lowS (s.extract 0 k).toList):=⟨_,rfl⟩
 rw[←hA]at hF hsm
 have HS:=Lib.hid hsm
 obtain⟨o,ho⟩: ∃o,o=foldsF s.toList word.toList:=⟨_,rfl⟩
 rw[←ho]at hF ⊢
 clear hsm hA eA e1 e2 hk ho
 by_cases hc:A.toList=(word.extract 0 k).toList
 ·rw[if_neg (fun h=>h hc)]at hF
  have HF:=Lib.hid hF
  have hn:(A.toList==(word.extract 0 k).toList)=true:=by rw[hc];simp
  clear hF hc
  go_enter Tryz.func191,Tryz.ntmps191
  go_wp2_with fail
  refine wp_region_calm (by kernel_rfl) (by kernel_rfl) ?_
  repeat
   with_reducible refine wpQuiet_step (fun K hK=> ?_)
   first
    |(with_reducible apply calm_skip
      ·rfl
      simp only[Act.put,List.setIfInBounds_toArray,List.set_cons_zero,List.set_cons_succ]
      refine hK _ ?_
      clear hK K)
    |(with_reducible apply calm_run
      ·rfl
      ·intro wq hC
       unfold Oper.quietAt
       go_simp
       first|done|(go_at_call 145;go_must (refine(HS.out _).mono ?_;rintro e wx ⟨rfl,hb⟩;exact⟨rfl,belowCall hC hb⟩))|with_reducible rfl|rfl
      simp only[Act.put,List.setIfInBounds_toArray,List.set_cons_zero,List.set_cons_succ]
      refine hK _ ?_
      clear hK K)
  with_reducible refine wpQuiet_nil ?_
  intro wq HQ
  go_wp2_with fail
  go_ret2
  exact⟨ret2_bool (by rw[HF.out];first|done|(show((k:Int)==(word.size:Int))=(k==word.size);rw[Bool.eq_iff_iff,beq_iff_eq,beq_iff_eq];omega)) (by rw[HF.out];first|done|(simp;done)|(apply decide_eq_decide.2;omega)),HQ.out⟩
 ·rw[if_pos hc]at hF
  have HF:=Lib.hid hF
  have hn:(A.toList==(word.extract 0 k).toList)=false:=by simpa using hc
  clear hF hc
  go_enter Tryz.func191,Tryz.ntmps191
  go_wp2_with fail
  refine wp_region_calm (by kernel_rfl) (by kernel_rfl) ?_
  repeat
   with_reducible refine wpQuiet_step (fun K hK=> ?_)
   first
    |(with_reducible apply calm_skip
      ·rfl
      simp only[Act.put,List.setIfInBounds_toArray,List.set_cons_zero,List.set_cons_succ]
      refine hK _ ?_
      clear hK K)
    |(with_reducible apply calm_run
      ·rfl
      ·intro wq hC
       unfold Oper.quietAt
       go_simp
       first|done|(go_at_call 145;go_must (refine(HS.out _).mono ?_;rintro e wx ⟨rfl,hb⟩;exact⟨rfl,belowCall hC hb⟩))|with_reducible rfl|rfl
      simp only[Act.put,List.setIfInBounds_toArray,List.set_cons_zero,List.set_cons_succ]
      refine hK _ ?_
      clear hK K)
  with_reducible refine wpQuiet_nil ?_
  intro wq HQ
  go_wp2_with fail
  go_ret2
  exact⟨ret2_bool (by rw[HF.out]) (by rw[HF.out]),HQ.out⟩
theorem unless_any (m:MkM) (b:Nat) (k:Int) (w:World) (hr:Row w b (machV m)):Calls Tryz.prog 141 #[.pointer (some ⟨b,0,none⟩),.int .i64 k] w fun e w'=>e= .returned (.int .i64 (unlessF m.closed k))∧w=w':=by
 obtain⟨-, -,hc2, -⟩:=mach_row hr
 clear hr
 cases hcl:m.closed
 all_goals
  rw[hcl]at hc2
  clear hcl
  go_enter Tryz.func141,Tryz.ntmps141
  go_wp2_with fail
  go_ret
  exact⟨rfl,rfl⟩
theorem ends_any (m:MkM) (b:Nat) (s:ByteArray) (w:World) (hr:Row w b (machV m)) (hs:s.size≤4294967280) (hn:m.name.length≤4294967280) :
 Calls Tryz.prog 140 #[.pointer (some ⟨b,0,none⟩),.string s] w fun e w'=>e= .returned (.int .i64 (endsF m s.toList))∧Below w.heap.size w w':=by
 obtain⟨-, -, -, -,hc4, -⟩:=mach_row hr
 have HR:=Lib.hid hr
 clear hr
 obtain⟨word,hw⟩: ∃word:ByteArray,word=(⟨#[60,47]⟩:ByteArray)++strB m.name:=⟨_,rfl⟩
 have hwl:word.toList= [60,47]++m.name:=by
  rw[hw,ByteArray.toList_eq,ByteArray.data_append,Array.toList_append]
  rfl
 have hwz:word.size=m.name.length+2:=by rw[←size_toList,hwl];simp
 have HFo:=Lib.hid (fun u=>folds_any s word u hs)
 have hE:endsF m s.toList=if(foldsF s.toList word.toList).2=true∨((foldsF s.toList word.toList).1=true∧s.size=word.size)then unlessF m.closed 0
  else if(foldsF s.toList word.toList).1=true∧(gapB (s.toList.getD word.size 0)||s.toList.getD word.size 0==62)=true then 3 else 0:=by
  unfold endsF
  rw[hwl,size_toList,hwz]
 obtain⟨o,ho⟩: ∃o,o=endsF m s.toList:=⟨_,rfl⟩
 rw[←ho]at hE ⊢
 have hfw:(foldsF s.toList word.toList).1=true→word.size≤s.size:=fun h=>by
  have:=(folds_whole h).1;rw[size_toList,size_toList]at this;exact this
 have hlow:word.size≤4294967282:=by omega
 have hcat: ¬9223372036854775807<2+(strB m.name).size:=by rw[strB_size];omega
 generalize foldsF s.toList word.toList=f at *
 obtain⟨f1,f2⟩:=f
 simp only at hE hfw HFo
 clear ho hwz hwl
 have HW:Hid ((⟨#[60,47]⟩:ByteArray)++strB m.name=word):=hw.symm
 clear hw
 cases f2
 ·cases f1
  ·have HE:=Lib.hid (show o=0 from hE.trans (by simp))
   clear hE hfw
   go_enter Tryz.func140,Tryz.ntmps140
   go_wp2_with (go_at_call 191;go_must (rw[HW.out];refine(HFo.out _).mono ?_;rintro e w1 ⟨rfl,hb⟩;have HB:=Lib.hid hb;clear hb))
   go_ret
   exact⟨by rw[HE.out];rfl,HB.out⟩
  ·have hlen:=hfw rfl
   clear hfw
   by_cases hsz:s.size=word.size
   ·have HE:=Lib.hid (hE.trans (if_pos (.inr ⟨rfl,hsz⟩)))
    clear hE
    have hszb:((s.size:Int)==(word.size:Int))=true:=by rw[hsz];simp
    go_enter Tryz.func140,Tryz.ntmps140
    go_wp2_with (first
     |(go_at_call 191;go_must (rw[HW.out];refine(HFo.out _).mono ?_;rintro e w1 ⟨rfl,hb⟩;have HB:=Lib.hid hb;clear hb))
     |(go_at_call 141;go_must (refine(unless_any m b 0 _ (HR.out.below HB.out HR.out.lt)).mono ?_;rintro e w2 ⟨rfl,rfl⟩)))
    go_ret
    exact⟨by rw[HE.out];rfl,HB.out⟩
   ·have hlt:word.size<s.size:=by omega
    rw[if_neg (by simp[hsz])]at hE
    have hszb:((s.size:Int)==(word.size:Int))=false:=by rw[beq_eq_false_iff_ne];omega
    have hget:s.toList.getD word.size 0=s[word.size]:=by
     rw[List.getD_eq_getElem?_getD,ByteArray.toList_eq,Lib.data_getElem? s _ hlt];rfl
    rw[hget]at hE
    have hsp:=fun u=>space_any s[word.size] u
    unfold gapB at hE
    rw[ueq s[word.size] 47,ueq s[word.size] 62]at hE
    have hu:=s[word.size].toNat_lt
    cases hs1:spaceB s[word.size]
    ·rw[hs1]at hE hsp
     have HSP:=Lib.hid hsp
     by_cases h47:(s[word.size].toNat:Int)=47
     ·have e47:((s[word.size].toNat:Int)==47)=true:=beq_iff_eq.2 h47
      have HE:=Lib.hid (hE.trans (if_pos ⟨rfl,by show(_||((s[word.size].toNat:Int)==47)||_)=true;rw[e47];rfl⟩))
      clear hE hs1 hsp hget h47
      go_enter Tryz.func140,Tryz.ntmps140
      go_wp2_with (first
       |(go_at_call 191;go_must (rw[HW.out];refine(HFo.out _).mono ?_;rintro e w1 ⟨rfl,hb⟩;have HB:=Lib.hid hb;clear hb))
       |(go_at_call 146;go_must (refine(HSP.out _).mono ?_;rintro e w2 ⟨rfl,rfl⟩)))
      go_ret
      exact⟨by rw[HE.out];rfl,HB.out⟩
     ·have e47:((s[word.size].toNat:Int)==47)=false:=beq_eq_false_iff_ne.2 h47
      cases h62:((s[word.size].toNat:Int)==62)
      ·have HE:=Lib.hid (hE.trans (if_neg (fun h=>by have:=h.2;change (_||((s[word.size].toNat:Int)==47)||((s[word.size].toNat:Int)==62))=true at this;rw[e47,h62]at this;cases this)))
       clear hE hs1 hsp hget h47
       go_enter Tryz.func140,Tryz.ntmps140
       go_wp2_with (first
        |(go_at_call 191;go_must (rw[HW.out];refine(HFo.out _).mono ?_;rintro e w1 ⟨rfl,hb⟩;have HB:=Lib.hid hb;clear hb))
        |(go_at_call 146;go_must (refine(HSP.out _).mono ?_;rintro e w2 ⟨rfl,rfl⟩)))
       go_ret
       exact⟨by rw[HE.out];rfl,HB.out⟩
      ·have HE:=Lib.hid (hE.trans (if_pos ⟨rfl,by show(_||_||((s[word.size].toNat:Int)==62))=true;rw[h62,Bool.or_true]⟩))
       clear hE hs1 hsp hget h47
       go_enter Tryz.func140,Tryz.ntmps140
       go_wp2_with (first
        |(go_at_call 191;go_must (rw[HW.out];refine(HFo.out _).mono ?_;rintro e w1 ⟨rfl,hb⟩;have HB:=Lib.hid hb;clear hb))
        |(go_at_call 146;go_must (refine(HSP.out _).mono ?_;rintro e w2 ⟨rfl,rfl⟩)))
       go_ret
       exact⟨by rw[HE.out];rfl,HB.out⟩
    ·rw[hs1]at hE hsp
     have HSP:=Lib.hid hsp
     have HE:=Lib.hid (hE.trans (if_pos ⟨rfl,by simp⟩))
     clear hE hs1 hsp hget
     go_enter Tryz.func140,Tryz.ntmps140
     go_wp2_with (first
      |(go_at_call 191;go_must (rw[HW.out];refine(HFo.out _).mono ?_;rintro e w1 ⟨rfl,hb⟩;have HB:=Lib.hid hb;clear hb))
      |(go_at_call 146;go_must (refine(HSP.out _).mono ?_;rintro e w2 ⟨rfl,rfl⟩)))
     go_ret
     exact⟨by rw[HE.out];rfl,HB.out⟩
 ·have HE:=Lib.hid (hE.trans (if_pos (.inl rfl)))
  clear hE hfw
  go_enter Tryz.func140,Tryz.ntmps140
  go_wp2_with (first
   |(go_at_call 191;go_must (rw[HW.out];refine(HFo.out _).mono ?_;rintro e w1 ⟨rfl,hb⟩;have HB:=Lib.hid hb;clear hb))
   |(go_at_call 141;go_must (refine(unless_any m b 0 _ (HR.out.below HB.out HR.out.lt)).mono ?_;rintro e w2 ⟨rfl,rfl⟩)))
  go_ret
  exact⟨by rw[HE.out];rfl,HB.out⟩
end Go.Proofs.YtgepobccoffnaaaGreatDoor.Rd
namespace Go.Proofs.YtgepobccoffnaaaGreatDoor.Rd
open Go.RowKit Mem
theorem declared_any (m:MkM) (b:Nat) (s:ByteArray) (w:World) (hr:Row w b (machV m)) (hs:s.size≤4294967280) :
 Calls Tryz.prog 143 #[.pointer (some ⟨b,0,none⟩),.string s] w fun e w'=>e= .returned (.int .i64 (declF m s.toList))∧Below w.heap.size w w':=by
 have HR:=Lib.hid hr
 clear hr
 have F1:=fun u=>folds_any s ⟨#[60,33,45,45]⟩ u hs
 have F2:=fun u=>folds_any s ⟨#[60,33,100,111,99,116,121,112,101]⟩ u hs
 have P1:=fun u=>hasp_any s ⟨#[60,33,91,67,68,65,84,65,91]⟩ u
 have P2:=fun u=>hasp_any ⟨#[60,33,91,67,68,65,84,65,91]⟩ s u
 rw[show(⟨#[60,33,45,45]⟩:ByteArray).toList=comW from by rw[ByteArray.toList_eq];rfl]at F1
 rw[show(⟨#[60,33,100,111,99,116,121,112,101]⟩:ByteArray).toList=docW from by rw[ByteArray.toList_eq];rfl]at F2
 rw[show(⟨#[60,33,91,67,68,65,84,65,91]⟩:ByteArray).toList=cdataW from by rw[ByteArray.toList_eq];rfl]at P1 P2
 obtain⟨o,ho⟩: ∃o,o=declF m s.toList:=⟨_,rfl⟩
 rw[←ho]
 unfold declF at ho
 generalize foldsF s.toList comW=f1 at *
 generalize foldsF s.toList docW=f2 at *
 generalize cdataW.isPrefixOf s.toList=c at *
 generalize s.toList.isPrefixOf cdataW=d at *
 obtain⟨a1,a2⟩:=f1
 obtain⟨b1,b2⟩:=f2
 have hx: ∃cd cl,cd=m.cdata∧cl=unlessF m.closed 8:=⟨_,_,rfl,rfl⟩
 obtain⟨cd,cl,hcd,hcl⟩:=hx
 have hu: ∀u,Row u b (machV m)→Calls Tryz.prog 141 #[.pointer (some ⟨b,0,none⟩),.int .i64 8] u _:=fun u hu=>unless_any m b 8 u hu
 rw[←hcl]at hu ho
 rw[←hcd]at ho
 have HO:=Lib.hid ho
 have HU:=Lib.hid hu
 have G1:=Lib.hid F1
 have G2:=Lib.hid F2
 have G3:=Lib.hid P1
 have G4:=Lib.hid P2
 have HC:Hid (∀u,Row u b (machV m)→u.cell? ⟨b,5,none⟩=some (.bool cd)):=fun u h=>by rw[hcd];exact h.cell rfl
 clear ho hu F1 F2 P1 P2 hcl hcd
 go_enter Tryz.func143,Tryz.ntmps143
 go_wp2_with (first
  |(go_at_call 191;go_must (first
     |(with_reducible refine(G1.out _).mono ?_;rintro e w1 ⟨rfl,hb⟩;have HB1:=Lib.hid hb;clear hb)
     |(with_reducible refine(G2.out _).mono ?_;rintro e w2 ⟨rfl,hb⟩;have HB2:=Lib.hid (belowCall HB1.out hb);have HR2:=Lib.hid (HR.out.below HB2.out HR.out.lt);have hc5:=HC.out _ HR2.out;clear hb)))
  |(go_at_call 82;go_must ((first|(with_reducible refine(G3.out _).mono ?_)|(with_reducible refine(G4.out _).mono ?_));rintro e w3 ⟨rfl,rfl⟩))
  |(go_at_call 141;go_must (refine(HU.out _ HR2.out).mono ?_;rintro e w4 ⟨rfl,rfl⟩)))
 all_goals go_ret
 all_goals exact⟨by rw[HO.out];simp only[*];simp,HB2.out⟩
theorem uiff (c d:UInt8) (n:Int) (h:(d.toNat:Int)=n):(c=d)↔(((c.toNat:Int)==n)=true):=by
 rw[beq_iff_eq,←h,←UInt8.toNat_inj];omega
theorem look_two (m:MkM) (c0 c1:UInt8) (r:Str) (hm:m.mode=0):lookF m (c0::c1::r)=if letterB c1=true then 2 else if((c1.toNat:Int)==63)=true then 8 else if((c1.toNat:Int)==33)=true then declF m (c0::c1::r)else if((c1.toNat:Int) !=47)=true then 0
 else match r with
  | []=>unlessF m.closed 0
  |d::_=>if letterB d=true then 3 else if((d.toNat:Int)==62)=true then 4 else 8:=by
 unfold lookF
 rw[if_neg (fun h=>h hm)]
 simp only[uiff c1 63 63 rfl,uiff c1 33 33 rfl,ne_eq,uiff c1 47 47 rfl,bne,Bool.not_eq_true',Bool.not_eq_true]
 cases r with
 |nil=>rfl
 |cons d r=>simp only[uiff d 62 62 rfl]
theorem look_any (m:MkM) (b:Nat) (w:World) (hr:Row w b (machV m)) (hs:m.buf.length≤4294967280) (hn:m.name.length≤4294967280) :
 Calls Tryz.prog 88 #[.pointer (some ⟨b,0,none⟩)] w fun e w'=>e= .returned (.int .i64 (lookF m m.buf))∧Below w.heap.size w w':=by
 obtain⟨hc0, -, -,hc3, -⟩:=mach_row hr
 have HR:=Lib.hid hr
 have HEn:=Lib.hid (ends_any m b (strB m.buf) w hr (by rw[strB_size];exact hs) hn)
 have HDe:=Lib.hid (declared_any m b (strB m.buf) w hr (by rw[strB_size];exact hs))
 have HUn:=Lib.hid (unless_any m b 0 w hr)
 rw[toList_strB]at HEn HDe
 obtain⟨S,hS⟩: ∃S,S=strB m.buf:=⟨_,rfl⟩
 have hz:S.size=m.buf.length:=by rw[hS];exact strB_size _
 have hSl:S.data.toList=m.buf:=by rw[hS];rfl
 rw[←hS]at hc0 HEn HDe
 obtain⟨o,ho⟩: ∃o,o=lookF m m.buf:=⟨_,rfl⟩
 rw[←ho]
 clear hr hS
 by_cases hm:m.mode=0
 ·rw[hm]at hc3
  match hbuf:m.buf with
  | [] =>
    rw[hbuf]at hz ho
    have HO:=Lib.hid (show o=unlessF m.closed 0 from by rw[ho];unfold lookF;rw[if_neg (fun h=>h hm)])
    have hlt:(S.size:Int)<2:=by rw[hz];decide
    clear ho hm hbuf hz HEn HDe hs hSl
    go_enter Tryz.func88,Tryz.ntmps88
    go_wp2_with (go_at_call 141;go_must (refine HUn.out.mono ?_;rintro e w4 ⟨rfl,rfl⟩))
    go_ret
    exact⟨by rw[HO.out];rfl,Below.refl _ _⟩
  | [c0] =>
    rw[hbuf]at hz ho
    have HO:=Lib.hid (show o=unlessF m.closed 0 from by rw[ho];unfold lookF;rw[if_neg (fun h=>h hm)])
    have hlt:(S.size:Int)<2:=by rw[hz];simp
    clear ho hm hbuf hz HEn HDe hs hSl
    go_enter Tryz.func88,Tryz.ntmps88
    go_wp2_with (go_at_call 141;go_must (refine HUn.out.mono ?_;rintro e w4 ⟨rfl,rfl⟩))
    go_ret
    exact⟨by rw[HO.out];rfl,Below.refl _ _⟩
  |c0::c1::r =>
   rw[hbuf]at hz ho
   rw[look_two m c0 c1 r hm,←hbuf]at ho
   have h1:1<S.size:=by rw[hz];simp
   have hb1:S[1]'h1=c1:=by
    have:=Lib.data_getElem? S 1 h1
    rw[hSl,hbuf]at this
    exact(Option.some.inj this).symm
   have HL1:=Lib.hid (fun u=>letter_any c1 u)
   have hu1:=c1.toNat_lt
   cases r with
   |nil =>
    simp only[List.length_cons,List.length_nil]at hz
    simp only at ho
    have hlt: ¬(S.size:Int)<2:=by rw[hz];decide
    have hlt3:(S.size:Int)<3:=by rw[hz];decide
    generalize declF m m.buf=dc at *
    generalize unlessF m.closed 0=un at *
    generalize letterB c1=l1 at *
    have HO:=Lib.hid ho
    clear ho hbuf hSl HEn hm hs hz
    go_enter Tryz.func88,Tryz.ntmps88
    go_wp2_with (first
     |(go_at_call 142;go_must (refine(HL1.out _).mono ?_;rintro e w4 ⟨rfl,rfl⟩))
     |(go_at_call 143;go_must (refine HDe.out.mono ?_;rintro e w1 ⟨rfl,hb⟩;have HB:=Lib.hid hb;clear hb))
     |(go_at_call 141;go_must (refine HUn.out.mono ?_;rintro e w4 ⟨rfl,rfl⟩)))
    all_goals go_ret
    all_goals exact⟨by rw[HO.out];simp only[*];simp,by first|exact HB.out|exact Below.refl _ _⟩
   |cons d r =>
    simp only[List.length_cons]at hz
    simp only at ho
    have h2:2<S.size:=by omega
    have hb2:S[2]'h2=d:=by
     have:=Lib.data_getElem? S 2 h2
     rw[hSl,hbuf]at this
     exact(Option.some.inj this).symm
    have HL2:=Lib.hid (fun u=>letter_any d u)
    have hu2:=d.toNat_lt
    have hlt: ¬(S.size:Int)<2:=by omega
    have hlt3: ¬(S.size:Int)<3:=by omega
    generalize declF m m.buf=dc at *
    generalize letterB c1=l1 at *
    generalize letterB d=l2 at *
    have HO:=Lib.hid ho
    clear ho hbuf hSl HEn hm hs hz HUn
    go_enter Tryz.func88,Tryz.ntmps88
    go_wp2_with (first
     |(go_at_call 142;go_must ((first|(with_reducible refine(HL1.out _).mono ?_)|(with_reducible refine(HL2.out _).mono ?_));rintro e w4 ⟨rfl,rfl⟩))
     |(go_at_call 143;go_must (refine HDe.out.mono ?_;rintro e w1 ⟨rfl,hb⟩;have HB:=Lib.hid hb;clear hb)))
    all_goals go_ret
    all_goals exact⟨by rw[HO.out];simp only[*];simp,by first|exact HB.out|exact Below.refl _ _⟩
 ·have hm':(m.mode==0)=false:=beq_eq_false_iff_ne.2 hm
  have HO:=Lib.hid (show o=endsF m m.buf from by rw[ho];unfold lookF;rw[if_pos hm])
  clear ho hm HDe HUn hz hs hSl
  go_enter Tryz.func88,Tryz.ntmps88
  go_wp2_with (go_at_call 140;go_must (refine HEn.out.mono ?_;rintro e w1 ⟨rfl,hb⟩;have HB:=Lib.hid hb;clear hb))
  go_ret
  exact⟨by rw[HO.out];rfl,HB.out⟩
end Go.Proofs.YtgepobccoffnaaaGreatDoor.Rd
namespace Go.Proofs.YtgepobccoffnaaaGreatDoor.Rd
open Go.RowKit Mem
theorem keeps_then' {F:Nat→Prop} {w a u:World} (h:Keeps F w a) (hq:Below a.heap.size a u):Keeps F w u:=h.trans (Keeps.ofBelow hq)
theorem zero_below {a u:World} {R:Nat} {o:Obj} (h:a.heap[R]?=some o) (hq:Below a.heap.size a u) (hR:R<a.heap.size):u.heap[R]?=some o:=(hq.block R hR).trans h
theorem only_zero {a u:World} {R b:Nat} {o:Obj} (h:a.heap[R]?=some o) (hk:Keeps (Only b) a u) (hR:R<a.heap.size) (hne:R≠b):u.heap[R]?=some o:=(hk.block R hR hne).trans h
end Go.Proofs.YtgepobccoffnaaaGreatDoor.Rd
namespace Go.Proofs.YtgepobccoffnaaaGreatDoor.Rd
open Go.RowKit Mem
end Go.Proofs.YtgepobccoffnaaaGreatDoor.Rd
end
