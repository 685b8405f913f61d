/- Texts joined for a claim: RRefsH, RRefsL, RRefsM, RRefsP: plain laws and contracts. No conditions beyond those that each lemma types. -/
import Derived.Test.YtgepobccoffnaaaGreatDoorQ35
import Derived.Lib.IndexLaws
set_option linter.unusedVariables false
set_option linter.unusedSimpArgs false
set_option maxRecDepth 100000
set_option maxHeartbeats 8000000
namespace Go.Proofs.YtgepobccoffnaaaGreatDoor.Rd
open Go.RowKit Mem
theorem odd_char: ∀j:Nat,j<32→charB (oddT.getD j 0:Nat)=true∧oddT.getD j 0≤1114111:=by
 have h:((List.range 32).all fun j=>charB (oddT.getD j 0:Nat)&&decide (oddT.getD j 0≤1114111))=true:=by decide +kernel
 intro j hj
 have:=List.all_eq_true.1 h j (List.mem_range.2 hj)
 simpa using this
theorem numF_bad {n:Int} (h:n=0∨charB n=false):numF n=encF 0xfffd:=by unfold numF numC;rw[if_pos h]
theorem numC_good {n:Int} (hn:n≠0) (hc:charB n=true):numC n=if 0x80≤n∧n<0xa0 then oddT.getD (n.toNat-0x80) 0 else n.toNat:=by
 unfold numC
 rw[if_neg]
 rintro(h|h)
 ·exact hn h
 ·rw[hc]at h;cases h
theorem numF_odd {j:Nat} (hj:j<32):numF ((128+j:Nat):Int)=encF (oddT.getD j 0):=by
 have hc:charB ((128+j:Nat):Int)=true:=(charB_iff _).2 ⟨by omega,by omega,by omega⟩
 rw[numF,numC_good (by omega) hc,if_pos (by omega),Int.toNat_natCast,Nat.add_sub_cancel_left]
theorem encR_num {n:Int} (hn:n≠0) (h: ¬(128≤n∧n<160)):encR n=numF n:=by
 cases hc:charB n
 ·rw[numF_bad (.inr hc),encR,hc];rfl
 ·rw[encR,if_pos hc,numF,numC_good hn hc,if_neg h]
theorem flat_one (r:Int): [r].flatMap encR=encR r:=by simp
theorem ret_strB {a b:Str} (h:a=b):Ending.returned (.string (strB a))= .returned (.string (strB b)):=by rw[h]
theorem Enc_one (r:Int) (g:Nat) (c:Nat) (w:World) (hr: -2147483648≤r∧r≤2147483647) (ha:At w (some ⟨g,0,none⟩) [.int .i32 r]) :
 Calls Tryz.prog 187 #[.slice (some ⟨g,0,none⟩) 1 c] w fun e w'=>e= .returned (.string (strB (encR r)))∧Below w.heap.size w w' :=
 (Encode_any [r] _ c w (by simp) (fun q hq=>by rw[show q=r from by simpa using hq];exact hr) ha).mono fun e w' ⟨h1,h2⟩=>⟨by rw[h1,flat_one],h2⟩
theorem Number_any (n:Int) (w:World) (h0: -9223372036854775808≤n) (h1:n≤9223372036854775807):Calls Tryz.prog 137 #[.int .i64 n] w fun e w'=>e= .returned (.string (strB (numF n)))∧Below w.heap.size w w':=by
 by_cases ha:n=0∨n<0∨1114111<n
 ·have hN:Hid (numF n=encR 65533):=by
   show _=_
   rw[numF_bad]
   ·rfl
   ·rcases ha with h|h
    ·exact .inl h
    ·refine .inr ?_
     cases hc:charB n
     ·rfl
     ·obtain⟨_,_,_⟩:=(charB_iff n).1 hc;omega
  have hat:=at_alloc (w:=w) (cur:= #[.int .i32 65533]) (e:=21) rfl rfl
  have HE:=Lib.hid (Enc_one 65533 w.heap.size 1 _ (by omega) hat)
  have HB:=Lib.hid ((Below.refl _ w).alloc (Nat.le_refl _) (.cells #[.int .i32 65533] 21))
  clear hat
  rcases ha with h|h|h
  ·have h':(n==0)=true:=by simpa using h
   clear h
   go_enter Tryz.func137,Tryz.ntmps137
   go_wp2_with (go_at_call 187;go_must (refine HE.out.mono ?_;rintro e w1 ⟨rfl,hb⟩;have HB1:=Lib.hid hb;clear hb))
   go_ret
   exact⟨ret_strB hN.out.symm,belowCall HB.out HB1.out⟩
  ·have h':(n==0)=false:=by simpa using (show n≠0 from by omega)
   go_enter Tryz.func137,Tryz.ntmps137
   go_wp2_with (go_at_call 187;go_must (refine HE.out.mono ?_;rintro e w1 ⟨rfl,hb⟩;have HB1:=Lib.hid hb;clear hb))
   go_ret
   exact⟨ret_strB hN.out.symm,belowCall HB.out HB1.out⟩
  ·have h':(n==0)=false:=by simpa using (show n≠0 from by omega)
   have h2: ¬n<0:=by omega
   go_enter Tryz.func137,Tryz.ntmps137
   go_wp2_with (go_at_call 187;go_must (refine HE.out.mono ?_;rintro e w1 ⟨rfl,hb⟩;have HB1:=Lib.hid hb;clear hb))
   go_ret
   exact⟨ret_strB hN.out.symm,belowCall HB.out HB1.out⟩
 ·have h':(n==0)=false:=by simpa using (show n≠0 from by omega)
  have hb1: ¬n<0:=by omega
  have hb2: ¬n>1114111:=by omega
  obtain⟨k,rfl⟩:=Int.eq_ofNat_of_zero_le (by omega:0≤n)
  by_cases hk:128≤k∧k<160
  ·obtain⟨hk1,hk2⟩:=hk
   obtain⟨j,hkj⟩: ∃j,k=128+j:=⟨k-128,by omega⟩
   have hj:j<32:=by omega
   obtain⟨c1,c2⟩:=odd_char j hj
   have hN:Hid (numF (k:Int)=encR (oddT.getD j 0:Nat)):=by
    show _=_
    rw[hkj,numF_odd hj,encR,if_pos c1];rfl
   obtain⟨q,hq⟩: ∃q,q=oddT.getD j 0:=⟨_,rfl⟩
   have h9:char9 k=q:=by rw[char9,if_pos (by omega),hkj,Nat.add_sub_cancel_left,hq]
   rw[←hq]at hN c2
   have HL:=Lib.hid (LChar_any k (by omega) w)
   rw[h9]at HL
   have HE:=Lib.hid (fun u=>Enc_one (q:Nat) (World.heap u).size 1 _ (by omega) (at_alloc (w:=u) (cur:= #[.int .i32 (q:Nat)]) (e:=21) rfl rfl))
   clear hq h9 ha c1 hkj hj
   have hge:(k:Int)≥128:=by omega
   have hlt:(k:Int)<160:=by omega
   go_enter Tryz.func137,Tryz.ntmps137
   go_wp2_with (first
    |(go_at_call 186;go_must (refine HL.out.mono ?_;rintro e w1 ⟨rfl,hb⟩;have HB0:=Lib.hid hb;clear hb))
    |(go_at_call 187;go_must (refine(HE.out _).mono ?_;rintro e w2 ⟨rfl,hb⟩;have HB1:=Lib.hid hb;clear hb)))
   go_ret
   exact⟨ret_strB hN.out.symm,belowCall HB0.out (belowCall ((Below.refl _ _).alloc (Nat.le_refl _) _) HB1.out)⟩
  ·have hN:=Lib.hid (encR_num (n:=(k:Int)) (by omega) (by omega))
   have HE:=Lib.hid (fun u=>Enc_one (k:Nat) (World.heap u).size 1 _ (by omega) (at_alloc (w:=u) (cur:= #[.int .i32 (k:Nat)]) (e:=21) rfl rfl))
   clear ha
   by_cases hk1:128≤k
   ·have hge:(k:Int)≥128:=by omega
    have hlt: ¬(k:Int)<160:=by omega
    clear hk
    go_enter Tryz.func137,Tryz.ntmps137
    go_wp2_with (first
     |(go_at_call 187;go_must (refine(HE.out _).mono ?_;rintro e w2 ⟨rfl,hb⟩;have HB1:=Lib.hid hb;clear hb)))
    go_ret
    exact⟨ret_strB hN.out,belowCall ((Below.refl _ _).alloc (Nat.le_refl _) _) HB1.out⟩
   ·have hge: ¬(k:Int)≥128:=by omega
    clear hk
    go_enter Tryz.func137,Tryz.ntmps137
    go_wp2_with (first
     |(go_at_call 187;go_must (refine(HE.out _).mono ?_;rintro e w2 ⟨rfl,hb⟩;have HB1:=Lib.hid hb;clear hb)))
    go_ret
    exact⟨ret_strB hN.out,belowCall ((Below.refl _ _).alloc (Nat.le_refl _) _) HB1.out⟩
theorem cutp_yes {s p:ByteArray} {r:Str} (h:s.toList=p.toList++r) (w:World):Calls Tryz.prog 134 #[.string s,.string p] w fun e w'=>e= .returned (.tuple #[.string (strB r),.bool true])∧w=w':=by
 rw[ByteArray.toList_eq,ByteArray.toList_eq]at h
 have h1:Lib.hasPrefix s.data.toList p.data.toList=true:=by rw[h];simp[Lib.hasPrefix]
 have h2:Lib.trimPrefix s.data.toList p.data.toList=r:=by rw[Lib.trimPrefix,if_pos h1,h];simp
 refine(CutPrefix_any s p w).mono fun e w' ⟨he,hw⟩=>⟨?_,hw.symm⟩
 rw[he,h1,h2];rfl
theorem cutp_no {s p:ByteArray} (h:p.toList.isPrefixOf s.toList=false) (w:World):Calls Tryz.prog 134 #[.string s,.string p] w fun e w'=>e= .returned (.tuple #[.string s,.bool false])∧w=w':=by
 rw[ByteArray.toList_eq,ByteArray.toList_eq]at h
 have h1:Lib.hasPrefix s.data.toList p.data.toList=false:=h
 have h2:Lib.trimPrefix s.data.toList p.data.toList=s.data.toList:=by rw[Lib.trimPrefix,h1];rfl
 refine(CutPrefix_any s p w).mono fun e w' ⟨he,hw⟩=>⟨?_,hw.symm⟩
 rw[he,h1,h2]
def wordN (n:Nat):Bool:=decide (48≤n∧n≤57∨97≤n∧n≤122∨65≤n∧n≤90∨n=61)
theorem wordB_nat (c:UInt8):wordB c=wordN c.toNat:=by
 unfold wordB wordN
 rw[Bool.eq_iff_iff]
 simp only[Bool.or_eq_true,Bool.and_eq_true,decide_eq_true_eq,beq_iff_eq,UInt8.le_iff_toNat_le,←UInt8.toNat_inj]
 simp only[show(48:UInt8).toNat=48 from rfl,show(57:UInt8).toNat=57 from rfl,show(97:UInt8).toNat=97 from rfl,show(122:UInt8).toNat=122 from rfl,show(65:UInt8).toNat=65 from rfl,show(90:UInt8).toNat=90 from rfl,show(61:UInt8).toNat=61 from rfl]
 omega
theorem word_any (n:Nat) (hn:n<256) (w:World):Calls Tryz.prog 139 #[.int .u8 n] w fun e w'=>e= .returned (.bool (wordN n))∧w=w':=by
 have HW:Hid (wordN n=decide (48≤n∧n≤57∨97≤n∧n≤122∨65≤n∧n≤90∨n=61)):=by show _=_;rfl
 have hc:(48≤n∧n≤57)∨(97≤n∧n≤122)∨(65≤n∧n≤90)∨n=61∨n<48∨(57<n∧n<65∧n≠61)∨(90<n∧n<97)∨122<n:=by omega
 rcases hc with⟨a,b⟩|⟨a,b⟩|⟨a,b⟩|rfl|a|⟨a,b,c⟩|⟨a,b⟩|a
 all_goals
  go_enter Tryz.func139,Tryz.ntmps139
  go_wp2_with fail
  all_goals (go_ret;exact⟨ret_bool (by rw[HW.out];first|(simp[*];done)|(rw[Bool.eq_iff_iff];simp[*];done)|(rw[Bool.eq_iff_iff];simp;omega)),rfl⟩)
theorem takeNum_no {r:Str} (h:(numG r).1=0):takeNum r=([],0):=by rw[takeNum,if_pos h]
theorem takeNum_semi {r:Str} (h:(numG r).1≠0) (h':(r.drop (numN r)).head?=some 59):takeNum r=(numF (numG r).2,numN r+1+2):=by rw[takeNum,if_neg h,if_pos h']
theorem takeNum_open {r:Str} (h:(numG r).1≠0) (h':(r.drop (numN r)).head?≠some 59):takeNum r=(numF (numG r).2,numN r+2):=by rw[takeNum,if_neg h,if_neg h']
theorem digsF_bound (b:Nat): ∀(k:Nat) (s:Str) (v:Nat),v≤0x110000→(digsF b k s v).2≤0x110000
 |0,_,_,h=>h
 |_+1,[],_,h=>h
 |k+1,c::r,v,h=>by
  unfold digsF
  cases digF b c with
  |none=>exact h
  |some d=>exact digsF_bound b k r _ (Nat.min_le_right _ _)
theorem numG_bound (r:Str):(numG r).2≤1114112:=digsF_bound _ _ _ _ (Nat.zero_le _)
theorem head_byte (s:ByteArray) (n:Nat) (h:n<s.size):(s.toList.drop n).head?=some s[n]:=by rw[drop_byte s n h];rfl
theorem head_none (s:ByteArray) (n:Nat) (h: ¬n<s.size):(s.toList.drop n).head?=none:=by rw[List.drop_of_length_le (by rw[size_toList];omega)];rfl
theorem last_byte (s:ByteArray) (m:Nat) (h:m<s.size):(s.toList.take (m+1)).getLast?=some s[m]:=by
 have h':m<s.toList.length:=by rw[size_toList];exact h
 rw[List.take_succ_eq_append_getElem h',List.getLast?_concat]
 simp only[ByteArray.toList_eq]
 rfl
theorem byte_eq {b c:UInt8} (h:b=c):((b.toNat:Int)==(c.toNat:Int))=true:=by rw[h];simp
theorem byte_neq {b c:UInt8} (h:b≠c):((b.toNat:Int) !=(c.toNat:Int))=true:=by rw[bne,byte_ne h];rfl
theorem byte_neq' {b c:UInt8} (h:b=c):((b.toNat:Int) !=(c.toNat:Int))=false:=by rw[bne,byte_eq h];rfl
theorem strB_size (l:Str):(strB l).size=l.length:=by rw[←size_toList,toList_strB]
theorem Take_hash (s:ByteArray) (r:Str) (attr:Bool) (w:World) (hs:s.size≤9223372036854775807) (h:s.toList=38::35::r):Calls Tryz.prog 87 #[.string s,.bool attr] w fun e w' =>
 e= .returned (.tuple #[.string (strB (takeF s.toList attr).1),.int .i64 (takeF s.toList attr).2])∧Below w.heap.size w w':=by
 have HT:Hid (takeF s.toList attr=takeNum r):=by show _=_;rw[h,takeF_hash]
 have HC:=Lib.hid (cutp_yes (s:=s) (p:=⟨#[38,35]⟩) (r:=r) (by rw[h,ByteArray.toList_eq];rfl) w)
 have hrs:r.length+2=s.size:=by rw[←size_toList,h];simp
 obtain⟨rb,hrb⟩: ∃rb,rb=strB r:=⟨_,rfl⟩
 have hrl:rb.toList=r:=by rw[hrb,toList_strB]
 have hsz:rb.size=r.length:=by rw[hrb,strB_size]
 have HN:=Lib.hid (number_any rb w (by omega))
 have hle:=numN_le r
 have hbd:=numG_bound r
 rw[hrl]at HN
 rw[←hrb]at HC
 obtain⟨n,hn⟩: ∃n,n=numN r:=⟨_,rfl⟩
 obtain⟨v,hv⟩: ∃v,v=(numG r).2:=⟨_,rfl⟩
 have hnr:n≤rb.size:=by omega
 have hr2:rb.size≤9223372036854775805:=by omega
 rw[←hn,←hv]at HN
 rw[←hv]at hbd
 have HX:=Lib.hid (fun u=>Number_any (v:Nat) u (by omega) (by omega))
 by_cases hc:(numG r).1=0
 ·have HR:=Lib.hid (takeNum_no hc)
  rw[hc]at HN
  clear h hrs hrb hrl hsz hle hn hv hc
  go_enter Tryz.func87,Tryz.ntmps87
  go_wp2_with (first
   |(go_at_call 134;go_must (refine HC.out.mono ?_;rintro e w1 ⟨rfl,rfl⟩))
   |(go_at_call 135;go_must (refine HN.out.mono ?_;rintro e w1 ⟨rfl,rfl⟩)))
  go_ret2
  exact⟨ret2_str (by rw[HT.out,HR.out];rfl) (by rw[HT.out,HR.out];rfl),Below.refl _ _⟩
 ·rw[decide_eq_true (by omega:0<(numG r).1)]at HN
  by_cases hlt:n<rb.size
  ·have hhd:=head_byte rb n hlt
   rw[hrl]at hhd
   by_cases h59:rb[n]=59
   ·have HR:=Lib.hid (takeNum_semi hc (by rw[←hn,hhd,h59]))
    have he:((rb[n].toNat:Int)==59)=true:=byte_eq h59
    rw[←hn,←hv]at HR
    clear h hrs hrb hrl hsz hle hn hv hc hhd h59
    go_enter Tryz.func87,Tryz.ntmps87
    go_wp2_with (first
     |(go_at_call 134;go_must (refine HC.out.mono ?_;rintro e w1 ⟨rfl,rfl⟩))
     |(go_at_call 135;go_must (refine HN.out.mono ?_;rintro e w1 ⟨rfl,rfl⟩))
     |(go_at_call 137;go_must (refine(HX.out _).mono ?_;rintro e w1 ⟨rfl,hb⟩;have HB:=Lib.hid hb;clear hb)))
    go_ret2
    exact⟨ret2_str (by rw[HT.out,HR.out]) (by rw[HT.out,HR.out];show _=((n+1+2:Nat):Int);omega),HB.out⟩
   ·have HR:=Lib.hid (takeNum_open hc (by rw[←hn,hhd];simpa using h59))
    have he:((rb[n].toNat:Int)==59)=false:=byte_ne h59
    rw[←hn,←hv]at HR
    clear h hrs hrb hrl hsz hle hn hv hc hhd h59
    go_enter Tryz.func87,Tryz.ntmps87
    go_wp2_with (first
     |(go_at_call 134;go_must (refine HC.out.mono ?_;rintro e w1 ⟨rfl,rfl⟩))
     |(go_at_call 135;go_must (refine HN.out.mono ?_;rintro e w1 ⟨rfl,rfl⟩))
     |(go_at_call 137;go_must (refine(HX.out _).mono ?_;rintro e w1 ⟨rfl,hb⟩;have HB:=Lib.hid hb;clear hb)))
    go_ret2
    exact⟨ret2_str (by rw[HT.out,HR.out]) (by rw[HT.out,HR.out];show _=((n+2:Nat):Int);omega),HB.out⟩
  ·have hhd:=head_none rb n hlt
   rw[hrl]at hhd
   have HR:=Lib.hid (takeNum_open hc (by rw[←hn,hhd];simp))
   rw[←hn,←hv]at HR
   clear h hrs hrb hrl hsz hle hn hv hc hhd
   go_enter Tryz.func87,Tryz.ntmps87
   go_wp2_with (first
    |(go_at_call 134;go_must (refine HC.out.mono ?_;rintro e w1 ⟨rfl,rfl⟩))
    |(go_at_call 135;go_must (refine HN.out.mono ?_;rintro e w1 ⟨rfl,rfl⟩))
    |(go_at_call 137;go_must (refine(HX.out _).mono ?_;rintro e w1 ⟨rfl,hb⟩;have HB:=Lib.hid hb;clear hb)))
   go_ret2
   exact⟨ret2_str (by rw[HT.out,HR.out]) (by rw[HT.out,HR.out];show _=((n+2:Nat):Int);omega),HB.out⟩
theorem takeName_no {r:Str} {attr:Bool} (h:refused r attr=true):takeName r attr=([],0):=by rw[takeName,if_pos h]
theorem takeName_yes {r:Str} {attr:Bool} (h:refused r attr=false):takeName r attr=((findF r).1,(findF r).2+1):=by rw[takeName,h];rfl
theorem refused_zero {r:Str} {attr:Bool} (h:(findF r).2=0):refused r attr=true:=by simp[refused,h]
theorem refused_plain {r:Str} (h:(findF r).2≠0):refused r false=false:=by simp[refused,h]
theorem refused_semi {r:Str} {attr:Bool} (h:(findF r).2≠0) (h':(r.take (findF r).2).getLast?=some 59):refused r attr=false:=by simp[refused,h,h']
theorem refused_end {r:Str} {attr:Bool} (h:(findF r).2≠0) (h':(r.drop (findF r).2).head?=none):refused r attr=false:=by simp[refused,h,h']
theorem refused_word {r:Str} {c d:UInt8} (h:(findF r).2≠0) (h':(r.take (findF r).2).getLast?=some c) (hc:c≠59) (hd:(r.drop (findF r).2).head?=some d):refused r true=wordB d:=by
 unfold refused
 rw[h',hd,show((findF r).2==0)=false from by simpa using h,show(some c==some (59:UInt8))=false from by simpa using hc]
 rfl
theorem pre2_no {r:Str} (h:r.head?≠some 35):([38,35]:Str).isPrefixOf (38::r)=false:=by
 rw[Bool.eq_false_iff]
 intro h'
 obtain⟨t,ht⟩:=List.isPrefixOf_iff_prefix.1 h'
 simp only[List.cons_append,List.nil_append,List.cons.injEq,true_and]at ht
 rw[←ht]at h
 exact h rfl
theorem pre_no {s:Str} (h:s.head?≠some 38) (q:Str):(38::q:Str).isPrefixOf s=false:=by
 rw[Bool.eq_false_iff]
 intro h'
 obtain⟨t,ht⟩:=List.isPrefixOf_iff_prefix.1 h'
 rw[←ht]at h
 exact h rfl
theorem b38:(⟨#[38]⟩:ByteArray).toList= [38]:=by rw[ByteArray.toList_eq]
theorem b3835:(⟨#[38,35]⟩:ByteArray).toList= [38,35]:=by rw[ByteArray.toList_eq]
theorem Take_name (s:ByteArray) (r:Str) (attr:Bool) (w:World) (hs:s.size≤9223372036854775807) (h:s.toList=38::r) (h35:r.head?≠some 35):Calls Tryz.prog 87 #[.string s,.bool attr] w fun e w' =>
 e= .returned (.tuple #[.string (strB (takeF s.toList attr).1),.int .i64 (takeF s.toList attr).2])∧w=w':=by
 have HT:Hid (takeF s.toList attr=takeName r attr):=by show _=_;rw[h,takeF_amp h35]
 have HC:=Lib.hid (cutp_no (s:=s) (p:=⟨#[38,35]⟩) (by rw[h,b3835];exact pre2_no h35) w)
 have HC2:=Lib.hid (cutp_yes (s:=s) (p:=⟨#[38]⟩) (r:=r) (by rw[h,ByteArray.toList_eq];rfl) w)
 have hrs:r.length+1=s.size:=by rw[←size_toList,h];simp
 obtain⟨rb,hrb⟩: ∃rb,rb=strB r:=⟨_,rfl⟩
 have hrl:rb.toList=r:=by rw[hrb,toList_strB]
 have hsz:rb.size=r.length:=by rw[hrb,strB_size]
 have hf:=Find_any rb w (by omega)
 have hle:=findF_le r
 rw[hrl]at hf
 rw[←hrb]at HC2
 have hr2:rb.size≤9223372036854775806:=by omega
 obtain⟨t,ht⟩: ∃t,t=strB (findF r).1:=⟨_,rfl⟩
 rw[←ht]at hf
 have HFT:=Lib.hid ht
 cases hn:(findF r).2 with
 |zero =>
  have HR:=Lib.hid (takeName_no (attr:=attr) (refused_zero hn))
  rw[hn]at hf
  have HF:=Lib.hid hf
  clear h hrs hrb hrl hsz hle hn hf ht h35
  go_enter Tryz.func87,Tryz.ntmps87
  go_wp2_with (first
   |(go_at_call 134;go_must (first|(with_reducible refine HC.out.mono ?_)|(with_reducible refine HC2.out.mono ?_));rintro e w1 ⟨rfl,rfl⟩)
   |(go_at_call 138;go_must (refine HF.out.mono ?_;rintro e w1 ⟨rfl,rfl⟩)))
  go_ret2
  exact⟨ret2_str (by rw[HT.out,HR.out];rfl) (by rw[HT.out,HR.out];rfl),rfl⟩
 |succ m =>
  have hn0:(findF r).2≠0:=by omega
  have hy:=takeName_yes (r:=r) (attr:=attr)
  have hno:=takeName_no (r:=r) (attr:=attr)
  rw[hn]at hf hle hy
  have hm:m<rb.size:=by omega
  have hlast:=last_byte rb m hm
  rw[hrl,←hn]at hlast
  have HF:Hid (Calls Tryz.prog 138 #[.string rb] w fun e w'=>e= .returned (.tuple #[.string t,.int .i64 ((m:Int)+1)])∧w=w'):=by
   have e:((m+1:Nat):Int)=(m:Int)+1:=by omega
   rw[e]at hf
   exact Lib.hid hf
  have HFT:=Lib.hid ht
  cases attr
  ·have HR:=Lib.hid (hy (refused_plain hn0))
   clear h hrs hrb hrl hsz hle hn hf ht h35 hn0 hy hno hlast
   go_enter Tryz.func87,Tryz.ntmps87
   go_wp2_with (first
    |(go_at_call 134;go_must (first|(with_reducible refine HC.out.mono ?_)|(with_reducible refine HC2.out.mono ?_));rintro e w1 ⟨rfl,rfl⟩)
    |(go_at_call 138;go_must (refine HF.out.mono ?_;rintro e w1 ⟨rfl,rfl⟩)))
   go_ret2
   exact⟨ret2_str (by rw[HT.out,HR.out,←HFT.out]) (by rw[HT.out,HR.out];show _=((m+1+1:Nat):Int);omega),rfl⟩
  ·by_cases h59:rb[m]=59
   ·have HR:=Lib.hid (hy (refused_semi hn0 (by rw[hlast,h59])))
    have he:((rb[m].toNat:Int) !=59)=false:=byte_neq' h59
    clear h hrs hrb hrl hsz hle hn hf ht h35 hn0 hy hno hlast h59
    go_enter Tryz.func87,Tryz.ntmps87
    go_wp2_with (first
     |(go_at_call 134;go_must (first|(with_reducible refine HC.out.mono ?_)|(with_reducible refine HC2.out.mono ?_));rintro e w1 ⟨rfl,rfl⟩)
     |(go_at_call 138;go_must (refine HF.out.mono ?_;rintro e w1 ⟨rfl,rfl⟩)))
    go_ret2
    exact⟨ret2_str (by rw[HT.out,HR.out,←HFT.out]) (by rw[HT.out,HR.out];show _=((m+1+1:Nat):Int);omega),rfl⟩
   ·have he:((rb[m].toNat:Int) !=59)=true:=byte_neq h59
    by_cases hlt:m+1<rb.size
    ·have hhd:=head_byte rb (m+1) hlt
     rw[hrl]at hhd
     have hu:=rb[m+1].toNat_lt
     have hw:=word_any rb[m+1].toNat (by omega) w
     have hrw:=refused_word hn0 hlast h59 (by rw[hn];exact hhd)
     rw[wordB_nat]at hrw
     have hlt':(m:Int)+1<(rb.size:Int):=by omega
     cases hwd:wordN rb[m+1].toNat
     ·rw[hwd]at hw hrw
      have HW:=Lib.hid hw
      have HR:=Lib.hid (hy hrw)
      clear h hrs hrb hrl hsz hle hn hf ht h35 hn0 hy hno hlast h59 hhd hu hw hrw hwd
      go_enter Tryz.func87,Tryz.ntmps87
      go_wp2_with (first
       |(go_at_call 134;go_must (first|(with_reducible refine HC.out.mono ?_)|(with_reducible refine HC2.out.mono ?_));rintro e w1 ⟨rfl,rfl⟩)
       |(go_at_call 138;go_must (refine HF.out.mono ?_;rintro e w1 ⟨rfl,rfl⟩))
       |(go_at_call 139;go_must (refine HW.out.mono ?_;rintro e w1 ⟨rfl,rfl⟩)))
      go_ret2
      exact⟨ret2_str (by rw[HT.out,HR.out,←HFT.out]) (by rw[HT.out,HR.out];show _=((m+1+1:Nat):Int);omega),rfl⟩
     ·rw[hwd]at hw hrw
      have HW:=Lib.hid hw
      have HR:=Lib.hid (hno hrw)
      clear h hrs hrb hrl hsz hle hn hf ht h35 hn0 hy hno hlast h59 hhd hu hw hrw hwd
      go_enter Tryz.func87,Tryz.ntmps87
      go_wp2_with (first
       |(go_at_call 134;go_must (first|(with_reducible refine HC.out.mono ?_)|(with_reducible refine HC2.out.mono ?_));rintro e w1 ⟨rfl,rfl⟩)
       |(go_at_call 138;go_must (refine HF.out.mono ?_;rintro e w1 ⟨rfl,rfl⟩))
       |(go_at_call 139;go_must (refine HW.out.mono ?_;rintro e w1 ⟨rfl,rfl⟩)))
      go_ret2
      exact⟨ret2_str (by rw[HT.out,HR.out];rfl) (by rw[HT.out,HR.out];rfl),rfl⟩
    ·have HR:=Lib.hid (hy (refused_end hn0 (by rw[hn,←hrl,head_none rb (m+1) hlt])))
     have hlt': ¬(m:Int)+1<(rb.size:Int):=by omega
     clear h hrs hrb hrl hsz hle hn hf ht h35 hn0 hy hno hlast h59 hlt
     go_enter Tryz.func87,Tryz.ntmps87
     go_wp2_with (first
      |(go_at_call 134;go_must (first|(with_reducible refine HC.out.mono ?_)|(with_reducible refine HC2.out.mono ?_));rintro e w1 ⟨rfl,rfl⟩)
      |(go_at_call 138;go_must (refine HF.out.mono ?_;rintro e w1 ⟨rfl,rfl⟩)))
     go_ret2
     exact⟨ret2_str (by rw[HT.out,HR.out,←HFT.out]) (by rw[HT.out,HR.out];show _=((m+1+1:Nat):Int);omega),rfl⟩
theorem Take_any (s:ByteArray) (attr:Bool) (w:World) (hs:s.size≤9223372036854775807):Calls Tryz.prog 87 #[.string s,.bool attr] w fun e w' =>
 e= .returned (.tuple #[.string (strB (takeF s.toList attr).1),.int .i64 (takeF s.toList attr).2])∧Below w.heap.size w w':=by
 have key:s.toList.head?≠some 38→Calls Tryz.prog 87 #[.string s,.bool attr] w fun e w'=>e= .returned (.tuple #[.string (strB (takeF s.toList attr).1),.int .i64 (takeF s.toList attr).2])∧Below w.heap.size w w':=by
  intro hh
  have hp:=pre_no hh
  have HT:Hid (takeF s.toList attr=([],0)):=by show _=_;rw[takeF,hp,hp];rfl
  have HC:=Lib.hid (cutp_no (s:=s) (p:=⟨#[38,35]⟩) (by rw[b3835];exact hp [35]) w)
  have HC2:=Lib.hid (cutp_no (s:=s) (p:=⟨#[38]⟩) (by rw[b38];exact hp []) w)
  clear hp hh
  go_enter Tryz.func87,Tryz.ntmps87
  go_wp2_with (go_at_call 134;go_must (first|(with_reducible refine HC.out.mono ?_)|(with_reducible refine HC2.out.mono ?_));rintro e w1 ⟨rfl,rfl⟩)
  go_ret2
  exact⟨ret2_str (by rw[HT.out];rfl) (by rw[HT.out];rfl),Below.refl _ _⟩
 rcases amp_cases s.toList with⟨r,h⟩|⟨r,h,h'⟩|⟨c,r,h,h'⟩|h
 ·exact Take_hash s r attr w hs h
 ·exact(Take_name s r attr w hs h h').mono fun e w' ⟨h1,h2⟩=>⟨h1,by subst h2;exact Below.refl _ _⟩
 ·exact key (by rw[h];simpa using h')
 ·exact key (by rw[h];simp)
theorem encF_le4 (c:Nat):(encF c).length≤4:=encF_len4 c
theorem ext_drop' (s:ByteArray) (a:Nat):(s.extract a s.size).toList=s.toList.drop a:=by
 rw[ext_list,List.take_of_length_le (by rw[List.length_drop,size_toList];omega)]
theorem takeF_len (s:Str) (attr:Bool) (h:(takeF s attr).2≠0):(takeF s attr).1.length≤2*(takeF s attr).2:=by
 rcases amp_cases s with⟨r,rfl⟩|⟨r,rfl,h35⟩|⟨c,r,rfl,hc⟩|rfl
 ·rw[takeF_hash]at h ⊢
  unfold takeNum at h ⊢
  by_cases h0:(numG r).1=0
  ·rw[if_pos h0]at h;exact absurd rfl h
  ·rw[if_neg h0]
   have:=encF_le4 (numC (numG r).2)
   have hn:numN r=headN r+(numG r).1:=rfl
   show(numF _).length≤_
   unfold numF
   split <;>simp only <;>omega
 ·rw[takeF_amp h35]at h ⊢
  unfold takeName at h ⊢
  cases hr:refused r attr
  ·rw[hr]at h
   simp only[Bool.false_eq_true,if_false]
   have hk: ∀k∈keys,k.2.length≤2*k.1.length:=by decide +kernel
   rcases(findF_spec r).1 with⟨h1,_⟩|⟨h1,h2,h3⟩
   ·rw[refused_zero h1]at hr;cases hr
   ·have:=hk _ h3
    simp only[List.length_take]at this
    omega
  ·rw[hr]at h;exact absurd rfl h
 ·rw[takeF_other hc]at h;exact absurd rfl h
 ·rw[takeF_nil]at h;exact absurd rfl h
theorem bytesV_two (l r:Str):bytesV (l++r)=bytesV l++bytesV r:=by simp[bytesV]
theorem builder_below {T e:TypeId} {B b:Nat} {bs:List Value} {w w':World} (h:Lib.IsBuilderF T e B b bs w) (hb:Below w.heap.size w w'):Lib.IsBuilderF T e B b bs w':=by
 have key: ∀p,Lib.BuilderAtF T e B b p bs w→Lib.BuilderAtF T e B b p bs w':=fun p hp=>by
  have hlt:=hp.lt
  obtain⟨hB,v,hh,hown,hne⟩:=hp
  exact⟨hB,v,(hb.block b hlt).trans hh,hown.kept (row:=none) ⟨hb.os,hb.tape,hb.output,hb.size,fun k hk _=>hb.block k hk⟩ (by cases hv:v.ownBlock <;>simp),hne⟩
 exact h.imp (key _) (key _)
end Go.Proofs.YtgepobccoffnaaaGreatDoor.Rd
