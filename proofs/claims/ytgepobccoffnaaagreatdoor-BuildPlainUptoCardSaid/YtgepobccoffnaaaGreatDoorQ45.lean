/- Texts joined for a claim: RMkRe: plain laws and contracts. No conditions beyond those that each lemma types. -/
import Derived.Test.YtgepobccoffnaaaGreatDoorQ35
import Derived.Test.YtgepobccoffnaaaGreatDoorQ40
import Derived.Lib.AppendStr
import Derived.Lib.BufferRead
set_option linter.unusedVariables false
set_option linter.unusedSimpArgs false
set_option maxRecDepth 100000
set_option maxHeartbeats 8000000
namespace Go.Proofs.YtgepobccoffnaaaGreatDoor.Rd
open Go.RowKit Mem
theorem text_own {P:Program} {w:World} {base:Nat} {e src dst:TypeId} {v:Value} {l:Str} {n:Nat} (hs:P.underlying src=some (.slice e)) (he:P.underlying e=some (.int .u8)) (hd:P.underlying dst=some .string)
 (h:w.ownsRow base e 1 v n (bytesV l)):(convert src dst v).run P w= .ok (.string (strB l)) w:=by
 have hl:l.length=n:=by have:=h.1;rw[bytesV_length]at this;omega
 rcases h.2 with⟨rfl,h0⟩|⟨g,cap,cur,rfl,_⟩
 ·have:l= []:=List.eq_nil_of_length_eq_zero (by omega)
  subst this
  exact Lib.run_convert_nil_bytes w src dst e 0 hs he hd
 ·exact run_string_of w src dst e g cap l n hl.symm hs he hd (own_row h)
theorem own_base_ge {w:World} {base:Nat} {e:TypeId} {size:Nat} {v:Value} {n:Nat} {xs:List Value} (h:w.ownsRow base e size v n xs): ∀b,v.ownBlock=some b→base≤b:=fun b hb=>(h.lt b hb).1
theorem putF_same2 {c:UInt8} (h:c≠10) (a b:Bool) (r:Str):putF a (c::r)=putF b (c::r):=by
 rw[putF,putF]
 simp only[putOne,h,false_and,if_false]
theorem putF_crlf (r:Str):putF false (13::10::r)=putF false (10::r):=by
 rw[putF,putF,putF];rfl
theorem putF_cr {r:Str} (h: ∀c,r.head?=some c→c≠10):putF false (13::r)= [10]++putF false r:=by
 rw[putF]
 cases r with
 |nil=>rfl
 |cons c r=>rw[show(putF ((13:UInt8)==13) (c::r))=putF false (c::r)from putF_same2 (h c rfl) _ _ _];rfl
theorem putF_zero (r:Str):putF false (0::r)= [239,191,189]++putF false r:=by rw[putF];rfl
theorem putF_char {c:UInt8} (h1:c≠13) (h2:c≠0) (r:Str):putF false (c::r)= [c]++putF false r:=by
 rw[putF,show(c==13)=false from beq_eq_false_iff_ne.2 h1]
 unfold putOne
 rw[if_neg (by simp),if_neg h1,if_neg h2]
theorem Read_any (s:ByteArray) (w:World) (hs:s.size≤4294967296):Calls Tryz.prog 11 #[.string s] w fun e w'=>e= .returned (.string (strB (putF false s.toList)))∧Below w.heap.size w w':=by
 obtain⟨i0,hi,hz0,hz1,hz2⟩:=info_parts info_u8
 have hpl:=putF_len s.toList false
 rw[size_toList]at hpl
 go_enter Tryz.func11,Tryz.ntmps11
 go_wp2_with fail
 go_loopw [3,4] (fun v i wr=> ∃(acc:Str) (k:Nat),k≤s.size∧i= .int .i64 k∧wr.ownsRow w.heap.size 5 1 v acc.length (bytesV acc)∧Below w.heap.size w wr∧acc++putF false (s.toList.drop k)=putF false s.toList) (fun _ i _=>s.size-(intOf i).toNat)
 case atStart=>exact⟨[],0,Nat.zero_le _,rfl,World.ownsRow_nil _ _ _ _,Below.refl _ _,rfl⟩
 case round =>
  obtain⟨acc,k,hk,rfl,ho,hb,hv⟩:=hrel
  have HO:=Lib.hid ho
  have HB:=Lib.hid hb
  have HZ:=Lib.hid hb.size
  have hacc:acc.length+(putF false (s.toList.drop k)).length≤3*s.size:=by rw[←List.length_append,hv];exact hpl
  clear ho hb
  by_cases hks:k<s.size
  ·have hd:=drop_byte s k hks
   rw[hd]at hv hacc
   by_cases h13:s[k]=13
   ·have hc1:((s[k].toNat:Int)==13)=true:=byte_eq (c:=13) h13
    rw[h13]at hv hacc
    by_cases hks2:k+1<s.size
    ·have hks2i:(k:Int)+1<(s.size:Int):=by omega
     have hd2:=drop_byte s (k+1) hks2
     by_cases h10:s[k+1]=10
     ·have hc2:((s[k+1].toNat:Int)==10)=true:=byte_eq (c:=10) h10
      rw[hd2,h10,putF_crlf,←h10,←hd2]at hv
      have HV:=Lib.hid hv
      clear hv hacc hd hd2 h10 h13
      go_wp2_with fail
      go_roundw
      case rel=>exact⟨acc,k+1,by omega,by go_num,HO.out,HB.out,HV.out⟩
      case measure=>simp[intOf];omega
     ·have hc2:((s[k+1].toNat:Int)==10)=false:=byte_ne (c:=10) h10
      have hne: ∀c,(s.toList.drop (k+1)).head?=some c→c≠10:=fun c hc=>by rw[hd2]at hc;cases hc;exact h10
      rw[putF_cr hne,←List.append_assoc]at hv
      rw[putF_cr hne,List.length_append,List.length_cons,List.length_nil]at hacc
      have HV:=Lib.hid hv
      have b1:acc.length+1≤maxLen:=by unfold maxLen;omega
      have b2:(acc.length+1)*1≤140737488355328:=by omega
      have HQ:=Lib.hid (HO.out.alloc (.cells #[.int .u8 10] 5))
      have HZ2:=Lib.hid (show w.heap.size≤(wr.alloc (.cells #[.int .u8 10] 5)).heap.size from by have:=HZ.out;simp;omega)
      clear hv hacc hd h13 hne
      go_wp2_with (at_builtin;go_must (refine wpList_append_slice _ rfl _ _ 54 rfl w.heap.size 5 i0 _ 1 1 Tryz.underlying54 hi hz0 hz1 hz2 rfl (by decide) _ acc.length (bytesV acc) rfl HQ.out (some ⟨wr.heap.size,0,none⟩) 1 1 (bytesV [10]) rfl rfl (fun h=>by cases h) (at_alloc rfl rfl) (bytesV_one' _) b1 b2 HZ2.out ?_;intro v3 w3 hown3 hgr3;have HO3:=Lib.hid hown3;have HG3:=Lib.hid hgr3;clear hown3 hgr3))
      go_roundw
      case rel=>exact⟨acc++ [10],k+1,by omega,by go_num,by rw[bytesV_app,List.length_append];exact HO3.out,(HB.out.alloc HZ.out _).grown HG3.out HZ2.out (own_base_ge HQ.out),HV.out⟩
      case measure=>simp[intOf];omega
    ·have hks2i: ¬(k:Int)+1<(s.size:Int):=by omega
     have hne: ∀c,(s.toList.drop (k+1)).head?=some c→c≠10:=fun c hc=>by
      rw[List.drop_of_length_le (by rw[size_toList];omega)]at hc;cases hc
     rw[putF_cr hne,←List.append_assoc]at hv
     rw[putF_cr hne,List.length_append,List.length_cons,List.length_nil]at hacc
     have HV:=Lib.hid hv
     have b1:acc.length+1≤maxLen:=by unfold maxLen;omega
     have b2:(acc.length+1)*1≤140737488355328:=by omega
     have HQ:=Lib.hid (HO.out.alloc (.cells #[.int .u8 10] 5))
     have HZ2:=Lib.hid (show w.heap.size≤(wr.alloc (.cells #[.int .u8 10] 5)).heap.size from by have:=HZ.out;simp;omega)
     clear hv hacc hd h13 hne
     go_wp2_with (at_builtin;go_must (refine wpList_append_slice _ rfl _ _ 54 rfl w.heap.size 5 i0 _ 1 1 Tryz.underlying54 hi hz0 hz1 hz2 rfl (by decide) _ acc.length (bytesV acc) rfl HQ.out (some ⟨wr.heap.size,0,none⟩) 1 1 (bytesV [10]) rfl rfl (fun h=>by cases h) (at_alloc rfl rfl) (bytesV_one' _) b1 b2 HZ2.out ?_;intro v3 w3 hown3 hgr3;have HO3:=Lib.hid hown3;have HG3:=Lib.hid hgr3;clear hown3 hgr3))
     go_roundw
     case rel=>exact⟨acc++ [10],k+1,by omega,by go_num,by rw[bytesV_app,List.length_append];exact HO3.out,(HB.out.alloc HZ.out _).grown HG3.out HZ2.out (own_base_ge HQ.out),HV.out⟩
     case measure=>simp[intOf];omega
   ·have hc1:((s[k].toNat:Int)==13)=false:=byte_ne (c:=13) h13
    by_cases h0:s[k]=0
    ·have hc2:((s[k].toNat:Int)==0)=true:=byte_eq (c:=0) h0
     rw[h0,putF_zero,←List.append_assoc]at hv
     rw[h0,putF_zero,List.length_append]at hacc
     simp only[List.length_cons,List.length_nil]at hacc
     have HV:=Lib.hid hv
     have b1:acc.length+3≤maxLen:=by unfold maxLen;omega
     have b2:(acc.length+3)*1≤140737488355328:=by omega
     have HQ:=Lib.hid (HO.out.alloc (.cells #[.int .u8 239,.int .u8 191,.int .u8 189] 5))
     have HZ2:=Lib.hid (show w.heap.size≤(wr.alloc (.cells #[.int .u8 239,.int .u8 191,.int .u8 189] 5)).heap.size from by have:=HZ.out;simp;omega)
     clear hv hacc hd h13 h0
     go_wp2_with (at_builtin;go_must (refine wpList_append_slice _ rfl _ _ 54 rfl w.heap.size 5 i0 _ 1 1 Tryz.underlying54 hi hz0 hz1 hz2 rfl (by decide) _ acc.length (bytesV acc) rfl HQ.out (some ⟨wr.heap.size,0,none⟩) 3 3 (bytesV [239,191,189]) rfl rfl (fun h=>by cases h) (at_alloc rfl rfl) (bytesV_one' _) b1 b2 HZ2.out ?_;intro v3 w3 hown3 hgr3;have HO3:=Lib.hid hown3;have HG3:=Lib.hid hgr3;clear hown3 hgr3))
     go_roundw
     case rel=>exact⟨acc++ [239,191,189],k+1,by omega,by go_num,by rw[bytesV_app,List.length_append];exact HO3.out,(HB.out.alloc HZ.out _).grown HG3.out HZ2.out (own_base_ge HQ.out),HV.out⟩
     case measure=>simp[intOf];omega
    ·have hc2:((s[k].toNat:Int)==0)=false:=byte_ne (c:=0) h0
     rw[putF_char h13 h0,←List.append_assoc]at hv
     rw[putF_char h13 h0,List.length_append,List.length_cons,List.length_nil]at hacc
     have HV:=Lib.hid hv
     have b1:acc.length+1≤maxLen:=by unfold maxLen;omega
     have b2:(acc.length+1)*1≤140737488355328:=by omega
     have HQ:=Lib.hid (HO.out.alloc (.cells #[.int .u8 (s[k].toNat:Nat)] 5))
     have HZ2:=Lib.hid (show w.heap.size≤(wr.alloc (.cells #[.int .u8 (s[k].toNat:Nat)] 5)).heap.size from by have:=HZ.out;simp;omega)
     clear hv hacc hd h13 h0
     go_wp2_with (at_builtin;go_must (refine wpList_append_slice _ rfl _ _ 54 rfl w.heap.size 5 i0 _ 1 1 Tryz.underlying54 hi hz0 hz1 hz2 rfl (by decide) _ acc.length (bytesV acc) rfl HQ.out (some ⟨wr.heap.size,0,none⟩) 1 1 (bytesV [s[k]]) rfl rfl (fun h=>by cases h) (at_alloc rfl rfl) (bytesV_one' _) b1 b2 HZ2.out ?_;intro v3 w3 hown3 hgr3;have HO3:=Lib.hid hown3;have HG3:=Lib.hid hgr3;clear hown3 hgr3))
     go_roundw
     case rel=>exact⟨acc++ [s[k]],k+1,by omega,by go_num,by rw[bytesV_app,List.length_append];exact HO3.out,(HB.out.alloc HZ.out _).grown HG3.out HZ2.out (own_base_ge HQ.out),HV.out⟩
     case measure=>simp[intOf];omega
  ·have hdn:s.toList.drop k= []:=List.drop_of_length_le (by rw[size_toList];omega)
   rw[hdn,putF,List.append_nil]at hv
   have hback:=text_own (P:=Tryz.prog) Tryz.underlying54 Tryz.underlying5 Tryz.underlying9 HO.out
   rw[hv]at hback
   clear hv hacc hdn
   go_wp2_with fail
   go_ret
   exact⟨rfl,HB.out⟩
theorem ext_drop (s:ByteArray) (a:Nat):(s.extract a s.size).toList=s.toList.drop a:=by
 rw[ext_list,List.take_of_length_le (by rw[List.length_drop,size_toList];omega)]
theorem beg12 {s p:ByteArray} {b:Bool} (h:p.toList.isPrefixOf s.toList=b) (u:World):Calls Tryz.prog 25 #[.string s,.string p] u fun e w'=>e= .returned (.bool b)∧u=w':=by
 have:=begins12_any s p u
 rwa [h]at this
theorem escG_sign {attr:Bool} {c:UInt8} {r x:Str} (hx:escOne attr c=x) (h:c≠194):escG attr false (c::r)=x++escG attr false r:=by
 rw[escG,if_neg (fun h'=>h h'.1),hx]
theorem escG_nb {attr:Bool} {r:Str}:escG attr false (194::160::r)= [38,110,98,115,112,59]++escG attr false r:=by
 rw[escG,if_pos ⟨rfl,rfl⟩,escG]
theorem escG_byte {attr:Bool} {c:UInt8} {r:Str} (h1:c≠38) (h2:c≠60) (h3:c≠62) (h4: ¬(c=34∧attr=true)) (h:([194,160]:Str).isPrefixOf (c::r)=false):escG attr false (c::r)= [c]++escG attr false r:=by
 have hn: ¬(c=194∧r.head?=some 160):=by
  rintro⟨rfl,hr⟩
  cases r with
  |nil=>cases hr
  |cons d r =>
   simp only[List.head?_cons,Option.some.injEq]at hr
   subst hr
   simp at h
 rw[escG,if_neg hn,escOne,if_neg h1,if_neg h2,if_neg h3,if_neg h4]
theorem nb_pre {c:UInt8} {r:Str} (h:([194,160]:Str).isPrefixOf (c::r)=true):c=194∧ ∃x,r=160::x:=by
 cases r with
 |nil=>simp at h
 |cons d r =>
  simp only[List.isPrefixOf,Bool.and_eq_true,beq_iff_eq,Bool.and_true]at h
  exact⟨h.1.symm,r,by rw[h.2]⟩
theorem bnb:(⟨#[194,160]⟩:ByteArray).toList= [194,160]:=by rw[ByteArray.toList_eq]
theorem Escape12_any (s:ByteArray) (attr:Bool) (w:World) (hs:s.size≤1099511627776):Calls Tryz.prog 12 #[.string s,.bool attr] w fun e w'=>e= .returned (.string (strB (escS attr s.toList)))∧Below w.heap.size w w':=by
 obtain⟨i0,hi,hz0,hz1,hz2⟩:=info_parts info_u8
 have HTot:Hid ((escS attr s.toList).length≤6597069766656):=Lib.hid (by have:=escG_len attr s.toList false;rw[size_toList]at this;show(escG attr false s.toList).length≤_;omega)
 go_enter Tryz.func12,Tryz.ntmps12
 go_wp2_with fail
 go_loopw [5,6] (fun v i wr=> ∃(acc:Str) (k:Nat),k≤s.size∧i= .int .i64 k∧wr.ownsRow w.heap.size 5 1 v acc.length (bytesV acc)∧Below w.heap.size w wr∧acc++escG attr false (s.toList.drop k)=escS attr s.toList) (fun _ i _=>s.size-(intOf i).toNat)
 case atStart=>exact⟨[],0,Nat.zero_le _,rfl,World.ownsRow_nil _ _ _ _,Below.refl _ _,rfl⟩
 case round =>
  obtain⟨acc,k,hk,rfl,ho,hb,hv⟩:=hrel
  have HO:=Lib.hid ho
  have HB:=Lib.hid hb
  have HZ:=Lib.hid hb.size
  have hacc:acc.length+(escG attr false (s.toList.drop k)).length≤6597069766656:=by have:=HTot.out;rw[←hv,List.length_append]at this;exact this
  by_cases hks:k<s.size
  ·have hd:=drop_byte s k hks
   generalize hcb:s[k]=c at hd
   by_cases h38:c=38
   ·have hc:=h38
    have q38:((s[k].toNat:Int)==38)=true:=by rw[hcb];exact byte_eq (c:=38) hc
    have hv2:(acc++ [38,97,109,112,59])++escG attr false (s.toList.drop (k+1))=escS attr s.toList:=by rw[←hv,hd,escG_sign (x:= [38,97,109,112,59]) (by rw[hc];rfl) (by rw[hc];decide)];simp
    rw[hd,escG_sign (x:= [38,97,109,112,59]) (by rw[hc];rfl) (by rw[hc];decide),List.length_append]at hacc
    have HV:=Lib.hid hv2
    have b1:acc.length+(⟨#[38,97,109,112,59]⟩:ByteArray).size≤maxLen:=by unfold maxLen;simp only[List.length_cons,List.length_nil]at hacc;show acc.length+5≤_;omega
    have b2:acc.length+(⟨#[38,97,109,112,59]⟩:ByteArray).size≤140737488355328:=by simp only[List.length_cons,List.length_nil]at hacc;show acc.length+5≤_;omega
    clear ho hb hv hv2 hd hacc hcb
    go_wp2_with (at_builtin;go_must (refine Lib.wpList_append_own_string _ rfl _ _ 54 9 rfl w.heap.size 5 i0 Tryz.underlying54 Tryz.underlying9 hi hz0 hz1 hz2 _ acc.length (bytesV acc) rfl HO.out ⟨#[38,97,109,112,59]⟩ rfl b1 b2 HZ.out ?_;intro v3 w3 hown3 hgr3 _;have HO3:=Lib.hid hown3;have HB3:=Lib.hid (HB.out.grown hgr3 HZ.out (own_base_ge HO.out));clear hown3 hgr3))
    go_roundw
    case rel=>exact⟨acc++ [38,97,109,112,59],k+1,by omega,by go_num,by rw[bytesV_two,List.length_append];exact HO3.out,HB3.out,HV.out⟩
    case measure=>simp[intOf];omega
   ·skip
    by_cases h60:c=60
    ·have hc:=h60
     have q38:((s[k].toNat:Int)==38)=false:=by rw[hcb];exact byte_ne (c:=38) h38
     have q60:((s[k].toNat:Int)==60)=true:=by rw[hcb];exact byte_eq (c:=60) hc
     have hv2:(acc++ [38,108,116,59])++escG attr false (s.toList.drop (k+1))=escS attr s.toList:=by rw[←hv,hd,escG_sign (x:= [38,108,116,59]) (by rw[hc];rfl) (by rw[hc];decide)];simp
     rw[hd,escG_sign (x:= [38,108,116,59]) (by rw[hc];rfl) (by rw[hc];decide),List.length_append]at hacc
     have HV:=Lib.hid hv2
     have b1:acc.length+(⟨#[38,108,116,59]⟩:ByteArray).size≤maxLen:=by unfold maxLen;simp only[List.length_cons,List.length_nil]at hacc;show acc.length+4≤_;omega
     have b2:acc.length+(⟨#[38,108,116,59]⟩:ByteArray).size≤140737488355328:=by simp only[List.length_cons,List.length_nil]at hacc;show acc.length+4≤_;omega
     clear ho hb hv hv2 hd hacc hcb
     go_wp2_with (at_builtin;go_must (refine Lib.wpList_append_own_string _ rfl _ _ 54 9 rfl w.heap.size 5 i0 Tryz.underlying54 Tryz.underlying9 hi hz0 hz1 hz2 _ acc.length (bytesV acc) rfl HO.out ⟨#[38,108,116,59]⟩ rfl b1 b2 HZ.out ?_;intro v3 w3 hown3 hgr3 _;have HO3:=Lib.hid hown3;have HB3:=Lib.hid (HB.out.grown hgr3 HZ.out (own_base_ge HO.out));clear hown3 hgr3))
     go_roundw
     case rel=>exact⟨acc++ [38,108,116,59],k+1,by omega,by go_num,by rw[bytesV_two,List.length_append];exact HO3.out,HB3.out,HV.out⟩
     case measure=>simp[intOf];omega
    ·skip
     by_cases h62:c=62
     ·have hc:=h62
      have q38:((s[k].toNat:Int)==38)=false:=by rw[hcb];exact byte_ne (c:=38) h38
      have q60:((s[k].toNat:Int)==60)=false:=by rw[hcb];exact byte_ne (c:=60) h60
      have q62:((s[k].toNat:Int)==62)=true:=by rw[hcb];exact byte_eq (c:=62) hc
      have hv2:(acc++ [38,103,116,59])++escG attr false (s.toList.drop (k+1))=escS attr s.toList:=by rw[←hv,hd,escG_sign (x:= [38,103,116,59]) (by rw[hc];rfl) (by rw[hc];decide)];simp
      rw[hd,escG_sign (x:= [38,103,116,59]) (by rw[hc];rfl) (by rw[hc];decide),List.length_append]at hacc
      have HV:=Lib.hid hv2
      have b1:acc.length+(⟨#[38,103,116,59]⟩:ByteArray).size≤maxLen:=by unfold maxLen;simp only[List.length_cons,List.length_nil]at hacc;show acc.length+4≤_;omega
      have b2:acc.length+(⟨#[38,103,116,59]⟩:ByteArray).size≤140737488355328:=by simp only[List.length_cons,List.length_nil]at hacc;show acc.length+4≤_;omega
      clear ho hb hv hv2 hd hacc hcb
      go_wp2_with (at_builtin;go_must (refine Lib.wpList_append_own_string _ rfl _ _ 54 9 rfl w.heap.size 5 i0 Tryz.underlying54 Tryz.underlying9 hi hz0 hz1 hz2 _ acc.length (bytesV acc) rfl HO.out ⟨#[38,103,116,59]⟩ rfl b1 b2 HZ.out ?_;intro v3 w3 hown3 hgr3 _;have HO3:=Lib.hid hown3;have HB3:=Lib.hid (HB.out.grown hgr3 HZ.out (own_base_ge HO.out));clear hown3 hgr3))
      go_roundw
      case rel=>exact⟨acc++ [38,103,116,59],k+1,by omega,by go_num,by rw[bytesV_two,List.length_append];exact HO3.out,HB3.out,HV.out⟩
      case measure=>simp[intOf];omega
     ·skip
      have q38:((s[k].toNat:Int)==38)=false:=by rw[hcb];exact byte_ne (c:=38) h38
      have q60:((s[k].toNat:Int)==60)=false:=by rw[hcb];exact byte_ne (c:=60) h60
      have q62:((s[k].toNat:Int)==62)=false:=by rw[hcb];exact byte_ne (c:=62) h62
      by_cases h34:c=34∧attr=true
      ·obtain⟨hc,hat⟩:=h34
       have q34:((s[k].toNat:Int)==34)=true:=by rw[hcb];exact byte_eq (c:=34) hc
       have hv2:(acc++ [38,113,117,111,116,59])++escG attr false (s.toList.drop (k+1))=escS attr s.toList:=by rw[←hv,hd,escG_sign (x:= [38,113,117,111,116,59]) (by rw[hc,hat];rfl) (by rw[hc];decide)];simp
       rw[hd,escG_sign (x:= [38,113,117,111,116,59]) (by rw[hc,hat];rfl) (by rw[hc];decide),List.length_append]at hacc
       have HV:=Lib.hid hv2
       have b1:acc.length+(⟨#[38,113,117,111,116,59]⟩:ByteArray).size≤maxLen:=by unfold maxLen;simp only[List.length_cons,List.length_nil]at hacc;show acc.length+6≤_;omega
       have b2:acc.length+(⟨#[38,113,117,111,116,59]⟩:ByteArray).size≤140737488355328:=by simp only[List.length_cons,List.length_nil]at hacc;show acc.length+6≤_;omega
       clear ho hb hv hv2 hd hacc hcb
       subst hat
       go_wp2_with (at_builtin;go_must (refine Lib.wpList_append_own_string _ rfl _ _ 54 9 rfl w.heap.size 5 i0 Tryz.underlying54 Tryz.underlying9 hi hz0 hz1 hz2 _ acc.length (bytesV acc) rfl HO.out ⟨#[38,113,117,111,116,59]⟩ rfl b1 b2 HZ.out ?_;intro v3 w3 hown3 hgr3 _;have HO3:=Lib.hid hown3;have HB3:=Lib.hid (HB.out.grown hgr3 HZ.out (own_base_ge HO.out));clear hown3 hgr3))
       go_roundw
       case rel=>exact⟨acc++ [38,113,117,111,116,59],k+1,by omega,by go_num,by rw[bytesV_two,List.length_append];exact HO3.out,HB3.out,HV.out⟩
       case measure=>simp[intOf];omega
      ·have hx:(s.extract k s.size).toList=c::s.toList.drop (k+1):=by rw[ext_drop,hd]
       have hq34:((s[k].toNat:Int)==34)=false∨((s[k].toNat:Int)==34)=true∧attr=false:=by
        by_cases hc:c=34
        ·exact .inr ⟨by rw[hcb];exact byte_eq (c:=34) hc,by cases attr <;>simp_all⟩
        ·exact .inl (by rw[hcb];exact byte_ne (c:=34) hc)
       cases hp:([194,160]:Str).isPrefixOf (c::s.toList.drop (k+1))
       ·have HBG:=Lib.hid (fun u=>beg12 (s:=s.extract k s.size) (p:=⟨#[194,160]⟩) (b:=false) (by rw[bnb,hx,hp]) u)
        have heq:escG attr false (c::s.toList.drop (k+1))= [c]++escG attr false (s.toList.drop (k+1)):=escG_byte h38 h60 h62 h34 hp
        have hv2:(acc++ [c])++escG attr false (s.toList.drop (k+1))=escS attr s.toList:=by rw[←hv,hd,heq];simp
        rw[hd,heq,List.length_append]at hacc
        have HV:=Lib.hid hv2
        have b1:acc.length+1≤maxLen:=by unfold maxLen;simp only[List.length_cons,List.length_nil]at hacc;omega
        have b2:(acc.length+1)*1≤140737488355328:=by simp only[List.length_cons,List.length_nil]at hacc;omega
        have HQ:=Lib.hid (HO.out.alloc (.cells #[.int .u8 (s[k].toNat:Nat)] 5))
        have HZ2:=Lib.hid (show w.heap.size≤(wr.alloc (.cells #[.int .u8 (s[k].toNat:Nat)] 5)).heap.size from by have:=HZ.out;simp;omega)
        have HAT:=Lib.hid (show At (wr.alloc (.cells #[.int .u8 (s[k].toNat:Nat)] 5)) (some ⟨wr.heap.size,0,none⟩) (bytesV [c])from at_alloc rfl (by rw[hcb];rfl))
        clear ho hb hv hv2 hd hacc hp hx h38 h60 h62 h34 heq hcb
        rcases hq34 with q34|⟨q34,rfl⟩
        ·skip
         go_wp2_with (first
          |(go_at_call 25;go_must (refine(HBG.out _).mono ?_;rintro e w2 ⟨rfl,rfl⟩))
          |(at_builtin;go_must (refine wpList_append_slice _ rfl _ _ 54 rfl w.heap.size 5 i0 _ 1 1 Tryz.underlying54 hi hz0 hz1 hz2 rfl (by decide) _ acc.length (bytesV acc) rfl HQ.out (some ⟨wr.heap.size,0,none⟩) 1 1 (bytesV [c]) rfl rfl (fun h=>by cases h) HAT.out (bytesV_one' _) b1 b2 HZ2.out ?_;intro v3 w3 hown3 hgr3;have HO3:=Lib.hid hown3;have HB3:=Lib.hid ((HB.out.alloc HZ.out _).grown hgr3 HZ2.out (own_base_ge HQ.out));clear hown3 hgr3)))
         go_roundw
         case rel=>exact⟨acc++ [c],k+1,by omega,by go_num,by rw[bytesV_two,List.length_append];exact HO3.out,HB3.out,HV.out⟩
         case measure=>simp[intOf];omega
        ·skip
         go_wp2_with (first
          |(go_at_call 25;go_must (refine(HBG.out _).mono ?_;rintro e w2 ⟨rfl,rfl⟩))
          |(at_builtin;go_must (refine wpList_append_slice _ rfl _ _ 54 rfl w.heap.size 5 i0 _ 1 1 Tryz.underlying54 hi hz0 hz1 hz2 rfl (by decide) _ acc.length (bytesV acc) rfl HQ.out (some ⟨wr.heap.size,0,none⟩) 1 1 (bytesV [c]) rfl rfl (fun h=>by cases h) HAT.out (bytesV_one' _) b1 b2 HZ2.out ?_;intro v3 w3 hown3 hgr3;have HO3:=Lib.hid hown3;have HB3:=Lib.hid ((HB.out.alloc HZ.out _).grown hgr3 HZ2.out (own_base_ge HQ.out));clear hown3 hgr3)))
         go_roundw
         case rel=>exact⟨acc++ [c],k+1,by omega,by go_num,by rw[bytesV_two,List.length_append];exact HO3.out,HB3.out,HV.out⟩
         case measure=>simp[intOf];omega
       ·have HBG:=Lib.hid (fun u=>beg12 (s:=s.extract k s.size) (p:=⟨#[194,160]⟩) (b:=true) (by rw[bnb,hx,hp]) u)
        obtain⟨hc,x,hx1⟩:=nb_pre hp
        have hx2:s.toList.drop (k+2)=x:=by rw[show k+2=(k+1)+1 from rfl,←List.drop_drop,hx1];rfl
        have hk2:k+2≤s.size:=by have:=congrArg List.length hx1;rw[List.length_drop,size_toList,List.length_cons]at this;omega
        have heq:escG attr false (s.toList.drop k)= [38,110,98,115,112,59]++escG attr false (s.toList.drop (k+2)):=by rw[hd,hc,hx1,hx2];exact escG_nb
        have q34:((s[k].toNat:Int)==34)=false:=by rw[hcb,hc];rfl
        clear hq34 hp hx
        have hv2:(acc++ [38,110,98,115,112,59])++escG attr false (s.toList.drop (k+2))=escS attr s.toList:=by rw[←hv,heq];simp
        rw[heq,List.length_append]at hacc
        have HV:=Lib.hid hv2
        have b1:acc.length+(⟨#[38,110,98,115,112,59]⟩:ByteArray).size≤maxLen:=by unfold maxLen;simp only[List.length_cons,List.length_nil]at hacc;show acc.length+6≤_;omega
        have b2:acc.length+(⟨#[38,110,98,115,112,59]⟩:ByteArray).size≤140737488355328:=by simp only[List.length_cons,List.length_nil]at hacc;show acc.length+6≤_;omega
        clear ho hb hv hv2 hd hacc hcb
        go_wp2_with (first
         |(go_at_call 25;go_must (refine(HBG.out _).mono ?_;rintro e w2 ⟨rfl,rfl⟩))
         |(at_builtin;go_must (refine Lib.wpList_append_own_string _ rfl _ _ 54 9 rfl w.heap.size 5 i0 Tryz.underlying54 Tryz.underlying9 hi hz0 hz1 hz2 _ acc.length (bytesV acc) rfl HO.out ⟨#[38,110,98,115,112,59]⟩ rfl b1 b2 HZ.out ?_;intro v3 w3 hown3 hgr3 _;have HO3:=Lib.hid hown3;have HB3:=Lib.hid (HB.out.grown hgr3 HZ.out (own_base_ge HO.out));clear hown3 hgr3)))
        go_roundw
        case rel=>exact⟨acc++ [38,110,98,115,112,59],k+2,by omega,by go_num,by rw[bytesV_two,List.length_append];exact HO3.out,HB3.out,HV.out⟩
        case measure=>simp[intOf];omega
  ·have hdn:s.toList.drop k= []:=List.drop_of_length_le (by rw[size_toList];omega)
   rw[hdn,escG,List.append_nil]at hv
   have hback:=text_own (P:=Tryz.prog) Tryz.underlying54 Tryz.underlying5 Tryz.underlying9 HO.out
   rw[hv]at hback
   clear ho hb hv hacc hdn
   go_wp2_with fail
   go_ret
   exact⟨rfl,HB.out⟩
end Go.Proofs.YtgepobccoffnaaaGreatDoor.Rd
