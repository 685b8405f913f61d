/- Texts joined for a claim: RMkLi, RMkLen: plain laws and contracts. No conditions beyond those that each lemma types. -/
import Derived.Test.YtgepobccoffnaaaGreatDoorT36
set_option linter.unusedVariables false
set_option linter.unusedSimpArgs false
set_option maxRecDepth 100000
set_option maxHeartbeats 8000000
namespace Go.Proofs.YtgepobccoffnaaaGreatDoor.Rd
section
open Go.RowKit Mem
def TagAt (m:MkM):Prop:=m.mode=0∧(∀c∈m.buf,c≠38)∧ ∀i r,m.buf.drop i=60::r→ ∃c1 r1,r=c1::r1∧(letterB c1=true∨(c1=47∧ ∃c2 r2,r1=c2::r2∧letterB c2=true))
theorem look_lite (m:MkM) (b:Nat) (w:World) (hr:Row w b (machV m)) (hm:m.mode=0) (r:Str) (hb:m.buf=60::r) (hl:m.buf.length≤4294967280)
 (h: ∃c1 r1,r=c1::r1∧(letterB c1=true∨(c1=47∧ ∃c2 r2,r1=c2::r2∧letterB c2=true))) :
 Calls Tryz.prog 88 #[.pointer (some ⟨b,0,none⟩)] w fun e w'=>e= .returned (.int .i64 (lookF m m.buf))∧lookF m m.buf≠0∧Below w.heap.size w w':=by
 obtain⟨c1,r1,rfl,h⟩:=h
 obtain⟨hc0, -, -,hc3, -⟩:=mach_row hr
 obtain⟨S,hS⟩: ∃S,S=strB m.buf:=⟨_,rfl⟩
 have hz:S.size=m.buf.length:=by rw[hS];exact strB_size _
 have hSl:S.data.toList=m.buf:=by rw[hS];rfl
 have ho:=look_two m 60 c1 r1 hm
 rw[←hb]at ho
 rw[←hS]at hc0
 rw[hm]at hc3
 have hz':=hz
 rw[hb]at hz'
 simp only[List.length_cons]at hz'
 have h1:1<S.size:=by omega
 have hb1:S[1]'h1=c1:=by
  have:=Lib.data_getElem? S 1 h1
  rw[hSl,hb]at this
  exact(Option.some.inj this).symm
 have HL1:=Lib.hid (fun u=>letter_any c1 u)
 have hlt: ¬(S.size:Int)<2:=by omega
 have hu1:=c1.toNat_lt
 rcases h with h|⟨rfl,c2,r2,rfl,h⟩
 ·rw[h]at HL1
  have HO:=Lib.hid (show lookF m m.buf=2 from by rw[ho,if_pos h])
  clear ho hb hm hz hz' hSl hl hr h hS
  generalize lookF m m.buf=o at *
  go_enter Tryz.func88,Tryz.ntmps88
  go_wp2_with (go_at_call 142;go_must (refine(HL1.out _).mono ?_;rintro e w4 ⟨rfl,rfl⟩))
  go_ret
  exact⟨by rw[HO.out];rfl,by rw[HO.out];decide,Below.refl _ _⟩
 ·simp only[List.length_cons]at hz'
  have h2:2<S.size:=by omega
  have hb2:S[2]'h2=c2:=by
   have:=Lib.data_getElem? S 2 h2
   rw[hSl,hb]at this
   exact(Option.some.inj this).symm
  have HL2:=Lib.hid (fun u=>letter_any c2 u)
  have hlt3: ¬(S.size:Int)<3:=by omega
  have hu2:=c2.toNat_lt
  have hl1:letterB 47=false:=by decide
  replace HL1:Hid (∀u,Calls Tryz.prog 142 #[.int .u8 47] u fun e w'=>e= .returned (.bool false)∧u=w'):=Lib.hid fun u=>by rw[←hl1];exact letter_any 47 u
  rw[h]at HL2
  have HO:=Lib.hid (show lookF m m.buf=3 from by rw[ho];simp[hl1,h])
  clear ho hb hm hz hz' hSl hl hr h hS
  generalize lookF m m.buf=o at *
  go_enter Tryz.func88,Tryz.ntmps88
  go_wp2_with (go_at_call 142;go_must ((first|(with_reducible refine(HL1.out _).mono ?_)|(with_reducible refine(HL2.out _).mono ?_));rintro e w4 ⟨rfl,rfl⟩))
  all_goals go_ret
  all_goals exact⟨by rw[HO.out];rfl,by rw[HO.out];decide,Below.refl _ _⟩
theorem text_lite (m:MkM) (b:Nat) (w:World) (hr:Row w b (machV m)) (hl:m.buf.length≤4294967280) (hT:TagAt m) :
 Calls Tryz.prog 56 #[.pointer (some ⟨b,0,none⟩)] w fun e w'=>e= .returned (.tuple #[.string (strB (textF m m.buf).1),.int .i64 (textF m m.buf).2.2])∧Row w' b (machV {m with buf:=(textF m m.buf).2.1})∧Keeps (Only b) w w':=by
 have hbw:=hr.lt
 obtain⟨p,hp⟩: ∃p,p=textF m m.buf:=⟨_,rfl⟩
 rw[←hp]
 have HP:=Lib.hid hp
 have HT:=Lib.hid hT
 have HR0:=Lib.hid hr
 obtain⟨-, -, -,hc3, -⟩:=mach_row hr
 have hm2: ¬m.mode=2:=by rw[hT.1];decide
 clear hr hp hT
 have hm2':(m.mode==2)=false:=beq_eq_false_iff_ne.2 hm2
 have hsg:sgF m= [60,38]:=if_neg hm2
 have hsgA:Ascii ⟨#[60,38]⟩:=fun j c hj=>by
  match j,hj with
  |0,hj=>cases hj;decide
  |1,hj=>cases hj;decide
  |j+2,hj=>cases hj
 have hsl:(⟨#[60,38]⟩:ByteArray).toList=sgF m:=by rw[hsg,ByteArray.toList_eq]
 have HIX:Hid (∀(s:ByteArray) (u:World),s.size<4294967281→Calls Tryz.prog 85 #[.string s,.string ⟨#[60,38]⟩] u fun e w'=>e= .returned (.int .i64 (Lib.indexAny s.toList (sgF m)))∧Below u.heap.size u w'):=fun s u hs=>by
  rw[←hsl]
  exact IndexAny_any s ⟨#[60,38]⟩ u (by decide) hsgA hs (by decide)
 clear hsg hsgA hsl
 have HM2:=Lib.hid hm2
 clear hm2
 go_enter Tryz.func56,Tryz.ntmps56
 go_wp2_with fail
 clear hc3 hm2'
 go_loopw [6] (fun _ wr=> ∃(cur acc:Str),cur=m.buf∧Row wr b (machV {m with buf:=cur})∧Lib.IsBuilderF 84 5 w.heap.size w.heap.size (bytesV acc) wr∧Keeps (Only b) w wr∧acc.length+2*cur.length≤2*m.buf.length∧(acc++(textF m cur).1,(textF m cur).2)=textF m m.buf) (fun _ wr=>bufLen wr b)
 case atStart=>exact⟨m.buf,[],rfl,HR0.out.kept (heap_alloc_old _ _ hbw),Lib.IsBuilderF.of (Lib.fresh_isBuilder 84 5 w),(Keeps.refl (Only b) w).alloc _,by simp,rfl⟩
 case round =>
  obtain⟨cur,acc,hcm,hrr,hii,hkk,hbd,hv⟩:=hrel
  have HCM:=Lib.hid hcm
  clear hcm
  have hzr:=hkk.size
  have HRr:=Lib.hid hrr
  have HIr:=Lib.hid hii
  have HKr:=Lib.hid hkk
  have HV:=Lib.hid hv
  have hbl:=bufLen_row hrr
  have HBL:=Lib.hid hbl
  have hc0:wr.cell? ⟨b,0,none⟩=some (.string (strB cur)):=(mach_row hrr).1
  have hcur:cur.length≤4294967280:=by omega
  have hsz:(strB cur).size=cur.length:=strB_size _
  have HIXc:=Lib.hid (fun u=>HIX.out (strB cur) u (by rw[strB_size];omega))
  rw[toList_strB]at HIXc
  clear hrr hii hkk hv hbl
  rcases any_cases (sgF m) cur with⟨h1,h2⟩|⟨i,c,r,h1,hi,hdr,hc,hpre⟩
  ·have HN:=Lib.hid (textF_none h2)
   rw[h1]at HIXc
   clear h1 h2
   go_wp2_with fail
   refine(HIXc.out _).mono ?_
   rintro e U ⟨rfl,hb⟩
   have HIU:=HIr
   have HKU:=HKr
   have hzU:=hzr
   have HRU:=HRr
   clear hc0
   have hc0:U.cell? ⟨b,0,none⟩=some (.string (strB cur)):=(mach_row (HRU.out.below hb HRU.out.lt)).1
   --a callee that makes new blocks alone has answered:hb
   replace HIU:=Lib.hid (builder_below HIU.out hb)
   replace HKU:=Lib.hid (keeps_then' HKU.out hb)
   replace hzU:=Nat.le_trans hzU hb.size
   replace HRU:=Lib.hid (HRU.out.below hb HRU.out.lt)
   clear hb
   dsimp only
   go_wp2_with fail
   refine(WriteString_any w.heap.size w.heap.size _ (strB cur) _ HIU.out (by rw[bytesV_length,strB_size];omega) hzU).mono ?_
   rintro e W2 ⟨rfl,g2,b2,_⟩
   have HI2:Hid (Lib.IsBuilderF 84 5 w.heap.size w.heap.size (bytesV (acc++cur)) W2):=by
    show Lib.IsBuilderF _ _ _ _ _ _
    rw[bytesV_two];exact .inr g2
   clear hc0
   --the builder has been written:g2,b2;HI2 the fact
   have HR2:=Lib.hid (HRU.out.below b2 hbw)
   have HK2:=Lib.hid (keeps_belowB HKU.out b2)
   have hz2:=Nat.le_trans hzU b2.size
   clear g2 b2 HRU HKU hzU HIU
   have hf0:=(mach_free HR2.out).1
   have hc0:=(mach_row HR2.out).1
   simp only at hc0
   dsimp only
   go_wp2_with fail
   have HIU:=Lib.hid (builder_set HI2.out hbw (.string (strB [])) (p:=⟨b,0,none⟩))
   have hzU:w.heap.size≤(W2.setCell ⟨b,0,none⟩ (.string (strB []))).heap.size:=by rw[World.size_setCell];exact hz2
   have HRU:Hid (Row (W2.setCell ⟨b,0,none⟩ (.string (strB []))) b (machV {m with buf:= []})):=HR2.out.set 0 _
   have HKU:=Lib.hid (keep_set HK2.out (.string (strB [])) (j:=0))
   have HVN:=Lib.hid (show(acc++cur,([],1))=textF m m.buf from by rw[←HV.out,HN.out])
   refine(BString_any w.heap.size w.heap.size _ _ HIU.out hzU).mono ?_
   rintro e W3 ⟨rfl,_,b3,_⟩
   dsimp only
   go_wp2_with fail
   go_ret2
   exact⟨ret_si (by rw[HP.out,←HVN.out];rfl) (by rw[HP.out,←HVN.out]),by rw[HP.out,←HVN.out];exact HRU.out.below b3 hbw,keeps_belowB HKU.out b3⟩
  ·have hrl:r.length+1=cur.length-i:=by
    have:=congrArg List.length hdr
    rw[List.length_drop,List.length_cons]at this
    omega
   have HPRE:=Lib.hid (show textF m cur=(cur.take i++(textF m (c::r)).1,(textF m (c::r)).2)from by
    conv=>lhs;rw[←List.take_append_drop i cur,hdr]
    exact textF_pre m (c::r) _ hpre)
   have e1:=strB_cut cur i
   have e2:=strB_ext cur i
   rw[hdr]at e2
   rw[h1]at HIXc
   have hcs:=sg_yes hc
   have hmem:c∈m.buf:=by rw[←HCM.out];exact List.mem_of_mem_drop (by rw[hdr];exact List.mem_cons_self)
   have hTR:=Lib.hid (fun(e:c=60)=>HT.out.2.2 i r (by rw[←HCM.out,hdr,e]))
   have H38:=Lib.hid (HT.out.2.1 c hmem)
   clear hmem
   clear h1 hdr hpre hc
   have hs2:(strB (c::r)).size=r.length+1:=by rw[strB_size];rfl
   have hb0: ∀h,(strB (c::r))[0]'h=c:=fun _=>rfl
   have hp1:0<(strB (c::r)).size:=by omega
   have hp2:1≤(strB (c::r)).size:=by omega
   have hp3:(1:Int)≤((strB (c::r)).size:Int):=by omega
   clear hs2
   rcases hcs with rfl|⟨rfl,h38⟩
   ·have hcb:(((60:UInt8).toNat:Int)==38)=false:=by decide
    go_wp2_with fail
    refine(HIXc.out _).mono ?_
    rintro e U ⟨rfl,hb⟩
    have HIU:=HIr
    have HKU:=HKr
    have hzU:=hzr
    have HRU:=HRr
    clear hc0
    have hc0:U.cell? ⟨b,0,none⟩=some (.string (strB cur)):=(mach_row (HRU.out.below hb HRU.out.lt)).1
    --a callee that makes new blocks alone has answered:hb
    replace HIU:=Lib.hid (builder_below HIU.out hb)
    replace HKU:=Lib.hid (keeps_then' HKU.out hb)
    replace hzU:=Nat.le_trans hzU hb.size
    replace HRU:=Lib.hid (HRU.out.below hb HRU.out.lt)
    clear hb
    dsimp only
    go_wp2_with fail
    refine(WriteString_any w.heap.size w.heap.size _ (strB (cur.take i)) _ HIU.out (by rw[bytesV_length,strB_size,List.length_take];omega) hzU).mono ?_
    rintro e W2 ⟨rfl,g2,b2,_⟩
    have HI2:Hid (Lib.IsBuilderF 84 5 w.heap.size w.heap.size (bytesV (acc++cur.take i)) W2):=by
     show Lib.IsBuilderF _ _ _ _ _ _
     rw[bytesV_two];exact .inr g2
    clear hc0
    have hrw:Row (W2.setCell ⟨b,0,none⟩ (.string (strB (60::r)))) b (machV {m with buf:=60::r}):=(HRU.out.below b2 hbw).set 0 (.string (strB (60::r)))
    have hc2:W2.cell? ⟨b,2,none⟩=some (.bool m.closed):=(mach_row (HRU.out.below b2 hbw)).2.2.1
    first|rw[HCL.out]at hc2|skip
    have hz2:w.heap.size≤(W2.setCell ⟨b,0,none⟩ (.string (strB (60::r)))).heap.size:=by rw[World.size_setCell];exact Nat.le_trans hzU b2.size
    have HK2:=Lib.hid (keep_set (keeps_belowB HKU.out b2) (.string (strB (60::r))) (j:=0))
    have HI3:=Lib.hid (builder_set HI2.out hbw (.string (strB (60::r))) (p:=⟨b,0,none⟩))
    have HR2:=Lib.hid hrw
    have hf0:=(mach_free (HRU.out.below b2 hbw)).1
    have hc00:=(mach_row (HRU.out.below b2 hbw)).1
    simp only at hc00
    clear hrw g2 b2 HRU HKU hzU HIU HI2
    dsimp only
    go_wp2_with fail
    clear hc00 hf0 hc2
    have HIU:=HI3
    have HRU:=HR2
    have HKU:=HK2
    have hzU:=hz2
    generalize W2.setCell ⟨b,0,none⟩ (.string (strB (60::r)))=U2 at *
    refine(look_lite {m with buf:=60::r} b U2 HRU.out HT.out.1 r rfl (by simp only[List.length_cons];omega) (hTR.out (by first|rfl|trivial))).mono ?_
    rintro e U3 ⟨rfl,hne,hb⟩
    rw[show lookF {m with buf:=60::r} ({m with buf:=60::r}:MkM).buf=lookF m (60::r)from rfl]at hne ⊢
    have HLT1:=Lib.hid (textF_lt (m:=m) (r:=r))
    obtain⟨is,his⟩: ∃is,is=lookF m (60::r):=⟨_,rfl⟩
    rw[←his]at HLT1 hne ⊢
    clear his
    have h0:=hne
    have h0b:(is==0)=false:=beq_eq_false_iff_ne.2 h0
    have h0c:(is !=0)=true:=by rw[bne,h0b];rfl
    rw[if_neg h0]at HLT1
    have HVN:=Lib.hid (show(acc++cur.take i,(60::r,is))=textF m m.buf from by rw[←HV.out,HPRE.out,HLT1.out];simp)
    --a callee that makes new blocks alone has answered:hb
    replace HIU:=Lib.hid (builder_below HIU.out hb)
    replace HKU:=Lib.hid (keeps_then' HKU.out hb)
    replace hzU:=Nat.le_trans hzU hb.size
    replace HRU:=Lib.hid (HRU.out.below hb HRU.out.lt)
    clear hb
    dsimp only
    go_wp2_with fail
    refine(BString_any w.heap.size w.heap.size _ _ HIU.out hzU).mono ?_
    rintro e W3 ⟨rfl,_,b3,_⟩
    dsimp only
    go_wp2_with fail
    go_ret2
    exact⟨ret_si (by rw[HP.out,←HVN.out];rfl) (by rw[HP.out,←HVN.out]),by rw[HP.out,←HVN.out];exact HRU.out.below b3 hbw,keeps_belowB HKU.out b3⟩
   ·exact absurd rfl H38.out
def ShutAt (s:Str) (i k:Nat):Prop:=untilF signT (s.drop i)=some ((s.drop i).take k,s.drop (i+k))∧s[i+k]?=some 62
theorem parse_shut {s:ByteArray} {e:Bool} {k:Nat} (h:ShutAt s.toList (if e then 2 else 1) k):parseF s.toList e=(⟨if e then 3 else 2,lowS ((s.toList.drop (if e then 2 else 1)).take k),[],false,[]⟩,(((if e then 2 else 1)+k+1:Nat):Int),0):=by
 rw[parse_ans,h.1]
 obtain⟨hlt,hg⟩:=List.getElem?_eq_some_iff.1 h.2
 have hl2:(if e then 2 else 1)+k<s.size:=by rw[←size_toList];exact hlt
 have hd:s.toList.drop ((if e then 2 else 1)+k)=62::s.toList.drop ((if e then 2 else 1)+k+1):=by
  rw[List.drop_eq_getElem_cons hlt,hg]
 have ht:=tagsF_close (al:= []) (r:=s.toList.drop ((if e then 2 else 1)+k)) (r1:=s.toList.drop ((if e then 2 else 1)+k+1)) (by rw[hd];rfl)
 simp only
 rw[ht,hd]
 have hw:(62::s.toList.drop ((if e then 2 else 1)+k+1)).takeWhile gapB= []:=rfl
 rw[hw,size_toList]at *
 cases e
 ·simp only[Bool.false_eq_true,if_false]at hl2 ⊢
  unfold ansF slashF
  simp only[Bool.false_eq_true,if_false,List.length_nil,List.length_drop,size_toList]
  rw[if_neg (by decide)]
  refine Prod.ext rfl (Prod.ext ?_ rfl)
  show(s.size:Int)-((s.size-(1+k+1):Nat):Int)=((1+k+1:Nat):Int)
  omega
 ·simp only[if_true]at hl2 ⊢
  unfold ansF
  simp only[if_true,List.length_drop,size_toList]
  refine Prod.ext rfl (Prod.ext ?_ rfl)
  show(s.size:Int)-((s.size-(2+k+1):Nat):Int)=((2+k+1:Nat):Int)
  omega
theorem parse_lite (s:ByteArray) (e:Bool) (k:Nat) (w:World) (hs:s.size≤1000000) (hsh:ShutAt s.toList (if e then 2 else 1) k) :
 Calls Tryz.prog 89 #[.string s,.bool e] w fun r w'=> ∃sl,r= .returned (.tuple #[markV sl (parseF s.toList e).1,.int .i64 (parseF s.toList e).2.1,.int .i64 (parseF s.toList e).2.2])∧w'.ownsRow w.heap.size 57 2 sl (parseF s.toList e).1.attrs.length (pairsV (attP (parseF s.toList e).1.attrs))∧Below w.heap.size w w':=by
 obtain⟨p,hp⟩: ∃p,p=parseF s.toList e:=⟨_,rfl⟩
 rw[←hp]
 rw[parse_shut hsh]at hp
 obtain⟨hu,h62g⟩:=hsh
 obtain⟨hk0,hg0⟩:=List.getElem?_eq_some_iff.1 h62g
 rw[size_toList]at hk0
 clear h62g
 cases e
 ·simp only[Bool.false_eq_true,if_false]at hp hu hk0 hg0
  have hk:=hk0
  have h62: ∀(h:1+k<s.size),s[1+k]=62:=fun h=>by rw[←hg0];exact(byte_at s _ h _).symm
  have HW:=Lib.hid (PW.start w s 1 2)
  rw[show((1:Nat):Int)=1 from rfl]at HW
  clear hg0 hk0
  go_enter Tryz.func89,Tryz.ntmps89
  go_wp2_with fail
  generalize (((w.alloc (.cells #[.int .i64 0,.string ⟨#[]⟩,.slice none 0 0,.bool false,.string ⟨#[]⟩] 38)).alloc (.cells #[.string s,.int .i64 1] 161)).alloc (.cells #[.int .i64 2,.string ⟨#[]⟩,.slice none 0 0,.bool false,.string ⟨#[]⟩] 38))=W0 at *
  generalize hC:w.heap.size+1=C at *
  generalize hX:C+1=X at *
  clear hC hX
  obtain⟨J,hJ⟩: ∃J:Int,J=((1+k+1:Nat):Int):=⟨_,rfl⟩
  rw[←hJ]at hp
  have HJ:=Lib.hid (show J=((1+k:Nat):Int)+1 from by rw[hJ];push_cast;rfl)
  clear hJ
  obtain⟨i0,hi0⟩: ∃i0,i0=1:=⟨_,rfl⟩
  obtain⟨kd,hkd⟩: ∃kd:Int,kd=2:=⟨_,rfl⟩
  obtain⟨nt,hnt⟩: ∃nt:Str,nt=(s.toList.drop 1).take k:=⟨_,rfl⟩
  rw[←hnt]at hp
  rw[←hi0]at hu hk h62 HW hnt HJ
  rw[←hkd]at HW
  have HKD:=Lib.hid hkd
  clear hi0 hkd
  obtain⟨t,ht⟩: ∃t:Str,t=(s.toList.drop i0).take k:=⟨_,rfl⟩
  rw[←ht]at hnt
  obtain⟨nmL,hnm⟩: ∃nmL:Str,nmL=lowS t:=⟨_,rfl⟩
  rw[hnt,←hnm]at hp
  have HP:=Lib.hid hp
  have htl:t.length≤s.size:=by rw[ht,List.length_take,List.length_drop,size_toList];omega
  refine(until_yes s ⟨#[9,10,12,32,47,62]⟩ C i0 k W0 HW.out.cur (by omega) (by omega) (by decide) (ascii_of (l:=signT) (by decide)) (by decide) (by rw[ByteArray.toList_eq (⟨#[9,10,12,32,47,62]⟩:ByteArray)];exact hu)).mono ?_
  rw[←ht]
  rintro r W1 ⟨rfl,hrr,hkk⟩
  replace HW:=Lib.hid (HW.out.moved hkk hrr)
  clear hrr hkk hu hp ht
  dsimp only
  go_wp2_with fail
  refine(small_any (strB t) _ (by rw[strB_size];unfold maxLen;omega)).mono ?_
  rintro r W2 ⟨rfl,hb⟩
  replace HW:=Lib.hid (HW.out.calm hb)
  rw[show lowS (strB t).toList=nmL from by rw[hnm,toList_strB]]
  have hf1:W2.frozen? ⟨X,1,none⟩=false:=HW.out.mark.frozen (j:=1) (by simp[xV])
  have hx1:W2.cell? ⟨X,1,none⟩=some (.string (strB [])):=HW.out.mark.cell (j:=1) rfl
  clear hb hnm
  dsimp only
  go_wp2_with fail
  clear hf1 hx1
  have HN:=Lib.hid (HW.out.named (nm':=nmL))
  clear HW
  obtain⟨j,hj⟩: ∃j,j=i0+k:=⟨_,rfl⟩
  rw[←hj]at HN hk h62 HJ
  clear hj hnt
  go_loopw [10] (fun v wr=>v= .bool true∧PW w s w.heap.size C X j kd nmL (.slice none 0 0) false [] wr) (fun _ _=>0)
  case atStart=>exact⟨rfl,HN.out⟩
  case round =>
   obtain⟨rfl,hw⟩:=hrel
   have HW0:=Lib.hid hw
   clear hw HN
   go_wp2_with fail
   go_loopw [11] (fun v wi=>v= .bool false∧PW w s w.heap.size C X j kd nmL (.slice none 0 0) false [] wi) (fun _ _=>0)
   case atStart=>exact⟨rfl,HW0.out⟩
   case round =>
    obtain⟨rfl,hw⟩:=hrel
    have HW:=Lib.hid hw
    clear hw HW0
    have hc1:wr.cell? ⟨C,1,none⟩=some (.int .i64 j):=HW.out.cur.cell (j:=1) rfl
    have hf1:wr.frozen? ⟨C,1,none⟩=false:=HW.out.cur.frozen (j:=1) (by simp[curV])
    have hjs:j<s.size:=hk
    have hjs2:(j:Int)<(s.size:Int):=by omega
    have hjb:((j:Int)==(s.size:Int))=false:=by rw[beq_eq_false_iff_ne];omega
    have h62b:((s[j].toNat:Int)==62)=true:=by rw[h62 hjs];decide
    have h47:((s[j].toNat:Int)==47)=false:=by rw[h62 hjs];decide
    have hu:=s[j].toNat_lt
    have HSP:Hid (∀u,Calls Tryz.prog 146 #[.int .u8 s[j].toNat] u fun e w'=>e= .returned (.bool false)∧u=w'):=Lib.hid fun u=>by
     rw[show(false:Bool)=spaceB s[j]from by rw[h62 hjs];decide]
     exact space_any s[j] u
    clear h62
    have hx2:wr.cell? ⟨X,2,none⟩=some (.slice none 0 0):=HW.out.mark.cell (j:=2) rfl
    have hx3:wr.cell? ⟨X,3,none⟩=some (.bool false):=HW.out.mark.cell (j:=3) rfl
    have hfx3:wr.frozen? ⟨X,3,none⟩=false:=HW.out.mark.frozen (j:=3) (by simp[xV])
    have hlt:=HW.out.lt
    have hXR:w.heap.size≠X:=by omega
    obtain⟨⟨q0,q1,q2,q3,q4⟩,f0,f1,f2,f3,f4⟩:=res_cells HW.out.zero
    have hx0:wr.cell? ⟨X,0,none⟩=some (.int .i64 kd):=HW.out.mark.cell (j:=0) rfl
    have hx1:wr.cell? ⟨X,1,none⟩=some (.string (strB nmL)):=HW.out.mark.cell (j:=1) rfl
    have hx4:wr.cell? ⟨X,4,none⟩=some (.string ⟨#[]⟩):=HW.out.mark.cell (j:=4) rfl
    go_wp2_with (go_at_call 146;go_must (refine(HSP.out _).mono ?_;rintro e wx ⟨rfl,rfl⟩))
    go_region
    go_wp2_with fail
    refine bodyPost_ret (results_mark rfl _ _ w.heap.size _ _ _ _ rfl (at_drew (put5_at (res_set HW.out.zero hXR) _ _ _ _ _)) Tryz.underlying38 rfl mark_info) rfl ?_
    rw[HP.out,HJ.out]
    obtain rfl:kd=2:=HKD.out
    exact⟨.slice none 0 0,ret_eq rfl,World.ownsRow_nil _ _ _ _,(put5_below (HW.out.below.setCell (by show w.heap.size≤X;omega) _) (Nat.le_refl _) _ _ _ _ _).drew⟩
 ·simp only[if_true]at hp hu hk0 hg0
  have hk:=hk0
  have h62: ∀(h:2+k<s.size),s[2+k]=62:=fun h=>by rw[←hg0];exact(byte_at s _ h _).symm
  have HW:=Lib.hid (PW.start w s 2 3)
  rw[show((2:Nat):Int)=2 from rfl]at HW
  clear hg0 hk0
  go_enter Tryz.func89,Tryz.ntmps89
  go_wp2_with fail
  generalize (((w.alloc (.cells #[.int .i64 0,.string ⟨#[]⟩,.slice none 0 0,.bool false,.string ⟨#[]⟩] 38)).alloc (.cells #[.string s,.int .i64 2] 161)).alloc (.cells #[.int .i64 3,.string ⟨#[]⟩,.slice none 0 0,.bool false,.string ⟨#[]⟩] 38))=W0 at *
  generalize hC:w.heap.size+1=C at *
  generalize hX:C+1=X at *
  clear hC hX
  obtain⟨J,hJ⟩: ∃J:Int,J=((2+k+1:Nat):Int):=⟨_,rfl⟩
  rw[←hJ]at hp
  have HJ:=Lib.hid (show J=((2+k:Nat):Int)+1 from by rw[hJ];push_cast;rfl)
  clear hJ
  obtain⟨i0,hi0⟩: ∃i0,i0=2:=⟨_,rfl⟩
  obtain⟨kd,hkd⟩: ∃kd:Int,kd=3:=⟨_,rfl⟩
  obtain⟨nt,hnt⟩: ∃nt:Str,nt=(s.toList.drop 2).take k:=⟨_,rfl⟩
  rw[←hnt]at hp
  rw[←hi0]at hu hk h62 HW hnt HJ
  rw[←hkd]at HW
  have HKD:=Lib.hid hkd
  clear hi0 hkd
  obtain⟨t,ht⟩: ∃t:Str,t=(s.toList.drop i0).take k:=⟨_,rfl⟩
  rw[←ht]at hnt
  obtain⟨nmL,hnm⟩: ∃nmL:Str,nmL=lowS t:=⟨_,rfl⟩
  rw[hnt,←hnm]at hp
  have HP:=Lib.hid hp
  have htl:t.length≤s.size:=by rw[ht,List.length_take,List.length_drop,size_toList];omega
  refine(until_yes s ⟨#[9,10,12,32,47,62]⟩ C i0 k W0 HW.out.cur (by omega) (by omega) (by decide) (ascii_of (l:=signT) (by decide)) (by decide) (by rw[ByteArray.toList_eq (⟨#[9,10,12,32,47,62]⟩:ByteArray)];exact hu)).mono ?_
  rw[←ht]
  rintro r W1 ⟨rfl,hrr,hkk⟩
  replace HW:=Lib.hid (HW.out.moved hkk hrr)
  clear hrr hkk hu hp ht
  dsimp only
  go_wp2_with fail
  refine(small_any (strB t) _ (by rw[strB_size];unfold maxLen;omega)).mono ?_
  rintro r W2 ⟨rfl,hb⟩
  replace HW:=Lib.hid (HW.out.calm hb)
  rw[show lowS (strB t).toList=nmL from by rw[hnm,toList_strB]]
  have hf1:W2.frozen? ⟨X,1,none⟩=false:=HW.out.mark.frozen (j:=1) (by simp[xV])
  have hx1:W2.cell? ⟨X,1,none⟩=some (.string (strB [])):=HW.out.mark.cell (j:=1) rfl
  clear hb hnm
  dsimp only
  go_wp2_with fail
  clear hf1 hx1
  have HN:=Lib.hid (HW.out.named (nm':=nmL))
  clear HW
  obtain⟨j,hj⟩: ∃j,j=i0+k:=⟨_,rfl⟩
  rw[←hj]at HN hk h62 HJ
  clear hj hnt
  go_loopw [10] (fun v wr=>v= .bool true∧PW w s w.heap.size C X j kd nmL (.slice none 0 0) false [] wr) (fun _ _=>0)
  case atStart=>exact⟨rfl,HN.out⟩
  case round =>
   obtain⟨rfl,hw⟩:=hrel
   have HW0:=Lib.hid hw
   clear hw HN
   go_wp2_with fail
   go_loopw [11] (fun v wi=>v= .bool false∧PW w s w.heap.size C X j kd nmL (.slice none 0 0) false [] wi) (fun _ _=>0)
   case atStart=>exact⟨rfl,HW0.out⟩
   case round =>
    obtain⟨rfl,hw⟩:=hrel
    have HW:=Lib.hid hw
    clear hw HW0
    have hc1:wr.cell? ⟨C,1,none⟩=some (.int .i64 j):=HW.out.cur.cell (j:=1) rfl
    have hf1:wr.frozen? ⟨C,1,none⟩=false:=HW.out.cur.frozen (j:=1) (by simp[curV])
    have hjs:j<s.size:=hk
    have hjs2:(j:Int)<(s.size:Int):=by omega
    have hjb:((j:Int)==(s.size:Int))=false:=by rw[beq_eq_false_iff_ne];omega
    have h62b:((s[j].toNat:Int)==62)=true:=by rw[h62 hjs];decide
    have h47:((s[j].toNat:Int)==47)=false:=by rw[h62 hjs];decide
    have hu:=s[j].toNat_lt
    have HSP:Hid (∀u,Calls Tryz.prog 146 #[.int .u8 s[j].toNat] u fun e w'=>e= .returned (.bool false)∧u=w'):=Lib.hid fun u=>by
     rw[show(false:Bool)=spaceB s[j]from by rw[h62 hjs];decide]
     exact space_any s[j] u
    clear h62
    have hx1:wr.cell? ⟨X,1,none⟩=some (.string (strB nmL)):=HW.out.mark.cell (j:=1) rfl
    have hlt:=HW.out.lt
    obtain⟨⟨q0,q1,q2,q3,q4⟩,f0,f1,f2,f3,f4⟩:=res_cells HW.out.zero
    go_wp2_with (go_at_call 146;go_must (refine(HSP.out _).mono ?_;rintro e wx ⟨rfl,rfl⟩))
    go_region
    go_wp2_with fail
    refine bodyPost_ret (results_mark rfl _ _ w.heap.size _ _ _ _ rfl (at_drew (put5_at HW.out.zero _ _ _ _ _)) Tryz.underlying38 rfl mark_info) rfl ?_
    rw[HP.out,HJ.out]
    exact⟨.slice none 0 0,ret_eq rfl,World.ownsRow_nil _ _ _ _,(put5_below HW.out.below (Nat.le_refl _) _ _ _ _ _).drew⟩
theorem tag_lite (m:MkM) (b:Nat) (e:Bool) (w:World) (hr:Row w b (machV m)) (hl:m.buf.length≤4294967280) (q:Nat) (hsh:ShutAt (m.buf.take 2049) (if e then 2 else 1) q) :
 Calls Tryz.prog 57 #[.pointer (some ⟨b,0,none⟩),.bool e] w fun r w'=>OutAt w.heap.size (tagF m e) r w'∧Row w' b (machV (tagF m e).2.2.2)∧Keeps (Only b) w w':=by
 have hbw:=hr.lt
 have hne:w.heap.size≠b:=by omega
 obtain⟨o,ho⟩: ∃o,o=tagF m e:=⟨_,rfl⟩
 rw[←ho]
 obtain⟨x,n,er0,hpar⟩: ∃x n er0,parseF (m.buf.take 2049) e=(x,n,er0):=⟨_,_,_,rfl⟩
 rw[tagF_eq m e x n er0 hpar]at ho
 have hnle:=parse_le (m.buf.take 2049) e
 rw[hpar]at hnle
 have hnl:n≤(m.buf.length:Int):=by
  have:(m.buf.take 2049).length≤m.buf.length:=by rw[List.length_take];omega
  simp only at hnle
  omega
 have hz:(strB m.buf).size=m.buf.length:=strB_size _
 obtain⟨k,hk⟩: ∃k,k=min m.buf.length 2049:=⟨_,rfl⟩
 have hmin:min (m.buf.length:Int) 2049=(k:Int):=by omega
 have hkl:k≤m.buf.length:=by omega
 have htk:m.buf.take 2049=m.buf.take k:=by
  rw[hk]
  rcases Nat.le_total m.buf.length 2049 with h|h
  ·rw[Nat.min_eq_left h,List.take_of_length_le h,List.take_of_length_le (Nat.le_refl _)]
  ·rw[Nat.min_eq_right h]
 have hkz:(m.buf.take 2049).length=k:=by rw[htk,List.length_take];omega
 have e1:(strB m.buf).extract 0 k=strB (m.buf.take 2049):=by rw[htk];exact strB_cut _ _
 have HPA:=Lib.hid (fun u=>parse_lite (strB (m.buf.take 2049)) e q u (by rw[strB_size,hkz];omega) (by rw[toList_strB];exact hsh))
 rw[toList_strB,hpar]at HPA
 rw[hkz]at ho
 have hsz2:(strB (m.buf.take 2049)).size=k:=by rw[strB_size];exact hkz
 obtain⟨wa,hwa⟩: ∃wa,wa=w.alloc (.cells zeroMark 38):=⟨_,rfl⟩
 have HR:=Lib.hid (show Row wa b (machV m)from hwa▸hr.kept (heap_alloc_old w (.cells zeroMark 38) hbw))
 have HZ:=Lib.hid (show wa.heap[w.heap.size]?=some (.cells zeroMark 38 (0,0))from hwa▸heap_alloc_new _ _)
 have HK:=Lib.hid (show Keeps (Only b) w wa from hwa▸(Keeps.refl (Only b) w).alloc _)
 have hza:w.heap.size<wa.heap.size:=by rw[hwa];simp
 have HWA:Hid (wa=w.alloc (.cells #[.int .i64 0,.string ⟨#[]⟩,.slice none 0 0,.bool false,.string ⟨#[]⟩] 38)):=hwa
 generalize m.buf.take 2049=sb at *
 clear hwa hr hpar hnle hk htk hkz hsh
 go_enter Tryz.func57,Tryz.ntmps57
 go_wp2_with fail
 rw[←HWA.out]
 have hc0:=(mach_row HR.out).1
 go_region
 have HR1:=Lib.hid (row_drew HR.out)
 have HZ1:=Lib.hid (at_drew HZ.out)
 have HK1:=Lib.hid HK.out.drew
 have hz1:w.heap.size<wa.drew.heap.size:=hza
 generalize wa.drew=wb at *
 clear hc0
 go_wp2_with fail
 refine(HPA.out _).mono ?_
 rintro r W1 ⟨sl,rfl,hown,hb⟩
 obtain⟨a,c,hsl, -⟩:=own_at hown
 subst hsl
 have HR2:=Lib.hid (HR1.out.below hb HR1.out.lt)
 have HZ2:=Lib.hid (zero_below HZ1.out hb hz1)
 have HK2:=Lib.hid (keeps_then' HK1.out hb)
 have HOW:=Lib.hid (own_base hown (show w.heap.size+1≤wb.heap.size from hz1))
 have hz2:=Nat.lt_of_lt_of_le hz1 hb.size
 clear hown hb
 dsimp only[markV]
 have hbW:=HR2.out.lt
 obtain⟨hc0, -,hc2,hc3, -, -, -, -, -,hc9⟩:=mach_row HR2.out
 obtain⟨hf0, -, -,hf3, -, -, -, -, -,hf9⟩:=mach_free HR2.out
 obtain⟨⟨q0,q1,q2,q3,q4⟩,f0,f1,f2,f3,f4⟩:=res_cells HZ2.out
 by_cases hbig:n>2048∨(n<0∧2048<k)
 ·rw[if_pos hbig,if_pos (by decide)]at ho
  have HO:=Lib.hid ho
  clear ho
  rcases hbig with hb1|⟨hb1,hb2⟩
  ·go_wp2_with fail
   refine bodyPost_ret (results_mark rfl _ _ w.heap.size _ _ _ _ rfl (alloc_keep (put5_at (res_set (res_set HZ2.out hne) hne) _ _ _ _ _)) Tryz.underlying38 rfl mark_info) rfl ?_
   rw[HO.out]
   refine⟨⟨.slice none 0 0,ret_eq rfl,World.ownsRow_nil _ _ _ _⟩,?_,(put5_keeps (keep_set (keep_set HK2.out _) _) (Nat.le_refl _) _ _ _ _ _).alloc _⟩
   exact row_alloc (put5_row ((HR2.out.set 9 _).set 0 (.string (strB []))) (fun e=>hne e.symm) _ _ _ _ _)
  ·have hb3: ¬n>2048:=by omega
   have hb4:(2048:Int)<(k:Int):=by omega
   go_wp2_with fail
   refine bodyPost_ret (results_mark rfl _ _ w.heap.size _ _ _ _ rfl (alloc_keep (put5_at (res_set (res_set HZ2.out hne) hne) _ _ _ _ _)) Tryz.underlying38 rfl mark_info) rfl ?_
   rw[HO.out]
   refine⟨⟨.slice none 0 0,ret_eq rfl,World.ownsRow_nil _ _ _ _⟩,?_,(put5_keeps (keep_set (keep_set HK2.out _) _) (Nat.le_refl _) _ _ _ _ _).alloc _⟩
   exact row_alloc (put5_row ((HR2.out.set 9 _).set 0 (.string (strB []))) (fun e=>hne e.symm) _ _ _ _ _)
 ·rw[if_neg hbig]at ho
  have hb3: ¬n>2048:=by omega
  have hb5:n<0→ ¬(2048:Int)<(k:Int):=by omega
  by_cases her:er0=0
  ·have herb:(er0==0)=true:=beq_iff_eq.2 her
   rw[if_neg (fun h=>h her)]at ho
   by_cases hn:n<0
   ·rw[if_pos hn]at ho
    have hb6:=hb5 hn
    clear hbig hb5
    by_cases hcl:m.closed=true
    ·rw[if_pos hcl]at ho
     rw[hcl]at hc2
     have HO:=Lib.hid ho
     clear ho hcl
     go_wp2_with fail
     refine bodyPost_ret (results_mark rfl _ _ w.heap.size _ _ _ _ rfl (alloc_keep (put5_at (res_set HZ2.out hne) _ _ _ _ _)) Tryz.underlying38 rfl mark_info) rfl ?_
     rw[HO.out]
     refine⟨⟨.slice none 0 0,ret_eq rfl,World.ownsRow_nil _ _ _ _⟩,?_,(put5_keeps (keep_set HK2.out _) (Nat.le_refl _) _ _ _ _ _).alloc _⟩
     exact row_alloc (put5_row (HR2.out.set 0 (.string (strB []))) (fun e=>hne e.symm) _ _ _ _ _)
    ·have hcl':m.closed=false:=by simpa using hcl
     rw[if_neg hcl]at ho
     rw[hcl']at hc2
     have HO:=Lib.hid ho
     clear ho hcl hcl'
     go_wp2_with fail
     refine bodyPost_ret (results_mark rfl _ _ w.heap.size _ _ _ _ rfl (alloc_keep (put5_at HZ2.out _ _ _ _ _)) Tryz.underlying38 rfl mark_info) rfl ?_
     rw[HO.out]
     exact⟨⟨.slice none 0 0,ret_eq rfl,World.ownsRow_nil _ _ _ _⟩,row_alloc (put5_row HR2.out (fun e=>hne e.symm) _ _ _ _ _),(put5_keeps HK2.out (Nat.le_refl _) _ _ _ _ _).alloc _⟩
   ·rw[if_neg hn]at ho
    obtain⟨N,hN⟩:=Int.eq_ofNat_of_zero_le (by omega:0≤n)
    subst hN
    have e2:=strB_ext m.buf N
    have hnl2:N≤m.buf.length:=by omega
    rw[Int.toNat_natCast]at ho
    clear hbig hb5
    cases e
    ·have HO:=Lib.hid ho
     clear ho
     go_wp2_with fail
     refine bodyPost_ret (results_mark rfl _ _ w.heap.size _ _ _ _ rfl (alloc_keep (put5_at (res_set HZ2.out hne) _ _ _ _ _)) Tryz.underlying38 rfl mark_info) rfl ?_
     rw[HO.out]
     refine⟨⟨.slice a x.attrs.length c,ret_eq rfl,World.ownsRow.alloc ?_ _⟩,?_,(put5_keeps (keep_set HK2.out _) (Nat.le_refl _) _ _ _ _ _).alloc _⟩
     ·exact own_base (own_put5 (own_kept HOW.out fun g hg=>heap_setCell_other _ _ _ _ (by show g≠b;have:=(HOW.out.lt g hg).1;omega)) (Nat.lt_succ_self _) _ _ _ _ _) (Nat.le_succ _)
     ·exact row_alloc (put5_row (HR2.out.set 0 _) (fun e=>hne e.symm) _ _ _ _ _)
    ·have HO:=Lib.hid ho
     clear ho
     go_wp2_with fail
     refine bodyPost_ret (results_mark rfl _ _ w.heap.size _ _ _ _ rfl (alloc_keep (put5_at (res_set (res_set HZ2.out hne) hne) _ _ _ _ _)) Tryz.underlying38 rfl mark_info) rfl ?_
     rw[HO.out]
     refine⟨⟨.slice a x.attrs.length c,ret_eq rfl,World.ownsRow.alloc ?_ _⟩,?_,(put5_keeps (keep_set (keep_set HK2.out _) _) (Nat.le_refl _) _ _ _ _ _).alloc _⟩
     ·exact own_base (own_put5 (own_kept (own_kept HOW.out fun g hg=>heap_setCell_other _ _ _ _ (by show g≠b;have:=(HOW.out.lt g hg).1;omega)) fun g hg=>heap_setCell_other _ _ _ _ (by show g≠b;have:=(HOW.out.lt g hg).1;omega)) (Nat.lt_succ_self _) _ _ _ _ _) (Nat.le_succ _)
     ·exact row_alloc (put5_row ((HR2.out.set 0 _).set 3 _) (fun e=>hne e.symm) _ _ _ _ _)
  ·have herb:(er0==0)=false:=beq_eq_false_iff_ne.2 her
   rw[if_pos her]at ho
   have HO:=Lib.hid ho
   clear ho
   by_cases hn:n<0
   ·have hb6:=hb5 hn
    clear hbig hb5
    go_wp2_with fail
    refine bodyPost_ret (results_mark rfl _ _ w.heap.size _ _ _ _ rfl (alloc_keep (put5_at (res_set (res_set HZ2.out hne) hne) _ _ _ _ _)) Tryz.underlying38 rfl mark_info) rfl ?_
    rw[HO.out]
    refine⟨⟨.slice none 0 0,ret_eq rfl,World.ownsRow_nil _ _ _ _⟩,?_,(put5_keeps (keep_set (keep_set HK2.out _) _) (Nat.le_refl _) _ _ _ _ _).alloc _⟩
    exact row_alloc (put5_row ((HR2.out.set 9 _).set 0 (.string (strB []))) (fun e=>hne e.symm) _ _ _ _ _)
   ·clear hbig hb5
    go_wp2_with fail
    refine bodyPost_ret (results_mark rfl _ _ w.heap.size _ _ _ _ rfl (alloc_keep (put5_at (res_set (res_set HZ2.out hne) hne) _ _ _ _ _)) Tryz.underlying38 rfl mark_info) rfl ?_
    rw[HO.out]
    refine⟨⟨.slice none 0 0,ret_eq rfl,World.ownsRow_nil _ _ _ _⟩,?_,(put5_keeps (keep_set (keep_set HK2.out _) _) (Nat.le_refl _) _ _ _ _ _).alloc _⟩
    exact row_alloc (put5_row ((HR2.out.set 9 _).set 0 (.string (strB []))) (fun e=>hne e.symm) _ _ _ _ _)
end
section
open Mem
theorem tagF_name (m:MkM) (e:Bool):(tagF m e).1.name.length≤2049:=by
 have hp:(parseF (m.buf.take 2049) e).1.name.length≤2049:=by
  unfold parseF
  cases hu:untilF signT ((m.buf.take 2049).drop (if e then 2 else 1))with
  |none=>exact Nat.zero_le _
  |some q =>
   obtain⟨nm,r⟩:=q
   have hl:=(untilF_len hu).1
   rw[List.length_drop,List.length_take]at hl
   have hn:(lowS nm).length≤2049:=by unfold lowS;rw[List.length_map];omega
   cases ht:tagsF [] r with
   |none=>simp only[ht];exact Nat.zero_le _
   |some q =>
    obtain⟨al,sl,r2⟩:=q
    simp only[ht]
    cases e
    ·simp only[Bool.false_eq_true,if_false]
     split
     ·exact Nat.zero_le _
     ·exact hn
    ·exact hn
 unfold tagF
 simp only
 obtain⟨er,her⟩: ∃er,er=if(parseF (m.buf.take 2049) e).2.1>2048∨((parseF (m.buf.take 2049) e).2.1<0∧2048<(m.buf.take 2049).length)then(41:Int)else(parseF (m.buf.take 2049) e).2.2:=⟨_,rfl⟩
 rw[←her]
 by_cases h0:er=0
 ·rw[if_neg (fun hh=>hh h0)]
  by_cases hn:(parseF (m.buf.take 2049) e).2.1<0
  ·rw[if_pos hn];exact Nat.zero_le _
  ·rw[if_neg hn];exact hp
 ·rw[if_pos h0];exact Nat.zero_le _
theorem tagF_err {m:MkM} {e:Bool} (h:(tagF m e).2.1=true):(tagF m e).2.2.2.err=m.err:=by
 unfold tagF at h ⊢
 simp only at h ⊢
 obtain⟨er,her⟩: ∃er,er=if(parseF (m.buf.take 2049) e).2.1>2048∨((parseF (m.buf.take 2049) e).2.1<0∧2048<(m.buf.take 2049).length)then(41:Int)else(parseF (m.buf.take 2049) e).2.2:=⟨_,rfl⟩
 rw[←her]at h ⊢
 by_cases h0:er=0
 ·rw[if_neg (fun hh=>hh h0)]at h ⊢
  by_cases hn:(parseF (m.buf.take 2049) e).2.1<0
  ·rw[if_pos hn]at h;cases h
  ·rw[if_neg hn]
   cases e <;>rfl
 ·rw[if_pos h0]at h;cases h
theorem passF_err (m:MkM):(passF m).2.2.2.err=m.err∧(passF m).1.name= []:=by
 have hlater: ∀m':MkM,m'.err=m.err→(comLater m').2.2.2.err=m.err∧(comLater m').1.name= []:=fun m' h=>by
  unfold comLater
  simp only
  repeat' split
  all_goals exact⟨h,rfl⟩
 unfold passF
 split
 ·unfold comF
  split
  ·split
   ·exact⟨rfl,rfl⟩
   ·split
    ·exact⟨rfl,rfl⟩
    ·split
     ·exact⟨rfl,rfl⟩
     ·exact hlater _ rfl
  ·exact hlater m rfl
 ·split
  ·repeat' split
   all_goals exact⟨rfl,rfl⟩
  ·unfold cdF
   simp only
   repeat' split
   all_goals exact⟨rfl,rfl⟩
theorem oneF_err {m:MkM} (h:(oneF m).2.1=true):(oneF m).2.2.2.err=m.err∧(oneF m).1.name.length≤2049:=by
 unfold oneF at h ⊢
 split
 ·rename_i h0
  rw[if_pos h0]at h
  unfold stepF at h ⊢
  simp only at h ⊢
  generalize textF m m.buf=p at *
  by_cases ht:p.1= []
  ·rw[if_neg (fun hh=>hh ht)]at h ⊢
   by_cases i2:p.2.2=2
   ·rw[if_pos i2]at h ⊢;exact⟨tagF_err h,tagF_name _ _⟩
   ·rw[if_neg i2]at h ⊢
    by_cases i3:p.2.2=3
    ·rw[if_pos i3]at h ⊢;exact⟨tagF_err h,tagF_name _ _⟩
    ·rw[if_neg i3]at h ⊢
     repeat' split at h
     all_goals cases h
  ·rw[if_pos ht];exact⟨rfl,Nat.zero_le _⟩
 ·exact⟨(passF_err m).1,by rw[(passF_err m).2];exact Nat.zero_le _⟩
theorem readF_name: ∀(n:Nat) (m:MkM),doM m≤n→ ∀x m1,readF m=(some x,m1)→m1.err=0∧x.name.length≤2049:=by
 intro n
 induction n using Nat.strongRecOn with
 |_ n ih =>
  intro m hm x m1 h
  by_cases he:m.err=0
  ·cases ht:(oneF m).2.1
   ·cases hs:(oneF m).2.2.1
    ·rw[readF_go he ht hs]at h
     have hl:=one_less m (.inr hs)
     exact ih (doM (oneF m).2.2.2) (by omega) _ (Nat.le_refl _) x m1 h
    ·rw[readF_stop he ht hs]at h;cases h
   ·rw[readF_told he ht]at h
    cases h
    exact⟨(oneF_err ht).1.trans he,(oneF_err ht).2⟩
  ·rw[readF_err he]at h;cases h
end
end Go.Proofs.YtgepobccoffnaaaGreatDoor.Rd
