/- Texts joined for a claim: RMkT: plain laws and contracts. No conditions beyond those that each lemma types. -/
import Derived.Test.YtgepobccoffnaaaGreatDoorQ36
import Derived.Test.YtgepobccoffnaaaGreatDoorQ37
import Derived.Test.YtgepobccoffnaaaGreatDoorQ38
set_option linter.unusedVariables false
set_option linter.unusedSimpArgs false
set_option maxRecDepth 100000
set_option maxHeartbeats 8000000
namespace Go.Proofs.YtgepobccoffnaaaGreatDoor.Rd
open Go.RowKit Mem
theorem any_cases (sg:Str): ∀s:Str,(Lib.indexAny s sg= -1∧ ∀c∈s,sg.contains c=false)∨ ∃(i:Nat) (c:UInt8) (r:Str),Lib.indexAny s sg=i∧i<s.length∧s.drop i=c::r∧sg.contains c=true∧ ∀d∈s.take i,sg.contains d=false
 | []=> .inl ⟨rfl,fun _ h=>by cases h⟩
 |b::l=>by
  rw[Lib.indexAny]
  cases hb:sg.contains b
  ·rw[if_neg (by simp)]
   rcases any_cases sg l with⟨h1,h2⟩|⟨i,c,r,h1,h2,h3,h4,h5⟩
   ·left
    rw[h1]
    refine⟨rfl,fun c hc=> ?_⟩
    rcases List.mem_cons.1 hc with rfl|hc
    ·exact hb
    ·exact h2 c hc
   ·right
    refine⟨i+1,c,r,?_,by simp only[List.length_cons];omega,h3,h4,fun d hd=> ?_⟩
    ·rw[h1,if_neg (fun e=>by have:=beq_iff_eq.1 e;omega)];push_cast;rfl
    ·rw[List.take_succ_cons]at hd
     rcases List.mem_cons.1 hd with rfl|hd
     ·exact hb
     ·exact h5 d hd
  ·right
   rw[if_pos rfl]
   exact⟨0,b,l,rfl,by simp,rfl,hb,fun d hd=>by cases hd⟩
def sgF (m:MkM):Str:=if m.mode=2 then [60]else [60,38]
theorem sg_no {m:MkM} {c:UInt8} (h:(sgF m).contains c=false):c≠60∧ ¬(c=38∧m.mode≠2):=by
 unfold sgF at h
 split at h
 ·rename_i hm
  exact⟨fun e=>(by rw[e]at h;cases h),fun e=>e.2 hm⟩
 ·exact⟨fun e=>(by rw[e]at h;cases h),fun e=>(by rw[e.1]at h;cases h)⟩
theorem sg_yes {m:MkM} {c:UInt8} (h:(sgF m).contains c=true):c=60∨(c=38∧m.mode≠2):=by
 unfold sgF at h
 split at h
 ·left;simpa using h
 ·rename_i hm
  simp only[List.contains_cons,List.contains_nil,Bool.or_false,Bool.or_eq_true,beq_iff_eq]at h
  exact h.imp id fun e=>⟨e,hm⟩
theorem textF_skip {m:MkM} {c:UInt8} {r:Str} (h:(sgF m).contains c=false):textF m (c::r)=(c::(textF m r).1,(textF m r).2):=by
 rw[textF,if_neg (sg_no h).1,if_neg (sg_no h).2]
theorem textF_pre (m:MkM) (s:Str): ∀p:Str,(∀c∈p,(sgF m).contains c=false)→textF m (p++s)=(p++(textF m s).1,(textF m s).2)
 | [],_=>rfl
 |c::p,h=>by
  rw[List.cons_append,textF_skip (h c List.mem_cons_self),textF_pre m s p fun d hd=>h d (List.mem_cons_of_mem _ hd)]
  rfl
theorem textF_none {m:MkM} {s:Str} (h: ∀c∈s,(sgF m).contains c=false):textF m s=(s,[],1):=by
 have:=textF_pre m [] s h
 rw[List.append_nil,textF]at this
 simpa using this
theorem textF_lt {m:MkM} {r:Str}:textF m (60::r)=if lookF m (60::r)=0 then(60::(textF m r).1,(textF m r).2)else([],60::r,lookF m (60::r)):=by
 rw[textF,if_pos rfl]
theorem textF_wait {m:MkM} {r:Str} (h2:m.mode≠2) (hc:m.closed=false) (hm:moreF (38::r)=true):textF m (38::r)=([],38::r,1):=by
 rw[textF,if_neg (by decide),if_pos ⟨rfl,h2⟩,if_pos ⟨hc,hm⟩]
theorem textF_ref {m:MkM} {r:Str} (h2:m.mode≠2) (h: ¬(m.closed=false∧moreF (38::r)=true)):textF m (38::r)=((if(takeF (38::r) false).2=0 then [38]else(takeF (38::r) false).1)++(textF m (r.drop ((takeF (38::r) false).2-1))).1,(textF m (r.drop ((takeF (38::r) false).2-1))).2):=by
 rw[textF,if_neg (by decide),if_pos ⟨rfl,h2⟩,if_neg h]
def bufLen (w:World) (b:Nat):Nat:=match w.cell? ⟨b,0,none⟩with
 |some (.string s)=>s.size
 |_=>0
theorem bufLen_row {w:World} {b:Nat} {m:MkM} (h:Row w b (machV m)):bufLen w b=m.buf.length:=by
 unfold bufLen
 rw[(mach_row h).1]
 exact strB_size _
theorem strB_drop (l:Str) (a:Nat):(strB l).extract a (strB l).size=strB (l.drop a):=by
 rw[strB_size];exact strB_ext l a
theorem ret_si {a b:ByteArray} {i j:Int} (h:a=b) (h':i=j):Ending.returned (.tuple #[.string a,.int .i64 i])= .returned (.tuple #[.string b,.int .i64 j]):=by rw[h,h']
theorem text_any (m:MkM) (b:Nat) (w:World) (hr:Row w b (machV m)) (hl:m.buf.length≤4294967280) (hn:m.name.length≤4294967280) :
 Calls Tryz.prog 56 #[.pointer (some ⟨b,0,none⟩)] w fun e w'=>e= .returned (.tuple #[.string (strB (textF m m.buf).1),.int .i64 (textF m m.buf).2.2])∧Row w' b (machV {m with buf:=(textF m m.buf).2.1})∧Keeps (Only b) w w':=by
 have hbw:=hr.lt
 obtain⟨p,hp⟩: ∃p,p=textF m m.buf:=⟨_,rfl⟩
 rw[←hp]
 have HP:=Lib.hid hp
 clear hp
 have HR0:=Lib.hid hr
 obtain⟨-, -, -,hc3, -⟩:=mach_row hr
 clear hr
 by_cases hm2:m.mode=2
 ·have hm2':(m.mode==2)=true:=beq_iff_eq.2 hm2
  have hsg:sgF m= [60]:=if_pos hm2
  have hsgA:Ascii ⟨#[60]⟩:=fun j c hj=>by
   match j,hj with
   |0,hj=>cases hj;decide
   |j+1,hj=>cases hj
  have hsl:(⟨#[60]⟩:ByteArray).toList=sgF m:=by rw[hsg,ByteArray.toList_eq]
  have HIX:Hid (∀(s:ByteArray) (u:World),s.size<4294967281→Calls Tryz.prog 85 #[.string s,.string ⟨#[60]⟩] u fun e w'=>e= .returned (.int .i64 (Lib.indexAny s.toList (sgF m)))∧Below u.heap.size u w'):=fun s u hs=>by
   rw[←hsl]
   exact IndexAny_any s ⟨#[60]⟩ u (by decide) hsgA hs (by decide)
  clear hsg hsgA hsl
  have HM2:=Lib.hid hm2
  rw[hm2]at hc3
  clear hm2
  go_enter Tryz.func56,Tryz.ntmps56
  go_wp2_with fail
  clear hc3 hm2'
  go_loopw [6] (fun _ wr=> ∃(cur acc:Str),Row wr b (machV {m with buf:=cur})∧Lib.IsBuilderF 84 5 w.heap.size w.heap.size (bytesV acc) wr∧Keeps (Only b) w wr∧acc.length+2*cur.length≤2*m.buf.length∧(acc++(textF m cur).1,(textF m cur).2)=textF m m.buf) (fun _ wr=>bufLen wr b)
  case atStart=>exact⟨m.buf,[],HR0.out.kept (heap_alloc_old _ _ hbw),Lib.IsBuilderF.of (Lib.fresh_isBuilder 84 5 w),(Keeps.refl (Only b) w).alloc _,by simp,rfl⟩
  case round =>
   obtain⟨cur,acc,hrr,hii,hkk,hbd,hv⟩:=hrel
   have hzr:=hkk.size
   have HRr:=Lib.hid hrr
   have HIr:=Lib.hid hii
   have HKr:=Lib.hid hkk
   have HV:=Lib.hid hv
   have hbl:=bufLen_row hrr
   have HBL:=Lib.hid hbl
   have hc0:wr.cell? ⟨b,0,none⟩=some (.string (strB cur)):=(mach_row hrr).1
   have hcur:cur.length≤4294967280:=by omega
   have hsz:(strB cur).size=cur.length:=strB_size _
   have HIXc:=Lib.hid (fun u=>HIX.out (strB cur) u (by rw[strB_size];omega))
   rw[toList_strB]at HIXc
   clear hrr hii hkk hv hbl
   rcases any_cases (sgF m) cur with⟨h1,h2⟩|⟨i,c,r,h1,hi,hdr,hc,hpre⟩
   ·have HN:=Lib.hid (textF_none h2)
    rw[h1]at HIXc
    clear h1 h2
    go_wp2_with fail
    refine(HIXc.out _).mono ?_
    rintro e U ⟨rfl,hb⟩
    have HIU:=HIr
    have HKU:=HKr
    have hzU:=hzr
    have HRU:=HRr
    clear hc0
    have hc0:U.cell? ⟨b,0,none⟩=some (.string (strB cur)):=(mach_row (HRU.out.below hb HRU.out.lt)).1
    --a callee that makes new blocks alone has answered:hb
    replace HIU:=Lib.hid (builder_below HIU.out hb)
    replace HKU:=Lib.hid (keeps_then' HKU.out hb)
    replace hzU:=Nat.le_trans hzU hb.size
    replace HRU:=Lib.hid (HRU.out.below hb HRU.out.lt)
    clear hb
    dsimp only
    go_wp2_with fail
    refine(WriteString_any w.heap.size w.heap.size _ (strB cur) _ HIU.out (by rw[bytesV_length,strB_size];omega) hzU).mono ?_
    rintro e W2 ⟨rfl,g2,b2,_⟩
    have HI2:Hid (Lib.IsBuilderF 84 5 w.heap.size w.heap.size (bytesV (acc++cur)) W2):=by
     show Lib.IsBuilderF _ _ _ _ _ _
     rw[bytesV_two];exact .inr g2
    clear hc0
    --the builder has been written:g2,b2;HI2 the fact
    have HR2:=Lib.hid (HRU.out.below b2 hbw)
    have HK2:=Lib.hid (keeps_belowB HKU.out b2)
    have hz2:=Nat.le_trans hzU b2.size
    clear g2 b2 HRU HKU hzU HIU
    have hf0:=(mach_free HR2.out).1
    have hc0:=(mach_row HR2.out).1
    simp only at hc0
    dsimp only
    go_wp2_with fail
    have HIU:=Lib.hid (builder_set HI2.out hbw (.string (strB [])) (p:=⟨b,0,none⟩))
    have hzU:w.heap.size≤(W2.setCell ⟨b,0,none⟩ (.string (strB []))).heap.size:=by rw[World.size_setCell];exact hz2
    have HRU:Hid (Row (W2.setCell ⟨b,0,none⟩ (.string (strB []))) b (machV {m with buf:= []})):=HR2.out.set 0 _
    have HKU:=Lib.hid (keep_set HK2.out (.string (strB [])) (j:=0))
    have HVN:=Lib.hid (show(acc++cur,([],1))=textF m m.buf from by rw[←HV.out,HN.out])
    refine(BString_any w.heap.size w.heap.size _ _ HIU.out hzU).mono ?_
    rintro e W3 ⟨rfl,_,b3,_⟩
    dsimp only
    go_wp2_with fail
    go_ret2
    exact⟨ret_si (by rw[HP.out,←HVN.out];rfl) (by rw[HP.out,←HVN.out]),by rw[HP.out,←HVN.out];exact HRU.out.below b3 hbw,keeps_belowB HKU.out b3⟩
   ·have hrl:r.length+1=cur.length-i:=by
     have:=congrArg List.length hdr
     rw[List.length_drop,List.length_cons]at this
     omega
    have HPRE:=Lib.hid (show textF m cur=(cur.take i++(textF m (c::r)).1,(textF m (c::r)).2)from by
     conv=>lhs;rw[←List.take_append_drop i cur,hdr]
     exact textF_pre m (c::r) _ hpre)
    have e1:=strB_cut cur i
    have e2:=strB_ext cur i
    rw[hdr]at e2
    rw[h1]at HIXc
    have hcs:=sg_yes hc
    clear h1 hdr hpre hc
    have hs2:(strB (c::r)).size=r.length+1:=by rw[strB_size];rfl
    have hb0: ∀h,(strB (c::r))[0]'h=c:=fun _=>rfl
    have hp1:0<(strB (c::r)).size:=by omega
    have hp2:1≤(strB (c::r)).size:=by omega
    have hp3:(1:Int)≤((strB (c::r)).size:Int):=by omega
    clear hs2
    rcases hcs with rfl|⟨rfl,h38⟩
    ·have hcb:(((60:UInt8).toNat:Int)==38)=false:=by decide
     go_wp2_with fail
     refine(HIXc.out _).mono ?_
     rintro e U ⟨rfl,hb⟩
     have HIU:=HIr
     have HKU:=HKr
     have hzU:=hzr
     have HRU:=HRr
     clear hc0
     have hc0:U.cell? ⟨b,0,none⟩=some (.string (strB cur)):=(mach_row (HRU.out.below hb HRU.out.lt)).1
     --a callee that makes new blocks alone has answered:hb
     replace HIU:=Lib.hid (builder_below HIU.out hb)
     replace HKU:=Lib.hid (keeps_then' HKU.out hb)
     replace hzU:=Nat.le_trans hzU hb.size
     replace HRU:=Lib.hid (HRU.out.below hb HRU.out.lt)
     clear hb
     dsimp only
     go_wp2_with fail
     refine(WriteString_any w.heap.size w.heap.size _ (strB (cur.take i)) _ HIU.out (by rw[bytesV_length,strB_size,List.length_take];omega) hzU).mono ?_
     rintro e W2 ⟨rfl,g2,b2,_⟩
     have HI2:Hid (Lib.IsBuilderF 84 5 w.heap.size w.heap.size (bytesV (acc++cur.take i)) W2):=by
      show Lib.IsBuilderF _ _ _ _ _ _
      rw[bytesV_two];exact .inr g2
     clear hc0
     have hrw:Row (W2.setCell ⟨b,0,none⟩ (.string (strB (60::r)))) b (machV {m with buf:=60::r}):=(HRU.out.below b2 hbw).set 0 (.string (strB (60::r)))
     have hc2:W2.cell? ⟨b,2,none⟩=some (.bool m.closed):=(mach_row (HRU.out.below b2 hbw)).2.2.1
     first|rw[HCL.out]at hc2|skip
     have hz2:w.heap.size≤(W2.setCell ⟨b,0,none⟩ (.string (strB (60::r)))).heap.size:=by rw[World.size_setCell];exact Nat.le_trans hzU b2.size
     have HK2:=Lib.hid (keep_set (keeps_belowB HKU.out b2) (.string (strB (60::r))) (j:=0))
     have HI3:=Lib.hid (builder_set HI2.out hbw (.string (strB (60::r))) (p:=⟨b,0,none⟩))
     have HR2:=Lib.hid hrw
     have hf0:=(mach_free (HRU.out.below b2 hbw)).1
     have hc00:=(mach_row (HRU.out.below b2 hbw)).1
     simp only at hc00
     clear hrw g2 b2 HRU HKU hzU HIU HI2
     dsimp only
     go_wp2_with fail
     clear hc00 hf0 hc2
     have HIU:=HI3
     have HRU:=HR2
     have HKU:=HK2
     have hzU:=hz2
     generalize W2.setCell ⟨b,0,none⟩ (.string (strB (60::r)))=U2 at *
     refine(look_any {m with buf:=60::r} b U2 HRU.out (by simp only[List.length_cons];omega) hn).mono ?_
     rintro e U3 ⟨rfl,hb⟩
     rw[show lookF {m with buf:=60::r} ({m with buf:=60::r}:MkM).buf=lookF m (60::r)from rfl]
     have HLT1:=Lib.hid (textF_lt (m:=m) (r:=r))
     obtain⟨is,his⟩: ∃is,is=lookF m (60::r):=⟨_,rfl⟩
     rw[←his]at HLT1 ⊢
     clear his
     by_cases h0:is=0
     ·have h0b:(is==0)=true:=beq_iff_eq.2 h0
      rw[if_pos h0]at HLT1
      clear hcb
      have hc0:=(mach_row (HRU.out.below hb HRU.out.lt)).1
      simp only at hc0
      --a callee that makes new blocks alone has answered:hb
      replace HIU:=Lib.hid (builder_below HIU.out hb)
      replace HKU:=Lib.hid (keeps_then' HKU.out hb)
      replace hzU:=Nat.le_trans hzU hb.size
      replace HRU:=Lib.hid (HRU.out.below hb HRU.out.lt)
      clear hb
      dsimp only
      go_wp2_with fail
      refine(WriteByte_any w.heap.size w.heap.size _ _ _ HIU.out (by rw[bytesV_length,List.length_append,List.length_take];omega) hzU).mono ?_
      rintro e W5 ⟨rfl,g2,b2,_⟩
      have HI2:Hid (Lib.IsBuilderF 84 5 w.heap.size w.heap.size (bytesV (acc++cur.take i++ [60])) W5):=by
       show Lib.IsBuilderF _ _ _ _ _ _
       rw[bytesV_two];exact .inr g2
      have HVN:=Lib.hid (show(acc++cur.take i++ [60]++(textF m r).1,(textF m r).2)=textF m m.buf from by rw[←HV.out,HPRE.out,HLT1.out];simp)
      have HBD:=Lib.hid (show(acc++cur.take i++ [60]).length+2*r.length≤2*m.buf.length from by simp only[List.length_append,List.length_take,List.length_cons,List.length_nil];omega)
      have e3:=strB_drop (60::r) 1
      rw[show(60::r:Str).drop 1=r from rfl]at e3
      obtain⟨nx,hnx⟩: ∃nx,nx=r:=⟨_,rfl⟩
      rw[show strB r=strB nx from by rw[hnx]]at e3
      rw[←hnx]at HVN HBD
      have HLT:=Lib.hid (show nx.length<cur.length from by rw[hnx];omega)
      clear hc0 hnx
      --the builder has been written:g2,b2;HI2 the fact
      have HR2:=Lib.hid (HRU.out.below b2 hbw)
      have HK2:=Lib.hid (keeps_belowB HKU.out b2)
      have hz2:=Nat.le_trans hzU b2.size
      clear g2 b2 HRU HKU hzU HIU
      have hf0:=(mach_free HR2.out).1
      have hc0:=(mach_row HR2.out).1
      simp only at hc0
      dsimp only
      go_wp2_with fail
      go_roundw
      case rel=>exact⟨_,_,HR2.out.set 0 (.string (strB nx)),builder_set HI2.out hbw _,keep_set HK2.out _,HBD.out,HVN.out⟩
      case measure =>
       rw[HBL.out,bufLen_row (m:= {m with buf:=nx}) (HR2.out.set 0 (.string (strB nx)))]
       exact HLT.out
     ·have h0b:(is==0)=false:=beq_eq_false_iff_ne.2 h0
      have h0c:(is !=0)=true:=by rw[bne,h0b];rfl
      rw[if_neg h0]at HLT1
      have HVN:=Lib.hid (show(acc++cur.take i,(60::r,is))=textF m m.buf from by rw[←HV.out,HPRE.out,HLT1.out];simp)
      --a callee that makes new blocks alone has answered:hb
      replace HIU:=Lib.hid (builder_below HIU.out hb)
      replace HKU:=Lib.hid (keeps_then' HKU.out hb)
      replace hzU:=Nat.le_trans hzU hb.size
      replace HRU:=Lib.hid (HRU.out.below hb HRU.out.lt)
      clear hb
      dsimp only
      go_wp2_with fail
      refine(BString_any w.heap.size w.heap.size _ _ HIU.out hzU).mono ?_
      rintro e W3 ⟨rfl,_,b3,_⟩
      dsimp only
      go_wp2_with fail
      go_ret2
      exact⟨ret_si (by rw[HP.out,←HVN.out];rfl) (by rw[HP.out,←HVN.out]),by rw[HP.out,←HVN.out];exact HRU.out.below b3 hbw,keeps_belowB HKU.out b3⟩
    ·exact absurd HM2.out h38
 ·have hm2':(m.mode==2)=false:=beq_eq_false_iff_ne.2 hm2
  have hsg:sgF m= [60,38]:=if_neg hm2
  have hsgA:Ascii ⟨#[60,38]⟩:=fun j c hj=>by
   match j,hj with
   |0,hj=>cases hj;decide
   |1,hj=>cases hj;decide
   |j+2,hj=>cases hj
  have hsl:(⟨#[60,38]⟩:ByteArray).toList=sgF m:=by rw[hsg,ByteArray.toList_eq]
  have HIX:Hid (∀(s:ByteArray) (u:World),s.size<4294967281→Calls Tryz.prog 85 #[.string s,.string ⟨#[60,38]⟩] u fun e w'=>e= .returned (.int .i64 (Lib.indexAny s.toList (sgF m)))∧Below u.heap.size u w'):=fun s u hs=>by
   rw[←hsl]
   exact IndexAny_any s ⟨#[60,38]⟩ u (by decide) hsgA hs (by decide)
  clear hsg hsgA hsl
  have HM2:=Lib.hid hm2
  clear hm2
  go_enter Tryz.func56,Tryz.ntmps56
  go_wp2_with fail
  clear hc3 hm2'
  go_loopw [6] (fun _ wr=> ∃(cur acc:Str),Row wr b (machV {m with buf:=cur})∧Lib.IsBuilderF 84 5 w.heap.size w.heap.size (bytesV acc) wr∧Keeps (Only b) w wr∧acc.length+2*cur.length≤2*m.buf.length∧(acc++(textF m cur).1,(textF m cur).2)=textF m m.buf) (fun _ wr=>bufLen wr b)
  case atStart=>exact⟨m.buf,[],HR0.out.kept (heap_alloc_old _ _ hbw),Lib.IsBuilderF.of (Lib.fresh_isBuilder 84 5 w),(Keeps.refl (Only b) w).alloc _,by simp,rfl⟩
  case round =>
   obtain⟨cur,acc,hrr,hii,hkk,hbd,hv⟩:=hrel
   have hzr:=hkk.size
   have HRr:=Lib.hid hrr
   have HIr:=Lib.hid hii
   have HKr:=Lib.hid hkk
   have HV:=Lib.hid hv
   have hbl:=bufLen_row hrr
   have HBL:=Lib.hid hbl
   have hc0:wr.cell? ⟨b,0,none⟩=some (.string (strB cur)):=(mach_row hrr).1
   have hcur:cur.length≤4294967280:=by omega
   have hsz:(strB cur).size=cur.length:=strB_size _
   have HIXc:=Lib.hid (fun u=>HIX.out (strB cur) u (by rw[strB_size];omega))
   rw[toList_strB]at HIXc
   clear hrr hii hkk hv hbl
   rcases any_cases (sgF m) cur with⟨h1,h2⟩|⟨i,c,r,h1,hi,hdr,hc,hpre⟩
   ·have HN:=Lib.hid (textF_none h2)
    rw[h1]at HIXc
    clear h1 h2
    go_wp2_with fail
    refine(HIXc.out _).mono ?_
    rintro e U ⟨rfl,hb⟩
    have HIU:=HIr
    have HKU:=HKr
    have hzU:=hzr
    have HRU:=HRr
    clear hc0
    have hc0:U.cell? ⟨b,0,none⟩=some (.string (strB cur)):=(mach_row (HRU.out.below hb HRU.out.lt)).1
    --a callee that makes new blocks alone has answered:hb
    replace HIU:=Lib.hid (builder_below HIU.out hb)
    replace HKU:=Lib.hid (keeps_then' HKU.out hb)
    replace hzU:=Nat.le_trans hzU hb.size
    replace HRU:=Lib.hid (HRU.out.below hb HRU.out.lt)
    clear hb
    dsimp only
    go_wp2_with fail
    refine(WriteString_any w.heap.size w.heap.size _ (strB cur) _ HIU.out (by rw[bytesV_length,strB_size];omega) hzU).mono ?_
    rintro e W2 ⟨rfl,g2,b2,_⟩
    have HI2:Hid (Lib.IsBuilderF 84 5 w.heap.size w.heap.size (bytesV (acc++cur)) W2):=by
     show Lib.IsBuilderF _ _ _ _ _ _
     rw[bytesV_two];exact .inr g2
    clear hc0
    --the builder has been written:g2,b2;HI2 the fact
    have HR2:=Lib.hid (HRU.out.below b2 hbw)
    have HK2:=Lib.hid (keeps_belowB HKU.out b2)
    have hz2:=Nat.le_trans hzU b2.size
    clear g2 b2 HRU HKU hzU HIU
    have hf0:=(mach_free HR2.out).1
    have hc0:=(mach_row HR2.out).1
    simp only at hc0
    dsimp only
    go_wp2_with fail
    have HIU:=Lib.hid (builder_set HI2.out hbw (.string (strB [])) (p:=⟨b,0,none⟩))
    have hzU:w.heap.size≤(W2.setCell ⟨b,0,none⟩ (.string (strB []))).heap.size:=by rw[World.size_setCell];exact hz2
    have HRU:Hid (Row (W2.setCell ⟨b,0,none⟩ (.string (strB []))) b (machV {m with buf:= []})):=HR2.out.set 0 _
    have HKU:=Lib.hid (keep_set HK2.out (.string (strB [])) (j:=0))
    have HVN:=Lib.hid (show(acc++cur,([],1))=textF m m.buf from by rw[←HV.out,HN.out])
    refine(BString_any w.heap.size w.heap.size _ _ HIU.out hzU).mono ?_
    rintro e W3 ⟨rfl,_,b3,_⟩
    dsimp only
    go_wp2_with fail
    go_ret2
    exact⟨ret_si (by rw[HP.out,←HVN.out];rfl) (by rw[HP.out,←HVN.out]),by rw[HP.out,←HVN.out];exact HRU.out.below b3 hbw,keeps_belowB HKU.out b3⟩
   ·have hrl:r.length+1=cur.length-i:=by
     have:=congrArg List.length hdr
     rw[List.length_drop,List.length_cons]at this
     omega
    have HPRE:=Lib.hid (show textF m cur=(cur.take i++(textF m (c::r)).1,(textF m (c::r)).2)from by
     conv=>lhs;rw[←List.take_append_drop i cur,hdr]
     exact textF_pre m (c::r) _ hpre)
    have e1:=strB_cut cur i
    have e2:=strB_ext cur i
    rw[hdr]at e2
    rw[h1]at HIXc
    have hcs:=sg_yes hc
    clear h1 hdr hpre hc
    have hs2:(strB (c::r)).size=r.length+1:=by rw[strB_size];rfl
    have hb0: ∀h,(strB (c::r))[0]'h=c:=fun _=>rfl
    have hp1:0<(strB (c::r)).size:=by omega
    have hp2:1≤(strB (c::r)).size:=by omega
    have hp3:(1:Int)≤((strB (c::r)).size:Int):=by omega
    clear hs2
    rcases hcs with rfl|⟨rfl,h38⟩
    ·have hcb:(((60:UInt8).toNat:Int)==38)=false:=by decide
     go_wp2_with fail
     refine(HIXc.out _).mono ?_
     rintro e U ⟨rfl,hb⟩
     have HIU:=HIr
     have HKU:=HKr
     have hzU:=hzr
     have HRU:=HRr
     clear hc0
     have hc0:U.cell? ⟨b,0,none⟩=some (.string (strB cur)):=(mach_row (HRU.out.below hb HRU.out.lt)).1
     --a callee that makes new blocks alone has answered:hb
     replace HIU:=Lib.hid (builder_below HIU.out hb)
     replace HKU:=Lib.hid (keeps_then' HKU.out hb)
     replace hzU:=Nat.le_trans hzU hb.size
     replace HRU:=Lib.hid (HRU.out.below hb HRU.out.lt)
     clear hb
     dsimp only
     go_wp2_with fail
     refine(WriteString_any w.heap.size w.heap.size _ (strB (cur.take i)) _ HIU.out (by rw[bytesV_length,strB_size,List.length_take];omega) hzU).mono ?_
     rintro e W2 ⟨rfl,g2,b2,_⟩
     have HI2:Hid (Lib.IsBuilderF 84 5 w.heap.size w.heap.size (bytesV (acc++cur.take i)) W2):=by
      show Lib.IsBuilderF _ _ _ _ _ _
      rw[bytesV_two];exact .inr g2
     clear hc0
     have hrw:Row (W2.setCell ⟨b,0,none⟩ (.string (strB (60::r)))) b (machV {m with buf:=60::r}):=(HRU.out.below b2 hbw).set 0 (.string (strB (60::r)))
     have hc2:W2.cell? ⟨b,2,none⟩=some (.bool m.closed):=(mach_row (HRU.out.below b2 hbw)).2.2.1
     first|rw[HCL.out]at hc2|skip
     have hz2:w.heap.size≤(W2.setCell ⟨b,0,none⟩ (.string (strB (60::r)))).heap.size:=by rw[World.size_setCell];exact Nat.le_trans hzU b2.size
     have HK2:=Lib.hid (keep_set (keeps_belowB HKU.out b2) (.string (strB (60::r))) (j:=0))
     have HI3:=Lib.hid (builder_set HI2.out hbw (.string (strB (60::r))) (p:=⟨b,0,none⟩))
     have HR2:=Lib.hid hrw
     have hf0:=(mach_free (HRU.out.below b2 hbw)).1
     have hc00:=(mach_row (HRU.out.below b2 hbw)).1
     simp only at hc00
     clear hrw g2 b2 HRU HKU hzU HIU HI2
     dsimp only
     go_wp2_with fail
     clear hc00 hf0 hc2
     have HIU:=HI3
     have HRU:=HR2
     have HKU:=HK2
     have hzU:=hz2
     generalize W2.setCell ⟨b,0,none⟩ (.string (strB (60::r)))=U2 at *
     refine(look_any {m with buf:=60::r} b U2 HRU.out (by simp only[List.length_cons];omega) hn).mono ?_
     rintro e U3 ⟨rfl,hb⟩
     rw[show lookF {m with buf:=60::r} ({m with buf:=60::r}:MkM).buf=lookF m (60::r)from rfl]
     have HLT1:=Lib.hid (textF_lt (m:=m) (r:=r))
     obtain⟨is,his⟩: ∃is,is=lookF m (60::r):=⟨_,rfl⟩
     rw[←his]at HLT1 ⊢
     clear his
     by_cases h0:is=0
     ·have h0b:(is==0)=true:=beq_iff_eq.2 h0
      rw[if_pos h0]at HLT1
      clear hcb
      have hc0:=(mach_row (HRU.out.below hb HRU.out.lt)).1
      simp only at hc0
      --a callee that makes new blocks alone has answered:hb
      replace HIU:=Lib.hid (builder_below HIU.out hb)
      replace HKU:=Lib.hid (keeps_then' HKU.out hb)
      replace hzU:=Nat.le_trans hzU hb.size
      replace HRU:=Lib.hid (HRU.out.below hb HRU.out.lt)
      clear hb
      dsimp only
      go_wp2_with fail
      refine(WriteByte_any w.heap.size w.heap.size _ _ _ HIU.out (by rw[bytesV_length,List.length_append,List.length_take];omega) hzU).mono ?_
      rintro e W5 ⟨rfl,g2,b2,_⟩
      have HI2:Hid (Lib.IsBuilderF 84 5 w.heap.size w.heap.size (bytesV (acc++cur.take i++ [60])) W5):=by
       show Lib.IsBuilderF _ _ _ _ _ _
       rw[bytesV_two];exact .inr g2
      have HVN:=Lib.hid (show(acc++cur.take i++ [60]++(textF m r).1,(textF m r).2)=textF m m.buf from by rw[←HV.out,HPRE.out,HLT1.out];simp)
      have HBD:=Lib.hid (show(acc++cur.take i++ [60]).length+2*r.length≤2*m.buf.length from by simp only[List.length_append,List.length_take,List.length_cons,List.length_nil];omega)
      have e3:=strB_drop (60::r) 1
      rw[show(60::r:Str).drop 1=r from rfl]at e3
      obtain⟨nx,hnx⟩: ∃nx,nx=r:=⟨_,rfl⟩
      rw[show strB r=strB nx from by rw[hnx]]at e3
      rw[←hnx]at HVN HBD
      have HLT:=Lib.hid (show nx.length<cur.length from by rw[hnx];omega)
      clear hc0 hnx
      --the builder has been written:g2,b2;HI2 the fact
      have HR2:=Lib.hid (HRU.out.below b2 hbw)
      have HK2:=Lib.hid (keeps_belowB HKU.out b2)
      have hz2:=Nat.le_trans hzU b2.size
      clear g2 b2 HRU HKU hzU HIU
      have hf0:=(mach_free HR2.out).1
      have hc0:=(mach_row HR2.out).1
      simp only at hc0
      dsimp only
      go_wp2_with fail
      go_roundw
      case rel=>exact⟨_,_,HR2.out.set 0 (.string (strB nx)),builder_set HI2.out hbw _,keep_set HK2.out _,HBD.out,HVN.out⟩
      case measure =>
       rw[HBL.out,bufLen_row (m:= {m with buf:=nx}) (HR2.out.set 0 (.string (strB nx)))]
       exact HLT.out
     ·have h0b:(is==0)=false:=beq_eq_false_iff_ne.2 h0
      have h0c:(is !=0)=true:=by rw[bne,h0b];rfl
      rw[if_neg h0]at HLT1
      have HVN:=Lib.hid (show(acc++cur.take i,(60::r,is))=textF m m.buf from by rw[←HV.out,HPRE.out,HLT1.out];simp)
      --a callee that makes new blocks alone has answered:hb
      replace HIU:=Lib.hid (builder_below HIU.out hb)
      replace HKU:=Lib.hid (keeps_then' HKU.out hb)
      replace hzU:=Nat.le_trans hzU hb.size
      replace HRU:=Lib.hid (HRU.out.below hb HRU.out.lt)
      clear hb
      dsimp only
      go_wp2_with fail
      refine(BString_any w.heap.size w.heap.size _ _ HIU.out hzU).mono ?_
      rintro e W3 ⟨rfl,_,b3,_⟩
      dsimp only
      go_wp2_with fail
      go_ret2
      exact⟨ret_si (by rw[HP.out,←HVN.out];rfl) (by rw[HP.out,←HVN.out]),by rw[HP.out,←HVN.out];exact HRU.out.below b3 hbw,keeps_belowB HKU.out b3⟩
    ·have hcb:(((38:UInt8).toNat:Int)==38)=true:=by decide
     by_cases hcl:m.closed=true
     ·have HCL:=Lib.hid hcl
      clear hcl
      go_wp2_with fail
      refine(HIXc.out _).mono ?_
      rintro e U ⟨rfl,hb⟩
      have HIU:=HIr
      have HKU:=HKr
      have hzU:=hzr
      have HRU:=HRr
      clear hc0
      have hc0:U.cell? ⟨b,0,none⟩=some (.string (strB cur)):=(mach_row (HRU.out.below hb HRU.out.lt)).1
      --a callee that makes new blocks alone has answered:hb
      replace HIU:=Lib.hid (builder_below HIU.out hb)
      replace HKU:=Lib.hid (keeps_then' HKU.out hb)
      replace hzU:=Nat.le_trans hzU hb.size
      replace HRU:=Lib.hid (HRU.out.below hb HRU.out.lt)
      clear hb
      dsimp only
      go_wp2_with fail
      refine(WriteString_any w.heap.size w.heap.size _ (strB (cur.take i)) _ HIU.out (by rw[bytesV_length,strB_size,List.length_take];omega) hzU).mono ?_
      rintro e W2 ⟨rfl,g2,b2,_⟩
      have HI2:Hid (Lib.IsBuilderF 84 5 w.heap.size w.heap.size (bytesV (acc++cur.take i)) W2):=by
       show Lib.IsBuilderF _ _ _ _ _ _
       rw[bytesV_two];exact .inr g2
      clear hc0
      have hrw:Row (W2.setCell ⟨b,0,none⟩ (.string (strB (38::r)))) b (machV {m with buf:=38::r}):=(HRU.out.below b2 hbw).set 0 (.string (strB (38::r)))
      have hc2:W2.cell? ⟨b,2,none⟩=some (.bool m.closed):=(mach_row (HRU.out.below b2 hbw)).2.2.1
      first|rw[HCL.out]at hc2|skip
      have hz2:w.heap.size≤(W2.setCell ⟨b,0,none⟩ (.string (strB (38::r)))).heap.size:=by rw[World.size_setCell];exact Nat.le_trans hzU b2.size
      have HK2:=Lib.hid (keep_set (keeps_belowB HKU.out b2) (.string (strB (38::r))) (j:=0))
      have HI3:=Lib.hid (builder_set HI2.out hbw (.string (strB (38::r))) (p:=⟨b,0,none⟩))
      have HR2:=Lib.hid hrw
      have hf0:=(mach_free (HRU.out.below b2 hbw)).1
      have hc00:=(mach_row (HRU.out.below b2 hbw)).1
      simp only at hc00
      clear hrw g2 b2 HRU HKU hzU HIU HI2
      dsimp only
      go_wp2_with fail
      clear hc00 hf0 hc2
      have HIU:=HI3
      have HRU:=HR2
      have HKU:=HK2
      have hzU:=hz2
      generalize W2.setCell ⟨b,0,none⟩ (.string (strB (38::r)))=U2 at *
      have HREF:=textF_ref (m:=m) (r:=r) h38 (by rw[HCL.out];simp)
      clear hcb
      --Take answers at 38::r
      refine(Take_any (strB (38::r)) false _ (by rw[strB_size,List.length_cons];omega)).mono ?_
      rintro e W4 ⟨rfl,hb⟩
      have hc0:=(mach_row (HRU.out.below hb HRU.out.lt)).1
      simp only at hc0
      replace HIU:=Lib.hid (builder_below HIU.out hb)
      replace HKU:=Lib.hid (keeps_then' HKU.out hb)
      replace hzU:=Nat.le_trans hzU hb.size
      replace HRU:=Lib.hid (HRU.out.below hb HRU.out.lt)
      clear hb
      rw[toList_strB]
      have hkle:=takeF_le (38::r) false
      have htl:=takeF_len (38::r) false
      simp only[List.length_cons]at hkle
      obtain⟨t,ht⟩: ∃t,t=takeF (38::r) false:=⟨_,rfl⟩
      rw[←ht]at hkle htl HREF ⊢
      clear ht
      obtain⟨tx,k⟩:=t
      simp only at hkle htl HREF
      dsimp only
      by_cases hk0:k=0
      ·subst hk0
       rw[if_pos rfl,show(0:Nat)-1=0 from rfl,List.drop_zero]at HREF
       have e3:=strB_drop (38::r) 1
       rw[show(38::r:Str).drop 1=r from rfl]at e3
       have HVN:=Lib.hid (show(acc++cur.take i++ [38]++(textF m r).1,(textF m r).2)=textF m m.buf from by rw[←HV.out,HPRE.out,HREF];simp)
       have HBD:=Lib.hid (show(acc++cur.take i++ [38]).length+2*r.length≤2*m.buf.length from by simp only[List.length_append,List.length_take,List.length_cons,List.length_nil];omega)
       obtain⟨nx,hnx⟩: ∃nx,nx=r:=⟨_,rfl⟩
       rw[show strB r=strB nx from by rw[hnx]]at e3
       rw[←hnx]at HVN HBD
       have HLT:=Lib.hid (show nx.length<cur.length from by rw[hnx];omega)
       clear HREF hkle htl
       go_wp2_with fail
       refine(WriteString_any w.heap.size w.heap.size _ ⟨#[38]⟩ _ HIU.out (by rw[bytesV_length,List.length_append,List.length_take];show _+1≤_;omega) hzU).mono ?_
       rintro e W5 ⟨rfl,g2,b2,_⟩
       have HI2:Hid (Lib.IsBuilderF 84 5 w.heap.size w.heap.size (bytesV (acc++cur.take i++ [38])) W5):=by
        show Lib.IsBuilderF _ _ _ _ _ _
        rw[bytesV_two];exact .inr g2
       clear hc0 hnx
       --the builder has been written:g2,b2;HI2 the fact
       have HR2:=Lib.hid (HRU.out.below b2 hbw)
       have HK2:=Lib.hid (keeps_belowB HKU.out b2)
       have hz2:=Nat.le_trans hzU b2.size
       clear g2 b2 HRU HKU hzU HIU
       have hf0:=(mach_free HR2.out).1
       have hc0:=(mach_row HR2.out).1
       simp only at hc0
       dsimp only
       go_wp2_with fail
       go_roundw
       case rel=>exact⟨_,_,HR2.out.set 0 (.string (strB nx)),builder_set HI2.out hbw _,keep_set HK2.out _,HBD.out,HVN.out⟩
       case measure =>
        rw[HBL.out,bufLen_row (m:= {m with buf:=nx}) (HR2.out.set 0 (.string (strB nx)))]
        exact HLT.out
      ·have hkb:(((k:Nat):Int)==0)=false:=by rw[beq_eq_false_iff_ne];omega
       rw[if_neg hk0]at HREF
       have htl':=htl hk0
       have e3:=strB_drop (38::r) k
       rw[show(38::r:Str).drop k=r.drop (k-1)from by cases k with|zero=>exact absurd rfl hk0|succ k=>rfl]at e3
       have hdl:(r.drop (k-1)).length=r.length-(k-1):=List.length_drop
       have HVN:=Lib.hid (show(acc++cur.take i++tx++(textF m (r.drop (k-1))).1,(textF m (r.drop (k-1))).2)=textF m m.buf from by rw[←HV.out,HPRE.out,HREF];simp)
       have HBD:=Lib.hid (show(acc++cur.take i++tx).length+2*(r.drop (k-1)).length≤2*m.buf.length from by simp only[List.length_append,List.length_take];omega)
       obtain⟨nx,hnx⟩: ∃nx,nx=r.drop (k-1):=⟨_,rfl⟩
       rw[←hnx]at HVN HBD e3 hdl
       have HLT:=Lib.hid (show nx.length<cur.length from by omega)
       have hks:k≤(strB (38::r)).size:=by rw[strB_size,List.length_cons];exact hkle
       have hks2:((k:Nat):Int)≤((strB (38::r)).size:Int):=by omega
       clear HREF hnx
       go_wp2_with fail
       refine(WriteString_any w.heap.size w.heap.size _ (strB tx) _ HIU.out (by rw[bytesV_length,strB_size,List.length_append,List.length_take];omega) hzU).mono ?_
       rintro e W5 ⟨rfl,g2,b2,_⟩
       have HI2:Hid (Lib.IsBuilderF 84 5 w.heap.size w.heap.size (bytesV (acc++cur.take i++tx)) W5):=by
        show Lib.IsBuilderF _ _ _ _ _ _
        rw[bytesV_two];exact .inr g2
       clear hc0
       --the builder has been written:g2,b2;HI2 the fact
       have HR2:=Lib.hid (HRU.out.below b2 hbw)
       have HK2:=Lib.hid (keeps_belowB HKU.out b2)
       have hz2:=Nat.le_trans hzU b2.size
       clear g2 b2 HRU HKU hzU HIU
       have hf0:=(mach_free HR2.out).1
       have hc0:=(mach_row HR2.out).1
       simp only at hc0
       dsimp only
       go_wp2_with fail
       go_roundw
       case rel=>exact⟨_,_,HR2.out.set 0 (.string (strB nx)),builder_set HI2.out hbw _,keep_set HK2.out _,HBD.out,HVN.out⟩
       case measure =>
        rw[HBL.out,bufLen_row (m:= {m with buf:=nx}) (HR2.out.set 0 (.string (strB nx)))]
        exact HLT.out
     ·have HCL:=Lib.hid (show m.closed=false from by simpa using hcl)
      clear hcl
      go_wp2_with fail
      refine(HIXc.out _).mono ?_
      rintro e U ⟨rfl,hb⟩
      have HIU:=HIr
      have HKU:=HKr
      have hzU:=hzr
      have HRU:=HRr
      clear hc0
      have hc0:U.cell? ⟨b,0,none⟩=some (.string (strB cur)):=(mach_row (HRU.out.below hb HRU.out.lt)).1
      --a callee that makes new blocks alone has answered:hb
      replace HIU:=Lib.hid (builder_below HIU.out hb)
      replace HKU:=Lib.hid (keeps_then' HKU.out hb)
      replace hzU:=Nat.le_trans hzU hb.size
      replace HRU:=Lib.hid (HRU.out.below hb HRU.out.lt)
      clear hb
      dsimp only
      go_wp2_with fail
      refine(WriteString_any w.heap.size w.heap.size _ (strB (cur.take i)) _ HIU.out (by rw[bytesV_length,strB_size,List.length_take];omega) hzU).mono ?_
      rintro e W2 ⟨rfl,g2,b2,_⟩
      have HI2:Hid (Lib.IsBuilderF 84 5 w.heap.size w.heap.size (bytesV (acc++cur.take i)) W2):=by
       show Lib.IsBuilderF _ _ _ _ _ _
       rw[bytesV_two];exact .inr g2
      clear hc0
      have hrw:Row (W2.setCell ⟨b,0,none⟩ (.string (strB (38::r)))) b (machV {m with buf:=38::r}):=(HRU.out.below b2 hbw).set 0 (.string (strB (38::r)))
      have hc2:W2.cell? ⟨b,2,none⟩=some (.bool m.closed):=(mach_row (HRU.out.below b2 hbw)).2.2.1
      first|rw[HCL.out]at hc2|skip
      have hz2:w.heap.size≤(W2.setCell ⟨b,0,none⟩ (.string (strB (38::r)))).heap.size:=by rw[World.size_setCell];exact Nat.le_trans hzU b2.size
      have HK2:=Lib.hid (keep_set (keeps_belowB HKU.out b2) (.string (strB (38::r))) (j:=0))
      have HI3:=Lib.hid (builder_set HI2.out hbw (.string (strB (38::r))) (p:=⟨b,0,none⟩))
      have HR2:=Lib.hid hrw
      have hf0:=(mach_free (HRU.out.below b2 hbw)).1
      have hc00:=(mach_row (HRU.out.below b2 hbw)).1
      simp only at hc00
      clear hrw g2 b2 HRU HKU hzU HIU HI2
      dsimp only
      go_wp2_with fail
      clear hc00 hf0 hc2
      have HIU:=HI3
      have HRU:=HR2
      have HKU:=HK2
      have hzU:=hz2
      generalize W2.setCell ⟨b,0,none⟩ (.string (strB (38::r)))=U2 at *
      clear hcb
      refine(More_any (strB (38::r)) _ (by rw[strB_size,List.length_cons];omega)).mono ?_
      rintro e U3 ⟨rfl,hb⟩
      rw[toList_strB]
      cases hmo:moreF (38::r)
      ·have HREF:=textF_ref (m:=m) (r:=r) h38 (by rw[hmo];simp)
       have hc0:=(mach_row (HRU.out.below hb HRU.out.lt)).1
       simp only at hc0
       clear hmo
       --a callee that makes new blocks alone has answered:hb
       replace HIU:=Lib.hid (builder_below HIU.out hb)
       replace HKU:=Lib.hid (keeps_then' HKU.out hb)
       replace hzU:=Nat.le_trans hzU hb.size
       replace HRU:=Lib.hid (HRU.out.below hb HRU.out.lt)
       clear hb
       dsimp only
       go_wp2_with fail
       clear hc0
       --Take answers at 38::r
       refine(Take_any (strB (38::r)) false _ (by rw[strB_size,List.length_cons];omega)).mono ?_
       rintro e W4 ⟨rfl,hb⟩
       have hc0:=(mach_row (HRU.out.below hb HRU.out.lt)).1
       simp only at hc0
       replace HIU:=Lib.hid (builder_below HIU.out hb)
       replace HKU:=Lib.hid (keeps_then' HKU.out hb)
       replace hzU:=Nat.le_trans hzU hb.size
       replace HRU:=Lib.hid (HRU.out.below hb HRU.out.lt)
       clear hb
       rw[toList_strB]
       have hkle:=takeF_le (38::r) false
       have htl:=takeF_len (38::r) false
       simp only[List.length_cons]at hkle
       obtain⟨t,ht⟩: ∃t,t=takeF (38::r) false:=⟨_,rfl⟩
       rw[←ht]at hkle htl HREF ⊢
       clear ht
       obtain⟨tx,k⟩:=t
       simp only at hkle htl HREF
       dsimp only
       by_cases hk0:k=0
       ·subst hk0
        rw[if_pos rfl,show(0:Nat)-1=0 from rfl,List.drop_zero]at HREF
        have e3:=strB_drop (38::r) 1
        rw[show(38::r:Str).drop 1=r from rfl]at e3
        have HVN:=Lib.hid (show(acc++cur.take i++ [38]++(textF m r).1,(textF m r).2)=textF m m.buf from by rw[←HV.out,HPRE.out,HREF];simp)
        have HBD:=Lib.hid (show(acc++cur.take i++ [38]).length+2*r.length≤2*m.buf.length from by simp only[List.length_append,List.length_take,List.length_cons,List.length_nil];omega)
        obtain⟨nx,hnx⟩: ∃nx,nx=r:=⟨_,rfl⟩
        rw[show strB r=strB nx from by rw[hnx]]at e3
        rw[←hnx]at HVN HBD
        have HLT:=Lib.hid (show nx.length<cur.length from by rw[hnx];omega)
        clear HREF hkle htl
        go_wp2_with fail
        refine(WriteString_any w.heap.size w.heap.size _ ⟨#[38]⟩ _ HIU.out (by rw[bytesV_length,List.length_append,List.length_take];show _+1≤_;omega) hzU).mono ?_
        rintro e W5 ⟨rfl,g2,b2,_⟩
        have HI2:Hid (Lib.IsBuilderF 84 5 w.heap.size w.heap.size (bytesV (acc++cur.take i++ [38])) W5):=by
         show Lib.IsBuilderF _ _ _ _ _ _
         rw[bytesV_two];exact .inr g2
        clear hc0 hnx
        --the builder has been written:g2,b2;HI2 the fact
        have HR2:=Lib.hid (HRU.out.below b2 hbw)
        have HK2:=Lib.hid (keeps_belowB HKU.out b2)
        have hz2:=Nat.le_trans hzU b2.size
        clear g2 b2 HRU HKU hzU HIU
        have hf0:=(mach_free HR2.out).1
        have hc0:=(mach_row HR2.out).1
        simp only at hc0
        dsimp only
        go_wp2_with fail
        go_roundw
        case rel=>exact⟨_,_,HR2.out.set 0 (.string (strB nx)),builder_set HI2.out hbw _,keep_set HK2.out _,HBD.out,HVN.out⟩
        case measure =>
         rw[HBL.out,bufLen_row (m:= {m with buf:=nx}) (HR2.out.set 0 (.string (strB nx)))]
         exact HLT.out
       ·have hkb:(((k:Nat):Int)==0)=false:=by rw[beq_eq_false_iff_ne];omega
        rw[if_neg hk0]at HREF
        have htl':=htl hk0
        have e3:=strB_drop (38::r) k
        rw[show(38::r:Str).drop k=r.drop (k-1)from by cases k with|zero=>exact absurd rfl hk0|succ k=>rfl]at e3
        have hdl:(r.drop (k-1)).length=r.length-(k-1):=List.length_drop
        have HVN:=Lib.hid (show(acc++cur.take i++tx++(textF m (r.drop (k-1))).1,(textF m (r.drop (k-1))).2)=textF m m.buf from by rw[←HV.out,HPRE.out,HREF];simp)
        have HBD:=Lib.hid (show(acc++cur.take i++tx).length+2*(r.drop (k-1)).length≤2*m.buf.length from by simp only[List.length_append,List.length_take];omega)
        obtain⟨nx,hnx⟩: ∃nx,nx=r.drop (k-1):=⟨_,rfl⟩
        rw[←hnx]at HVN HBD e3 hdl
        have HLT:=Lib.hid (show nx.length<cur.length from by omega)
        have hks:k≤(strB (38::r)).size:=by rw[strB_size,List.length_cons];exact hkle
        have hks2:((k:Nat):Int)≤((strB (38::r)).size:Int):=by omega
        clear HREF hnx
        go_wp2_with fail
        refine(WriteString_any w.heap.size w.heap.size _ (strB tx) _ HIU.out (by rw[bytesV_length,strB_size,List.length_append,List.length_take];omega) hzU).mono ?_
        rintro e W5 ⟨rfl,g2,b2,_⟩
        have HI2:Hid (Lib.IsBuilderF 84 5 w.heap.size w.heap.size (bytesV (acc++cur.take i++tx)) W5):=by
         show Lib.IsBuilderF _ _ _ _ _ _
         rw[bytesV_two];exact .inr g2
        clear hc0
        --the builder has been written:g2,b2;HI2 the fact
        have HR2:=Lib.hid (HRU.out.below b2 hbw)
        have HK2:=Lib.hid (keeps_belowB HKU.out b2)
        have hz2:=Nat.le_trans hzU b2.size
        clear g2 b2 HRU HKU hzU HIU
        have hf0:=(mach_free HR2.out).1
        have hc0:=(mach_row HR2.out).1
        simp only at hc0
        dsimp only
        go_wp2_with fail
        go_roundw
        case rel=>exact⟨_,_,HR2.out.set 0 (.string (strB nx)),builder_set HI2.out hbw _,keep_set HK2.out _,HBD.out,HVN.out⟩
        case measure =>
         rw[HBL.out,bufLen_row (m:= {m with buf:=nx}) (HR2.out.set 0 (.string (strB nx)))]
         exact HLT.out
      ·have HW:=textF_wait (m:=m) (r:=r) h38 HCL.out hmo
       have HVN:=Lib.hid (show(acc++cur.take i,(38::r,(1:Int)))=textF m m.buf from by rw[←HV.out,HPRE.out,HW];simp)
       clear hmo HW
       --a callee that makes new blocks alone has answered:hb
       replace HIU:=Lib.hid (builder_below HIU.out hb)
       replace HKU:=Lib.hid (keeps_then' HKU.out hb)
       replace hzU:=Nat.le_trans hzU hb.size
       replace HRU:=Lib.hid (HRU.out.below hb HRU.out.lt)
       clear hb
       dsimp only
       go_wp2_with fail
       refine(BString_any w.heap.size w.heap.size _ _ HIU.out hzU).mono ?_
       rintro e W3 ⟨rfl,_,b3,_⟩
       dsimp only
       go_wp2_with fail
       go_ret2
       exact⟨ret_si (by rw[HP.out,←HVN.out];rfl) (by rw[HP.out,←HVN.out]),by rw[HP.out,←HVN.out];exact HRU.out.below b3 hbw,keeps_belowB HKU.out b3⟩
end Go.Proofs.YtgepobccoffnaaaGreatDoor.Rd
