/- Texts joined for a claim: RMkT, RMkTag, RMkStep, RMkNl: plain laws and contracts. No conditions beyond those that each lemma types. -/
import Derived.Test.YtgepobccoffnaaaGreatDoorT34
import Derived.Test.YtgepobccoffnaaaGreatDoorT35
import Derived.Test.YtgepobccoffnaaaGreatDoorT33
set_option linter.unusedVariables false
set_option linter.unusedSimpArgs false
set_option maxRecDepth 100000
set_option maxHeartbeats 8000000
section
namespace Go.Proofs.YtgepobccoffnaaaGreatDoor.Rd
open Go.RowKit Mem
theorem any_cases (sg:Str): ∀s:Str,(Lib.indexAny s sg= -1∧ ∀c∈s,sg.contains c=false)∨ ∃(i:Nat) (c:UInt8) (r:Str),Lib.indexAny s sg=i∧i<s.length∧s.drop i=c::r∧sg.contains c=true∧ ∀d∈s.take i,sg.contains d=false
 | []=> .inl ⟨rfl,fun _ h=>by cases h⟩
 |b::l=>by
  rw[Lib.indexAny]
  cases hb:sg.contains b
  ·rw[if_neg (by simp)]
   rcases any_cases sg l with⟨h1,h2⟩|⟨i,c,r,h1,h2,h3,h4,h5⟩
   ·left
    rw[h1]
    refine⟨rfl,fun c hc=> ?_⟩
    rcases List.mem_cons.1 hc with rfl|hc
    ·exact hb
    ·exact h2 c hc
   ·right
    refine⟨i+1,c,r,?_,by simp only[List.length_cons];omega,h3,h4,fun d hd=> ?_⟩
    ·rw[h1,if_neg (fun e=>by have:=beq_iff_eq.1 e;omega)];push_cast;rfl
    ·rw[List.take_succ_cons]at hd
     rcases List.mem_cons.1 hd with rfl|hd
     ·exact hb
     ·exact h5 d hd
  ·right
   rw[if_pos rfl]
   exact⟨0,b,l,rfl,by simp,rfl,hb,fun d hd=>by cases hd⟩
def sgF (m:MkM):Str:=if m.mode=2 then [60]else [60,38]
theorem sg_no {m:MkM} {c:UInt8} (h:(sgF m).contains c=false):c≠60∧ ¬(c=38∧m.mode≠2):=by
 unfold sgF at h
 split at h
 ·rename_i hm
  exact⟨fun e=>(by rw[e]at h;cases h),fun e=>e.2 hm⟩
 ·exact⟨fun e=>(by rw[e]at h;cases h),fun e=>(by rw[e.1]at h;cases h)⟩
theorem sg_yes {m:MkM} {c:UInt8} (h:(sgF m).contains c=true):c=60∨(c=38∧m.mode≠2):=by
 unfold sgF at h
 split at h
 ·left;simpa using h
 ·rename_i hm
  simp only[List.contains_cons,List.contains_nil,Bool.or_false,Bool.or_eq_true,beq_iff_eq]at h
  exact h.imp id fun e=>⟨e,hm⟩
theorem textF_skip {m:MkM} {c:UInt8} {r:Str} (h:(sgF m).contains c=false):textF m (c::r)=(c::(textF m r).1,(textF m r).2):=by
 rw[textF,if_neg (sg_no h).1,if_neg (sg_no h).2]
theorem textF_pre (m:MkM) (s:Str): ∀p:Str,(∀c∈p,(sgF m).contains c=false)→textF m (p++s)=(p++(textF m s).1,(textF m s).2)
 | [],_=>rfl
 |c::p,h=>by
  rw[List.cons_append,textF_skip (h c List.mem_cons_self),textF_pre m s p fun d hd=>h d (List.mem_cons_of_mem _ hd)]
  rfl
theorem textF_none {m:MkM} {s:Str} (h: ∀c∈s,(sgF m).contains c=false):textF m s=(s,[],1):=by
 have:=textF_pre m [] s h
 rw[List.append_nil,textF]at this
 simpa using this
theorem textF_lt {m:MkM} {r:Str}:textF m (60::r)=if lookF m (60::r)=0 then(60::(textF m r).1,(textF m r).2)else([],60::r,lookF m (60::r)):=by
 rw[textF,if_pos rfl]
def bufLen (w:World) (b:Nat):Nat:=match w.cell? ⟨b,0,none⟩with
 |some (.string s)=>s.size
 |_=>0
theorem bufLen_row {w:World} {b:Nat} {m:MkM} (h:Row w b (machV m)):bufLen w b=m.buf.length:=by
 unfold bufLen
 rw[(mach_row h).1]
 exact strB_size _
theorem ret_si {a b:ByteArray} {i j:Int} (h:a=b) (h':i=j):Ending.returned (.tuple #[.string a,.int .i64 i])= .returned (.tuple #[.string b,.int .i64 j]):=by rw[h,h']
end Go.Proofs.YtgepobccoffnaaaGreatDoor.Rd
end
section
namespace Go.Proofs.YtgepobccoffnaaaGreatDoor.Rd
open Go.RowKit Mem
def curV (s:ByteArray) (i:Nat):List Value:= [.string s,.int .i64 i]
theorem dropWhile_all (p:UInt8→Bool): ∀l:Str,(∀c∈l,p c=true)→l.dropWhile p= []
 | [],_=>rfl
 |c::l,h=>by rw[List.dropWhile_cons,if_pos (h c List.mem_cons_self)];exact dropWhile_all p l fun d hd=>h d (List.mem_cons_of_mem _ hd)
theorem cur_set (s:ByteArray) (i j:Nat) {z:Int} (hz:z=(j:Nat)):(curV s i).set 1 (.int .i64 z)=curV s j:=by rw[hz];rfl
theorem until_cases (sg l:Str):(untilF sg l=none∧Lib.indexAny l sg= -1)∨ ∃n:Nat,n<l.length∧untilF sg l=some (l.take n,l.drop n)∧Lib.indexAny l sg=n:=by
 rcases any_cases sg l with⟨h1,h2⟩|⟨i,c,r,h1,hi,hd,hc,hp⟩
 ·left
  refine⟨?_,h1⟩
  unfold untilF
  rw[if_pos (dropWhile_all _ l fun c hc=>by rw[h2 c hc];rfl)]
 ·right
  refine⟨i,hi,?_,h1⟩
  have htw:l.takeWhile (fun c=> !sg.contains c)=l.take i:=by
   conv=>lhs;rw[←List.take_append_drop i l,hd]
   rw[List.takeWhile_append_of_pos (fun d hd=>by rw[hp d hd];rfl),List.takeWhile_cons,if_neg (by rw[hc];simp),List.append_nil]
  have hdw:l.dropWhile (fun c=> !sg.contains c)=l.drop i:=by
   conv=>lhs;rw[←List.take_append_drop i l,hd]
   rw[List.dropWhile_append_of_pos (fun d hd=>by rw[hp d hd];rfl),List.dropWhile_cons,if_neg (by rw[hc];simp),hd]
  unfold untilF
  rw[htw,hdw,if_neg (by rw[hd];simp)]
theorem ext_mid (s:ByteArray) (i n:Nat):s.extract i (i+n)=strB ((s.toList.drop i).take n):=by
 apply toList_inj
 rw[toList_strB,ext_list,Nat.add_sub_cancel_left]
theorem ext_end (s:ByteArray) (i:Nat):(s.extract i s.size).toList=s.toList.drop i:=ext_drop' s i
theorem until_yes (s sg:ByteArray) (g i n:Nat) (w:World) (hr:Row w g (curV s i)) (hin:i+n<s.size) (hs:s.size≤4294967280) (h1:1≤sg.size) (hc:Ascii sg) (hcs:sg.size≤1000) (hu:untilF sg.toList (s.toList.drop i)=some ((s.toList.drop i).take n,s.toList.drop (i+n))) :
 Calls Tryz.prog 144 #[.pointer (some ⟨g,0,none⟩),.string sg] w fun e w'=>e= .returned (.tuple #[.string (strB ((s.toList.drop i).take n)),.bool true])∧Row w' g (curV s (i+n))∧Keeps (Only g) w w':=by
 have hc0:w.cell? ⟨g,0,none⟩=some (.string s):=hr.cell (j:=0) rfl
 have hc1:w.cell? ⟨g,1,none⟩=some (.int .i64 i):=hr.cell (j:=1) rfl
 have hgw:=hr.lt
 have hlen:(s.toList.drop i).length=s.size-i:=by rw[List.length_drop,size_toList]
 have hx:Lib.indexAny (s.toList.drop i) sg.toList=n:=by
  rcases until_cases sg.toList (s.toList.drop i)with⟨h,_⟩|⟨k,hk,h,hx⟩
  ·rw[hu]at h;cases h
  ·rw[hu]at h
   have h2:=congrArg (fun o=>(o.map fun p=>p.2.length).getD 0) h
   simp only[Option.map_some,Option.getD_some,List.length_drop,size_toList]at h2
   rw[hx]
   omega
 have hix:=fun u=>IndexAny_any (s.extract i s.size) sg u h1 hc (by rw[ByteArray.size_extract];omega) (by omega)
 rw[ext_end,hx]at hix
 have HIX:=Lib.hid hix
 have hi2:(i:Int)≤(s.size:Int):=by omega
 have hi3:(0:Int)≤(i:Int):=by omega
 have hin2:(i:Int)+(n:Int)≤(s.size:Int):=by omega
 have hin3:(i:Int)≤(i:Int)+(n:Int):=by omega
 have hwr:IntKind.i64.wrap ((i:Int)+(n:Int))=(i:Int)+(n:Int):=wrap_small _ (by omega) (by omega)
 have htn:((i:Int)+(n:Int)).toNat=i+n:=by omega
 have hin4:(0:Int)≤(i:Int)+(n:Int):=by omega
 have hem:=ext_mid s i n
 have HR:=Lib.hid hr
 clear hix hx hu hc hr
 go_enter Tryz.func144,Tryz.ntmps144
 go_wp2_with fail
 refine wp_region_calm (by kernel_rfl) (by kernel_rfl) ?_
 repeat
  with_reducible refine wpQuiet_step (fun K hK=> ?_)
  first
   |(with_reducible apply calm_skip
     ·rfl
     simp only[Act.put,List.setIfInBounds_toArray,List.set_cons_zero,List.set_cons_succ]
     refine hK _ ?_
     clear hK K)
   |(with_reducible apply calm_run
     ·rfl
     ·intro wq hC
      have zhc0:=cell_later hC.out hc0
      have zhc1:=cell_later hC.out hc1
      unfold Oper.quietAt
      go_simp
      first|done|(go_at_call 85;go_must (refine(HIX.out _).mono ?_;rintro e wx ⟨rfl,hb⟩;exact⟨rfl,belowCall hC hb⟩))|with_reducible rfl|rfl
     simp only[Act.put,List.setIfInBounds_toArray,List.set_cons_zero,List.set_cons_succ]
     refine hK _ ?_
     clear hK K)
 with_reducible refine wpQuiet_nil ?_
 intro wq HQ
 have zhc0:=cell_later HQ.out hc0
 have zhc1:=cell_later HQ.out hc1
 have HB1:=Lib.hid HQ.out
 have hd0:=zhc0
 have hd1:=zhc1
 clear hc0 hc1 zhc0 zhc1 HQ
 go_wp2_with fail
 refine wp_region_calm (by kernel_rfl) (by kernel_rfl) ?_
 repeat
  with_reducible refine wpQuiet_step (fun K hK=> ?_)
  first
   |(with_reducible apply calm_skip
     ·rfl
     simp only[Act.put,List.setIfInBounds_toArray,List.set_cons_zero,List.set_cons_succ]
     refine hK _ ?_
     clear hK K)
   |(with_reducible apply calm_run
     ·rfl
     ·intro wq hC
      have zhd0:=cell_later hC.out hd0
      have zhd1:=cell_later hC.out hd1
      unfold Oper.quietAt
      go_simp
      first|done|with_reducible rfl|rfl
     simp only[Act.put,List.setIfInBounds_toArray,List.set_cons_zero,List.set_cons_succ]
     refine hK _ ?_
     clear hK K)
 with_reducible refine wpQuiet_nil ?_
 intro wq HQ
 have zhd0:=cell_later HQ.out hd0
 have zhd1:=cell_later HQ.out hd1
 have HB2:=Lib.hid (belowCall HB1.out HQ.out)
 have HR2:=Lib.hid (HR.out.below HB2.out hgw)
 have hf1:wq.frozen? ⟨g,1,none⟩=false:=HR2.out.frozen (j:=1) (by simp[curV])
 clear hd0 hd1
 go_wp2_with fail
 go_ret2
 refine⟨rfl,?_,keep_set (Keeps.ofBelow HB2.out) _⟩
 rw[←cur_set s i (i+n) (z:=(i:Int)+(n:Int)) (by omega)]
 exact HR2.out.set 1 _
end Go.Proofs.YtgepobccoffnaaaGreatDoor.Rd
namespace Go.Proofs.YtgepobccoffnaaaGreatDoor.Rd
open Go.RowKit Mem
theorem ascii_of {l:Str} (h: ∀c∈l,c.toNat<128):Ascii ⟨l.toArray⟩:=fun _ c hj=>h c (List.mem_of_getElem? hj)
end Go.Proofs.YtgepobccoffnaaaGreatDoor.Rd
namespace Go.Proofs.YtgepobccoffnaaaGreatDoor.Rd
open Go.RowKit Mem
theorem results_attr {P:Program} {fn:Func} {p t:Tmp} {ty:TypeId} (h:fn.results= #[.cell p ty,.tmp t]) (tmps:Array Value) (w:World) (g:Nat) (e:TypeId) (cs:Array Value) (fr:Nat×Nat) (d:TypeDesc)
 (hp:tmps.getD p undef= .pointer (some ⟨g,0,none⟩)) (hg:w.heap[g]?=some (.cells cs e fr))
 (hu:P.underlying ty=some d) (hd:(match d with| .struct _| .array _ _=>true|_=>false)=true) (hi:(P.info? ty).map (·.size)=some cs.size) :
 (results fn tmps).run P w= .ok (.tuple #[.agg cs,tmps.getD t undef]) w:=by
 have hp':tmps[p]?.getD undef= .pointer (some ⟨g,0,none⟩):=by simpa using hp
 simp[results,h,hp',asAddr,run_loadVar_row w g e ty cs fr d hg hu hd hi,Result.andThen]
end Go.Proofs.YtgepobccoffnaaaGreatDoor.Rd
namespace Go.Proofs.YtgepobccoffnaaaGreatDoor.Rd
open Go.RowKit Mem
def attP (al:List (Str×Str)):List Pair:=al.map fun a=>(strB a.1,strB a.2)
end Go.Proofs.YtgepobccoffnaaaGreatDoor.Rd
namespace Go.Proofs.YtgepobccoffnaaaGreatDoor.Rd
open Go.RowKit Mem
def xV (kd:Int) (nm:Str) (sl:Value) (sf:Bool):List Value:= [.int .i64 kd,.string (strB nm),sl,.bool sf,.string ⟨#[]⟩]
structure PW (w:World) (s:ByteArray) (R C X:Nat) (i:Nat) (kd:Int) (nm:Str) (sl:Value) (sf:Bool) (al:List (Str×Str)) (u:World):Prop where
 zero:u.heap[R]?=some (.cells zeroMark 38 (0,0))
 cur:Row u C (curV s i)
 mark:Row u X (xV kd nm sl sf)
 own:u.ownsRow (X+1) 57 2 sl al.length (pairsV (attP al))
 below:Below w.heap.size w u
 lt:w.heap.size≤R∧R<C∧C<X∧X<u.heap.size
theorem PW.calm {w u u':World} {s:ByteArray} {R C X i:Nat} {kd:Int} {nm:Str} {sl:Value} {sf:Bool} {al:List (Str×Str)} (h:PW w s R C X i kd nm sl sf al u) (hb:Below u.heap.size u u'):PW w s R C X i kd nm sl sf al u':=by
 have hl:=h.lt
 exact⟨zero_below h.zero hb (by omega),h.cur.below hb h.cur.lt,h.mark.below hb h.mark.lt,own_below h.own hb,belowCall h.below hb,by have:=hb.size;omega⟩
theorem PW.moved {w u u':World} {s:ByteArray} {R C X i j:Nat} {kd:Int} {nm:Str} {sl:Value} {sf:Bool} {al:List (Str×Str)} (h:PW w s R C X i kd nm sl sf al u) (hk:Keeps (Only C) u u') (hr:Row u' C (curV s j)):PW w s R C X j kd nm sl sf al u':=by
 have hl:=h.lt
 refine⟨only_zero h.zero hk (by omega) (by omega),hr,h.mark.kept (hk.block X hl.2.2.2 (by show ¬X=C;omega)),own_kept h.own fun g hg=>hk.block g (h.own.lt g hg).2 (by show ¬g=C;have:=(h.own.lt g hg).1;omega),?_,by have:=hk.size;omega⟩
 exact⟨hk.os.trans h.below.os,hk.tape.trans h.below.tape,hk.output.trans h.below.output,Nat.le_trans h.below.size hk.size,fun k hk'=>(hk.block k (by have:=h.below.size;omega) (by show ¬k=C;omega)).trans (h.below.block k hk')⟩
theorem PW.named {w u:World} {s:ByteArray} {R C X i:Nat} {kd:Int} {nm nm':Str} {sl:Value} {sf:Bool} {al:List (Str×Str)} (h:PW w s R C X i kd nm sl sf al u):PW w s R C X i kd nm' sl sf al (u.setCell ⟨X,1,none⟩ (.string (strB nm'))):=by
 have hl:=h.lt
 refine⟨res_set h.zero (by omega),h.cur.kept (heap_setCell_other _ _ _ _ (by show C≠X;omega)),h.mark.set 1 _,own_kept h.own fun g hg=>heap_setCell_other _ _ _ _ (by show g≠X;have:=(h.own.lt g hg).1;omega),h.below.setCell (by show w.heap.size≤X;omega) _,by rw[World.size_setCell];exact hl⟩
theorem PW.start (w:World) (s:ByteArray) (i:Nat) (kd:Int):PW w s w.heap.size (w.heap.size+1) (w.heap.size+1+1) i kd [] (.slice none 0 0) false []
 (((w.alloc (.cells #[.int .i64 0,.string ⟨#[]⟩,.slice none 0 0,.bool false,.string ⟨#[]⟩] 38)).alloc (.cells #[.string s,.int .i64 i] 161)).alloc (.cells #[.int .i64 kd,.string ⟨#[]⟩,.slice none 0 0,.bool false,.string ⟨#[]⟩] 38)):=by
 refine⟨?_,?_,?_,World.ownsRow_nil _ _ _ _,(((Below.refl w.heap.size w).alloc (Nat.le_refl _) _).alloc (by simp) _).alloc (by simp;omega) _,by simp⟩
 ·rw[heap_alloc_old _ _ (by simp;omega),heap_alloc_old _ _ (by simp)]
  exact heap_alloc_new _ _
 ·refine Row.kept (Row.alloc (w.alloc (.cells #[.int .i64 0,.string ⟨#[]⟩,.slice none 0 0,.bool false,.string ⟨#[]⟩] 38)) #[.string s,.int .i64 i] 161 |>fun h=>by simpa[curV] using h) ?_
  exact heap_alloc_old _ _ (by simp)
 ·have h:=Row.alloc ((w.alloc (.cells #[.int .i64 0,.string ⟨#[]⟩,.slice none 0 0,.bool false,.string ⟨#[]⟩] 38)).alloc (.cells #[.string s,.int .i64 i] 161)) #[.int .i64 kd,.string ⟨#[]⟩,.slice none 0 0,.bool false,.string ⟨#[]⟩] 38
  simp at h
  exact h
def ansF (s:ByteArray) (e:Bool) (nm:Str) (T:Option (List (Str×Str)×Bool×Str)):MarkD×Int×Int:=match T with
 |none=>(bareM 0, -1,0)
 |some (al,sl,r2)=>if e then(⟨3,nm,[],false,[]⟩,(s.size:Int)-r2.length,0)else if 8<al.length then(bareM 0,(s.size:Int)-r2.length,42)else(⟨2,nm,al,sl,[]⟩,(s.size:Int)-r2.length,0)
theorem parse_ans (s:ByteArray) (e:Bool):parseF s.toList e=match untilF signT (s.toList.drop (if e then 2 else 1))with
 |none=>ansF s e [] none
 |some (nm,r)=>ansF s e (lowS nm) (tagsF [] r):=by
 unfold parseF ansF
 rw[size_toList]
 cases untilF signT (s.toList.drop (if e then 2 else 1))with
 |none=>rfl
 |some q =>
  obtain⟨nm,r⟩:=q
  cases h:tagsF [] r with
  |none=>simp only[h]
  |some q=>simp only[h]
def slashF (l:Str):Bool:=l.getLast?==some 47
theorem tagsF_close {al:List (Str×Str)} {r r1:Str} (h:r.dropWhile gapB=62::r1):tagsF al r=some (al,slashF (r.takeWhile gapB),r1):=by
 rw[tagsF]
 split
 ·rename_i he
  rw[h]at he;cases he
 ·rename_i c r2 he
  rw[h]at he
  cases he
  rw[if_pos rfl]
  rfl
theorem own_base {w:World} {base base':Nat} {t:TypeId} {size:Nat} {v:Value} {n:Nat} {xs:List Value} (h:w.ownsRow base t size v n xs) (hb:base'≤base):w.ownsRow base' t size v n xs :=
 ⟨h.1,h.2.imp id fun⟨g,cap,cur,h1,h2,r⟩=>⟨g,cap,cur,h1,Nat.le_trans hb h2,r⟩⟩
theorem put5_other {W:World} {g k:Nat} (hg:k≠g) (v0 v1 v2 v3 v4:Value):(put5 W g v0 v1 v2 v3 v4).heap[k]?=W.heap[k]?:=by
 unfold put5
 rw[heap_setCell_other _ _ _ _ hg,heap_setCell_other _ _ _ _ hg,heap_setCell_other _ _ _ _ hg,heap_setCell_other _ _ _ _ hg,heap_setCell_other _ _ _ _ hg]
theorem put5_below {W w:World} {g:Nat} (h:Below w.heap.size w W) (hg:w.heap.size≤g) (v0 v1 v2 v3 v4:Value):Below w.heap.size w (put5 W g v0 v1 v2 v3 v4) :=
 ((((h.setCell hg _).setCell hg _).setCell hg _).setCell hg _).setCell hg _
end Go.Proofs.YtgepobccoffnaaaGreatDoor.Rd
namespace Go.Proofs.YtgepobccoffnaaaGreatDoor.Rd
open Go.RowKit Mem
theorem parse_le (s:Str) (e:Bool):(parseF s e).2.1≤s.length:=by
 unfold parseF
 split
 ·show(-1:Int)≤_;omega
 ·split
  ·show(-1:Int)≤_;omega
  ·split
   ·show(s.length:Int)-_≤_;omega
   ·split
    ·show(s.length:Int)-_≤_;omega
    ·show(s.length:Int)-_≤_;omega
def OutAt (base:Nat) (o:Out) (r:Ending) (w':World):Prop:= ∃sl,r= .returned (.tuple #[markV sl o.1,.bool o.2.1,.bool o.2.2.1])∧w'.ownsRow base 57 2 sl o.1.attrs.length (pairsV (attP o.1.attrs))
theorem own_put5 {W:World} {g base:Nat} {t:TypeId} {size:Nat} {v:Value} {n:Nat} {xs:List Value} (h:W.ownsRow base t size v n xs) (hg:g<base) (v0 v1 v2 v3 v4:Value):(put5 W g v0 v1 v2 v3 v4).ownsRow base t size v n xs :=
 own_kept h fun k hk=>put5_other (by have:=(h.lt k hk).1;omega) _ _ _ _ _
theorem tagF_eq (m:MkM) (e:Bool) (x:MarkD) (n er0:Int) (hp:parseF (m.buf.take 2049) e=(x,n,er0)):tagF m e =
 if(if n>2048∨(n<0∧2048<(m.buf.take 2049).length)then(41:Int)else er0)≠0 then(noM,false,true,{m with err:=(if n>2048∨(n<0∧2048<(m.buf.take 2049).length)then(41:Int)else er0),buf:= []})
 else if n<0 then(noM,false,true,if m.closed then {m with buf:= []}else m)
 else(x,true,false,if e then {m with buf:=m.buf.drop n.toNat,mode:=0}else {m with buf:=m.buf.drop n.toNat}):=by
 unfold tagF
 simp only[hp]
theorem alloc_keep {u:World} {o ob:Obj} {g:Nat} (h:u.heap[g]?=some ob):(u.alloc o).heap[g]?=some ob :=
 (heap_alloc_old u o (Array.getElem?_eq_some_iff.1 h).1).trans h
theorem row_alloc {u:World} {o:Obj} {g:Nat} {xs:List Value} (h:Row u g xs):Row (u.alloc o) g xs:=h.kept (heap_alloc_old u o h.lt)
end Go.Proofs.YtgepobccoffnaaaGreatDoor.Rd
end
section
namespace Go.Proofs.YtgepobccoffnaaaGreatDoor.Rd
open Mem
theorem look_len {m:MkM} {s:Str}:(lookF m s=3→2≤s.length)∧(lookF m s=4→3≤s.length)∧(lookF m s=5→4≤s.length)∧(lookF m s=7→9≤s.length):=by
 have hends: ∀k,endsF m s=k→(k=3→2≤s.length)∧(k=4→False)∧(k=5→False)∧(k=7→False):=fun k hk=>by
  unfold endsF at hk
  have hu:unlessF m.closed 0=0∨unlessF m.closed 0=1:=unless_two m.closed 0 (.inl rfl)
  split at hk
  ·refine⟨fun h=> ?_,fun h=> ?_,fun h=> ?_,fun h=> ?_⟩ <;>(rcases hu with e|e <;>rw[e]at hk <;>omega)
  ·split at hk
   ·rename_i hw
    have:=(folds_whole hw.1).1
    simp only[List.length_append,List.length_cons,List.length_nil]at this
    exact⟨fun _=>by omega,fun h=>by omega,fun h=>by omega,fun h=>by omega⟩
   ·exact⟨fun h=>by omega,fun h=>by omega,fun h=>by omega,fun h=>by omega⟩
 have hdecl: ∀k,declF m s=k→(k=3→False)∧(k=4→False)∧(k=5→4≤s.length)∧(k=7→9≤s.length):=fun k hk=>by
  unfold declF at hk
  have hu:unlessF m.closed 8=8∨unlessF m.closed 8=1:=unless_two m.closed 8 (.inr rfl)
  split at hk
  ·rename_i hw
   have:=(folds_whole hw).1
   have h4:comW.length=4:=rfl
   exact⟨fun h=>by omega,fun h=>by omega,fun _=>by omega,fun h=>by omega⟩
  ·split at hk
   ·exact⟨fun h=>by omega,fun h=>by omega,fun h=>by omega,fun h=>by omega⟩
   ·split at hk
    ·rename_i hp
     have:=(List.isPrefixOf_iff_prefix.1 hp.1).length_le
     have h9:cdataW.length=9:=rfl
     exact⟨fun h=>by omega,fun h=>by omega,fun h=>by omega,fun _=>by omega⟩
    ·split at hk
     ·refine⟨fun h=> ?_,fun h=> ?_,fun h=> ?_,fun h=> ?_⟩ <;>(rcases hu with e|e <;>rw[e]at hk <;>omega)
     ·exact⟨fun h=>by omega,fun h=>by omega,fun h=>by omega,fun h=>by omega⟩
 have hu0:unlessF m.closed 0=0∨unlessF m.closed 0=1:=unless_two m.closed 0 (.inl rfl)
 obtain⟨k,hk⟩: ∃k,lookF m s=k:=⟨_,rfl⟩
 rw[hk]
 unfold lookF at hk
 split at hk
 ·obtain⟨h1,h2,h3,h4⟩:=hends k hk
  exact⟨h1,fun h=>(h2 h).elim,fun h=>(h3 h).elim,fun h=>(h4 h).elim⟩
 ·split at hk
  ·rename_i c r
   split at hk
   ·exact⟨fun h=>by omega,fun h=>by omega,fun h=>by omega,fun h=>by omega⟩
   ·split at hk
    ·exact⟨fun h=>by omega,fun h=>by omega,fun h=>by omega,fun h=>by omega⟩
    ·split at hk
     ·obtain⟨h1,h2,h3,h4⟩:=hdecl k hk
      exact⟨fun h=>(h1 h).elim,fun h=>(h2 h).elim,h3,h4⟩
     ·split at hk
      ·exact⟨fun h=>by omega,fun h=>by omega,fun h=>by omega,fun h=>by omega⟩
      ·split at hk
       ·refine⟨fun h=> ?_,fun h=> ?_,fun h=> ?_,fun h=> ?_⟩ <;>(rcases hu0 with e|e <;>rw[e]at hk <;>omega)
       ·simp only[List.length_cons]
        split at hk
        ·exact⟨fun _=>by omega,fun h=>by omega,fun h=>by omega,fun h=>by omega⟩
        ·split at hk
         ·exact⟨fun h=>by omega,fun _=>by omega,fun h=>by omega,fun h=>by omega⟩
         ·exact⟨fun h=>by omega,fun h=>by omega,fun h=>by omega,fun h=>by omega⟩
  ·refine⟨fun h=> ?_,fun h=> ?_,fun h=> ?_,fun h=> ?_⟩ <;>(rcases hu0 with e|e <;>rw[e]at hk <;>omega)
theorem textF_less (m:MkM) (s:Str) (h:(textF m s).1≠ []):(textF m s).2.1.length<s.length:=by
 cases s with
 |nil=>rw[textF]at h;exact absurd rfl h
 |cons c r =>
  have hs: ∀k,(textF m (r.drop k)).2.1.length<(c::r).length:=fun k=>by
   have h1:=(textF_spec m _ (r.drop k) (Nat.le_refl _)).1.length_le
   rw[List.length_drop]at h1
   rw[List.length_cons]
   omega
  rw[textF]at h ⊢
  split at h
  ·rename_i h60
   rw[if_pos h60]
   split at h
   ·rename_i h0;rw[if_pos h0];exact hs 0
   ·exact absurd rfl h
  ·rename_i h60
   rw[if_neg h60]
   split at h
   ·rename_i h38
    rw[if_pos h38]
    split at h
    ·exact absurd rfl h
    ·rename_i hw;rw[if_neg hw];exact hs _
   ·rename_i h38;rw[if_neg h38];exact hs 0
theorem tagsF_len: ∀(n:Nat) (al:List (Str×Str)) (r:Str),r.length≤n→ ∀al' sl r',tagsF al r=some (al',sl,r')→r'.length<r.length:=by
 intro n
 induction n with
 |zero =>
  intro al r hn al' sl r' h
  obtain rfl:r= []:=List.eq_nil_of_length_eq_zero (by omega)
  rw[tagsF]at h
  cases h
 |succ n ih =>
  intro al r hn al' sl r' h
  rw[tagsF]at h
  have h0:=dropWhile_len gapB r
  split at h
  ·cases h
  ·rename_i c r1 he
   rw[he]at h0
   simp only[List.length_cons]at h0
   split at h
   ·simp only[Option.some.injEq,Prod.mk.injEq]at h
    rw[←h.2.2];omega
   ·split at h
    ·cases h
    ·split at h
     ·have:=ih _ _ (by omega) _ _ _ h
      omega
     ·cases h
theorem parseF_pos {s:Str} {e:Bool} (h: ¬(parseF s e).2.1<0):1≤(parseF s e).2.1∧(parseF s e).2.1≤s.length:=by
 unfold parseF at h ⊢
 cases hu:untilF signT (s.drop (if e then 2 else 1))with
 |none=>simp only[hu]at h;exact absurd (by decide:(-1:Int)<0) h
 |some q =>
  obtain⟨nm,r⟩:=q
  simp only[hu]at h ⊢
  have hl:=(untilF_len hu).1
  rw[List.length_drop]at hl
  cases ht:tagsF [] r with
  |none=>simp only[ht]at h;exact absurd (by decide:(-1:Int)<0) h
  |some q =>
   obtain⟨al,sl,r2⟩:=q
   have h2:=tagsF_len _ _ _ (Nat.le_refl _) _ _ _ ht
   simp only[ht]at h ⊢
   have key:1≤(s.length:Int)-(r2.length:Int)∧(s.length:Int)-(r2.length:Int)≤s.length:=by omega
   cases e
   ·simp only[Bool.false_eq_true,if_false]at h ⊢
    split <;>exact key
   ·exact key
theorem tagF_told {m:MkM} {e:Bool} (h:(tagF m e).2.1=true):(tagF m e).2.2.2.pass=m.pass∧(tagF m e).2.2.2.buf.length<m.buf.length:=by
 unfold tagF at h ⊢
 simp only at h ⊢
 obtain⟨er,her⟩: ∃er,er=if(parseF (m.buf.take 2049) e).2.1>2048∨((parseF (m.buf.take 2049) e).2.1<0∧2048<(m.buf.take 2049).length)then(41:Int)else(parseF (m.buf.take 2049) e).2.2:=⟨_,rfl⟩
 rw[←her]at h ⊢
 by_cases h0:er=0
 ·rw[if_neg (fun hh=>hh h0)]at h ⊢
  by_cases hn:(parseF (m.buf.take 2049) e).2.1<0
  ·rw[if_pos hn]at h;cases h
  ·rw[if_neg hn]
   obtain⟨p1,p2⟩:=parseF_pos hn
   rw[List.length_take]at p2
   obtain⟨N,hN⟩:=Int.eq_ofNat_of_zero_le (by omega:0≤(parseF (m.buf.take 2049) e).2.1)
   rw[hN]at p1 p2 ⊢
   have hd:(m.buf.drop N).length<m.buf.length:=by rw[List.length_drop];omega
   cases e
   ·exact⟨rfl,hd⟩
   ·exact⟨rfl,hd⟩
 ·rw[if_pos h0]at h;cases h
theorem tagF_loud (m:MkM) (e:Bool):(tagF m e).2.1=true∨(tagF m e).2.2.1=true:=by
 unfold tagF
 simp only
 obtain⟨er,her⟩: ∃er,er=if(parseF (m.buf.take 2049) e).2.1>2048∨((parseF (m.buf.take 2049) e).2.1<0∧2048<(m.buf.take 2049).length)then(41:Int)else(parseF (m.buf.take 2049) e).2.2:=⟨_,rfl⟩
 rw[←her]
 by_cases h0:er=0
 ·rw[if_neg (fun hh=>hh h0)]
  by_cases hn:(parseF (m.buf.take 2049) e).2.1<0
  ·rw[if_pos hn];exact .inr rfl
  ·rw[if_neg hn];exact .inl rfl
 ·rw[if_pos h0];exact .inr rfl
theorem doM_le (m:MkM):doM m≤2*m.buf.length+1:=by
 unfold doM
 repeat' split
 all_goals first|omega|(rename_i h;rw[h];simp)
theorem doM_zero {m:MkM} (h:m.pass=0):doM m=2*m.buf.length:=by unfold doM;rw[if_pos h]
theorem doneF_less {m:MkM} {n:Nat} (hp:m.pass≠0) (h2:m.pass=2→m.buf≠ []→1≤n):doM (doneF m n).2.2.2<doM m:=by
 have e:doM (doneF m n).2.2.2=2*(m.buf.drop n).length:=doM_zero rfl
 rw[e,List.length_drop]
 unfold doM
 rw[if_neg hp]
 split
 ·rename_i h
  split
  ·rename_i hb;rw[hb];simp
  ·rename_i hb
   have:=h2 h hb
   have:=List.length_pos_iff.2 hb
   omega
 ·omega
theorem one_less (m:MkM) (h:(oneF m).2.1=true∨(oneF m).2.2.1=false):doM (oneF m).2.2.2<doM m:=by
 unfold oneF at h ⊢
 by_cases h0:m.pass=0
 ·rw[if_pos h0]at h ⊢
  rw[doM_zero h0]
  obtain⟨hsuf,hkind⟩:=textF_spec m _ m.buf (Nat.le_refl _)
  have hlen:=hsuf.length_le
  have hless:=textF_less m m.buf
  unfold stepF at h ⊢
  simp only at h ⊢
  generalize textF m m.buf=p at *
  obtain⟨t,buf,is⟩:=p
  simp only at h hsuf hkind hlen hless ⊢
  have hk1:is=1∨(1≤buf.length∧(is=4→3≤buf.length)∧(is=5→4≤buf.length)∧(is=7→9≤buf.length)):=by
   rcases hkind with h|⟨r,h1,h2, -⟩
   ·exact .inl h
   ·obtain⟨-,l4,l5,l7⟩:=look_len (m:=m) (s:=60::r)
    rw[h2]at l4 l5 l7
    rw[h1]
    exact .inr ⟨by simp,l4,l5,l7⟩
  by_cases ht:t= []
  ·rw[if_neg (fun hh=>hh ht)]at h ⊢
   by_cases i2:is=2
   ·rw[if_pos i2]at h ⊢
    rcases tagF_loud {m with buf:=buf} false with ht|ht
    ·have:=tagF_told ht
     rw[doM_zero (this.1.trans h0)]
     have h3:(tagF {m with buf:=buf} false).2.2.2.buf.length<buf.length:=this.2
     omega
    ·rcases h with h|h
     ·have:=tagF_told h
      rw[doM_zero (this.1.trans h0)]
      have h3:(tagF {m with buf:=buf} false).2.2.2.buf.length<buf.length:=this.2
      omega
     ·rw[ht]at h;cases h
   ·rw[if_neg i2]at h ⊢
    by_cases i3:is=3
    ·rw[if_pos i3]at h ⊢
     rcases tagF_loud {m with buf:=buf} true with ht|ht
     ·have:=tagF_told ht
      rw[doM_zero (this.1.trans h0)]
      have h3:(tagF {m with buf:=buf} true).2.2.2.buf.length<buf.length:=this.2
      omega
     ·rcases h with h|h
      ·have:=tagF_told h
       rw[doM_zero (this.1.trans h0)]
       have h3:(tagF {m with buf:=buf} true).2.2.2.buf.length<buf.length:=this.2
       omega
      ·rw[ht]at h;cases h
    ·rw[if_neg i3]at h ⊢
     by_cases i4:is=4
     ·rw[if_pos i4]
      have hb:=(hk1.resolve_left (by omega)).2.1 i4
      rw[doM_zero (by exact h0)]
      show 2*(buf.drop 3).length<_
      rw[List.length_drop];omega
     ·rw[if_neg i4]at h ⊢
      by_cases i5:is=5
      ·rw[if_pos i5]
       have hb:=(hk1.resolve_left (by omega)).2.2.1 i5
       refine Nat.lt_of_le_of_lt (doM_le _) ?_
       show 2*(buf.drop 4).length+1<_
       rw[List.length_drop];omega
      ·rw[if_neg i5]at h ⊢
       by_cases i6:is=6
       ·rw[if_pos i6]
        have hb:=(hk1.resolve_left (by omega)).1
        have hne:buf≠ []:=List.length_pos_iff.1 hb
        show(if(2:Int)=0 then _ else if(2:Int)=2 then(if buf= []then 1 else 2*buf.length-1)else _)<_
        rw[if_neg (by decide),if_pos rfl,if_neg hne];omega
       ·rw[if_neg i6]at h ⊢
        by_cases i7:is=7
        ·rw[if_pos i7]
         have hb:=(hk1.resolve_left (by omega)).2.2.2 i7
         refine Nat.lt_of_le_of_lt (doM_le _) ?_
         show 2*(buf.drop 9).length+1<_
         rw[List.length_drop];omega
        ·rw[if_neg i7]at h ⊢
         by_cases i8:is=8
         ·rw[if_pos i8]
          have hb:=(hk1.resolve_left (by omega)).1
          have hne:buf≠ []:=List.length_pos_iff.1 hb
          show(if(2:Int)=0 then _ else if(2:Int)=2 then(if buf= []then 1 else 2*buf.length-1)else _)<_
          rw[if_neg (by decide),if_pos rfl,if_neg hne];omega
         ·rw[if_neg i8]at h
          rcases h with h|h <;>cases h
  ·rw[if_pos ht]
   rw[doM_zero (by exact h0)]
   show 2*buf.length<_
   have:=hless ht
   omega
 ·rw[if_neg h0]at h ⊢
  unfold passF at h ⊢
  by_cases p1:m.pass=1
  ·rw[if_pos p1]at h ⊢
   have hd: ∀n,doM (doneF m n).2.2.2<doM m:=fun n=>doneF_less h0 fun e=>by omega
   have hlater: ∀m':MkM,m'.pass=1→m'.buf=m.buf→((comLater m').2.1=true∨(comLater m').2.2.1=false)→doM (comLater m').2.2.2<doM m:=fun m' hp hb hh=>by
    have hdm:doM m'=doM m:=by unfold doM;rw[hp,hb,p1]
    have hd: ∀n,doM (doneF m' n).2.2.2<doM m:=fun n=>by rw[←hdm];exact doneF_less (by omega) fun e=>by omega
    unfold comLater at hh ⊢
    simp only at hh ⊢
    split
    ·exact hd _
    ·rename_i c1
     rw[if_neg c1]at hh
     split
     ·exact hd _
     ·rename_i c2
      rw[if_neg c2]at hh
      split
      ·exact hd _
      ·rename_i c3
       rw[if_neg c3]at hh
       rcases hh with hh|hh <;>cases hh
   unfold comF at h ⊢
   split
   ·rename_i hf
    rw[if_pos hf]at h
    split
    ·exact hd _
    ·rename_i c1
     rw[if_neg c1]at h
     split
     ·exact hd _
     ·rename_i c2
      rw[if_neg c2]at h
      split
      ·rename_i c3
       rw[if_pos c3]at h
       rcases h with h|h <;>cases h
      ·rename_i c3
       rw[if_neg c3]at h
       exact hlater _ p1 rfl h
   ·rename_i hf
    rw[if_neg hf]at h
    exact hlater m p1 rfl h
  ·rw[if_neg p1]at h ⊢
   by_cases p2:m.pass=2
   ·rw[if_pos p2]at h ⊢
    split
    ·exact doneF_less h0 fun _ _=>by omega
    ·rename_i c1
     rw[if_neg c1]at h
     split
     ·exact doneF_less h0 fun _ hb=>List.length_pos_iff.2 hb
     ·rename_i c2
      rw[if_neg c2]at h
      rcases h with h|h <;>cases h
   ·rw[if_neg p2]at h ⊢
    have hdm:doM m=2*m.buf.length+1:=by unfold doM;rw[if_neg h0,if_neg p2]
    rw[hdm]
    unfold cdF at h ⊢
    simp only at h ⊢
    split
    ·rw[doM_zero rfl]
     show 2*(m.buf.drop _).length<_
     rw[List.length_drop];omega
    ·rename_i c1
     rw[if_neg c1]at h
     split
     ·rw[doM_zero rfl]
      show 2*([]:Str).length<_
      simp
     ·rename_i c2
      rw[if_neg c2]at h
      rcases h with h|h
      ·have hne:m.buf.take (m.buf.length-2)≠ []:=by simpa using h
       have hl:2<m.buf.length:=by
        rcases Nat.lt_or_ge 2 m.buf.length with hh|hh
        ·exact hh
        ·rw[show m.buf.length-2=0 from by omega]at hne
         exact absurd rfl hne
       refine Nat.lt_of_le_of_lt (doM_le _) ?_
       show 2*(m.buf.drop (m.buf.length-2)).length+1<_
       rw[List.length_drop];omega
      ·have h3:decide (m.pass≠0)=false:=h
       exact absurd h0 (by simpa using h3)
theorem readF_err {m:MkM} (h:m.err≠0):readF m=(none,m):=by rw[readF,if_pos h]
theorem readF_told {m:MkM} (h:m.err=0) (ht:(oneF m).2.1=true):readF m=(some (oneF m).1,(oneF m).2.2.2):=by rw[readF,if_neg (fun hh=>hh h),if_pos ht]
theorem readF_stop {m:MkM} (h:m.err=0) (ht:(oneF m).2.1=false) (hs:(oneF m).2.2.1=true):readF m=(none,(oneF m).2.2.2):=by
 rw[readF,if_neg (fun hh=>hh h),if_neg (by rw[ht];simp),if_pos hs]
theorem readF_go {m:MkM} (h:m.err=0) (ht:(oneF m).2.1=false) (hs:(oneF m).2.2.1=false):readF m=readF (oneF m).2.2.2:=by
 conv=>lhs;rw[readF,if_neg (fun hh=>hh h),if_neg (by rw[ht];simp),if_neg (by rw[hs];simp),if_pos (one_less m (.inr hs))]
end Go.Proofs.YtgepobccoffnaaaGreatDoor.Rd
namespace Go.Proofs.YtgepobccoffnaaaGreatDoor.Rd
open Go.RowKit Mem
end Go.Proofs.YtgepobccoffnaaaGreatDoor.Rd
namespace Go.Proofs.YtgepobccoffnaaaGreatDoor.Rd
open Go.RowKit Mem
def ReadAt (base:Nat) (o:Option MarkD) (r:Ending) (w':World):Prop:=match o with
 |none=>r= .returned (.tuple #[markV (.slice none 0 0) (bareM 0),.bool false])
 |some x=> ∃sl,r= .returned (.tuple #[markV sl x,.bool true])∧w'.ownsRow base 57 2 sl x.attrs.length (pairsV (attP x.attrs))
end Go.Proofs.YtgepobccoffnaaaGreatDoor.Rd
namespace Go.Proofs.YtgepobccoffnaaaGreatDoor.Rd
open Go.RowKit Mem
end Go.Proofs.YtgepobccoffnaaaGreatDoor.Rd
end
section
namespace Go.Proofs.YtgepobccoffnaaaGreatDoor.Rd
open Go.RowKit Mem
theorem below_keeps {w w':World} {b:Nat} {u:World} (h:Below w.heap.size w u) (hb:w.heap.size≤b) (k:Keeps (Only b) u w'):Below w.heap.size w w' :=
 h.trans ⟨k.os,k.tape,k.output,k.size,fun j hj=>k.block j (Nat.lt_of_lt_of_le hj h.size) (fun e=>by have e':j=b:=e;omega)⟩
theorem draw_keeps {F:Nat→Prop} {a w:World} (h:Keeps F a w) (n:Nat):Keeps F a (w.drewN n):=⟨h.os,h.tape,h.output,h.size,h.block⟩
def NextAt (base:Nat) (o:Option MarkD×MkM) (r:Ending) (w':World):Prop:=match o.1 with
 |some x=> ∃sl,r= .returned (.tuple #[markV sl x,.int .i64 0])∧w'.ownsRow base 57 2 sl x.attrs.length (pairsV (attP x.attrs))
 |none=>r= .returned (.tuple #[markV (.slice none 0 0) (if o.2.err≠0 then noM else bareM 6),.int .i64 o.2.err])
theorem next_some {base:Nat} {o:Option MarkD×MkM} {x:MarkD} {m:MkM} {r:Ending} {w':World} (h:o=(some x,m)) (hr: ∃sl,r= .returned (.tuple #[markV sl x,.int .i64 0])∧w'.ownsRow base 57 2 sl x.attrs.length (pairsV (attP x.attrs))):NextAt base o r w':=by
 rw[h];exact hr
theorem next_none {base:Nat} {o:Option MarkD×MkM} {m:MkM} {r:Ending} {w':World} (h:o=(none,m)) (hr:r= .returned (.tuple #[markV (.slice none 0 0) (if m.err≠0 then noM else bareM 6),.int .i64 m.err])):NextAt base o r w':=by
 rw[h];exact hr
def newP (s:Str):MkM:= {zeroM with buf:=putF false s,cr:=putC false s,closed:=true}
theorem NewP_any (s:ByteArray) (w:World) (hs:s.size≤100000000) :
 Calls Tryz.prog 17 #[.string s] w fun r w'=>r= .returned (.pointer (some ⟨w.heap.size,0,none⟩))∧Row w' w.heap.size (machV (newP s.toList))∧Below w.heap.size w w':=by
 go_enter Tryz.func17,Tryz.ntmps17
 go_wp2_with fail
 refine(put_any zeroM w.heap.size s _ (Row.alloc w _ _) (by show 0+_≤_;omega)).mono ?_
 rintro r W1 ⟨rfl,r1,k1⟩
 obtain⟨-, -,hf2, -⟩:=mach_free r1
 obtain⟨-, -,hc2, -⟩:=mach_row r1
 have HR1:=Lib.hid r1
 have HB1:=Lib.hid (below_keeps ((Below.refl _ w).alloc (Nat.le_refl _) _) (Nat.le_refl _) k1)
 clear k1 r1
 dsimp only
 go_wp2_with fail
 go_ret
 exact⟨rfl,HR1.out.set 2 (.bool true),HB1.out.setCell (Nat.le_refl _) _⟩
theorem mach_cdata {w:World} {b:Nat} {m:MkM} (h:Row w b (machV m)) (v:Bool):Row (w.setCell ⟨b,5,none⟩ (.bool v)) b (machV {m with cdata:=v}):=h.set 5 (.bool v)
theorem CdataP_any (m:MkM) (b:Nat) (v:Bool) (w:World) (hr:Row w b (machV m)) :
 Calls Tryz.prog 24 #[.pointer (some ⟨b,0,none⟩),.bool v] w fun r w'=>r= .returned (.tuple #[])∧Row w' b (machV {m with cdata:=v})∧Keeps (Only b) w w':=by
 have c5:w.cell? ⟨b,5,none⟩=some (.bool m.cdata):=hr.cell (j:=5) rfl
 have f5:w.frozen? ⟨b,5,none⟩=false:=hr.frozen (j:=5) (by simp[machV])
 have HR:=Lib.hid (mach_cdata hr v)
 clear hr
 go_enter Tryz.func24,Tryz.ntmps24
 go_wp2_with fail
 go_end0
 exact⟨by first|rfl|trivial,HR.out,keep_set (Keeps.refl _ _) _⟩
end Go.Proofs.YtgepobccoffnaaaGreatDoor.Rd
end
