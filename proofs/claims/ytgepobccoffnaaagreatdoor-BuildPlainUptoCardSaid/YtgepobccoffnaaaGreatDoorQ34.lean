/- Texts joined for a claim: RShelfM, RCalm, RRefsNames, RWords, RRefsA, RRefsB, RMemB, RRefsI, RMemC, RTreeMem: plain laws and contracts. No conditions beyond those that each lemma types. -/
import Derived.Test.YtgepobccoffnaaaGreatDoorQ33
import Derived.Laws.RangeAny
import Derived.Shelf.Strings.IndexAnyAll
import Derived.Shelf.Strings.Search3
import Derived.Deep.QuietTactic
import Derived.KernelRfl
import Derived.Deep.DeepMust
import Derived.BigQuiet
import Derived.Deep.RegionWith
set_option linter.unusedVariables false
set_option linter.unusedSimpArgs false
set_option maxRecDepth 100000
set_option maxHeartbeats 8000000
section
namespace Go.Proofs.YtgepobccoffnaaaGreatDoor.Rd
open Go Go.Proofs Go.Shelf Go.RowKit Go.Lib
def shelfRenM:Go.Shelf.Ren:=⟨fun|119=>183|137=>53|143=>83|152=>131|153=>85|167=>39|217=>84|219=>129|224=>181|225=>180|226=>132|227=>93|228=>133|240=>51|266=>130|267=>182|276=>81|314=>214|n=>n,fun|0=>0|3=>3|4=>4|5=>5|9=>9|20=>20|21=>21|37=>54|46=>182|51=>202|70=>82|72=>84|75=>86|80=>90|116=>127|117=>128|124=>131|146=>203|164=>119|n=>n,fun|1=>0|n=>n⟩
theorem laysM152:Lays.n152 Tryz.prog shelfRenM:= {
 mixed:=by kernel_rfl
 f119:=Tryz.func183.trans (congrArg some (by kernel_rfl))
 f137:=Tryz.func53.trans (congrArg some (by kernel_rfl))
 f152:=Tryz.func131.trans (congrArg some (by kernel_rfl))
 f217:=Tryz.func84.trans (congrArg some (by kernel_rfl))
 f224:=Tryz.func181.trans (congrArg some (by kernel_rfl))
 f225:=Tryz.func180.trans (congrArg some (by kernel_rfl))
 f266:=Tryz.func130.trans (congrArg some (by kernel_rfl))
 t0:=Tryz.underlying0
 a0:=Tryz.isAgg0
 z0:=Tryz.sizeOf0
 v0:=Tryz.zeroValue0
 t3:=Tryz.underlying3
 a3:=Tryz.isAgg3
 z3:=Tryz.sizeOf3
 v3:=Tryz.zeroValue3
 t4:=Tryz.underlying4
 a4:=Tryz.isAgg4
 z4:=Tryz.sizeOf4
 v4:=Tryz.zeroValue4
 t5:=Tryz.underlying5
 a5:=Tryz.isAgg5
 z5:=Tryz.sizeOf5
 v5:=Tryz.zeroValue5
 t9:=Tryz.underlying9
 a9:=Tryz.isAgg9
 z9:=Tryz.sizeOf9
 v9:=Tryz.zeroValue9
 t21:=Tryz.underlying21
 a21:=Tryz.isAgg21
 z21:=Tryz.sizeOf21
 v21:=Tryz.zeroValue21
 t46:=Tryz.underlying182
 a46:=Tryz.isAgg182
 z46:=Tryz.sizeOf182
 v46:=Tryz.zeroValue182}
theorem laysM153:Lays.n153 Tryz.prog shelfRenM:= {
 mixed:=by kernel_rfl
 f119:=Tryz.func183.trans (congrArg some (by kernel_rfl))
 f137:=Tryz.func53.trans (congrArg some (by kernel_rfl))
 f152:=Tryz.func131.trans (congrArg some (by kernel_rfl))
 f153:=Tryz.func85.trans (congrArg some (by kernel_rfl))
 f217:=Tryz.func84.trans (congrArg some (by kernel_rfl))
 f224:=Tryz.func181.trans (congrArg some (by kernel_rfl))
 f225:=Tryz.func180.trans (congrArg some (by kernel_rfl))
 f226:=Tryz.func132.trans (congrArg some (by kernel_rfl))
 f227:=Tryz.func93.trans (congrArg some (by kernel_rfl))
 f228:=Tryz.func133.trans (congrArg some (by kernel_rfl))
 f266:=Tryz.func130.trans (congrArg some (by kernel_rfl))
 t0:=Tryz.underlying0
 a0:=Tryz.isAgg0
 z0:=Tryz.sizeOf0
 v0:=Tryz.zeroValue0
 t3:=Tryz.underlying3
 a3:=Tryz.isAgg3
 z3:=Tryz.sizeOf3
 v3:=Tryz.zeroValue3
 t4:=Tryz.underlying4
 a4:=Tryz.isAgg4
 z4:=Tryz.sizeOf4
 v4:=Tryz.zeroValue4
 t5:=Tryz.underlying5
 a5:=Tryz.isAgg5
 z5:=Tryz.sizeOf5
 v5:=Tryz.zeroValue5
 t9:=Tryz.underlying9
 a9:=Tryz.isAgg9
 z9:=Tryz.sizeOf9
 v9:=Tryz.zeroValue9
 t21:=Tryz.underlying21
 a21:=Tryz.isAgg21
 z21:=Tryz.sizeOf21
 v21:=Tryz.zeroValue21
 t46:=Tryz.underlying182
 a46:=Tryz.isAgg182
 z46:=Tryz.sizeOf182
 v46:=Tryz.zeroValue182
 t116:=Tryz.underlying127
 a116:=Tryz.isAgg127
 z116:=Tryz.sizeOf127
 t117:=Tryz.underlying128
 a117:=Tryz.isAgg128
 z117:=Tryz.sizeOf128
 v117:=Tryz.zeroValue128
 t124:=Tryz.underlying131
 a124:=Tryz.isAgg131
 z124:=Tryz.sizeOf131
 v124:=Tryz.zeroValue131}
theorem laysM167:Lays.n167 Tryz.prog shelfRenM:= {
 mixed:=by kernel_rfl
 f167:=Tryz.func39.trans (congrArg some (by kernel_rfl))
 f240:=Tryz.func51.trans (congrArg some (by kernel_rfl))
 f276:=Tryz.func81.trans (congrArg some (by kernel_rfl))
 t0:=Tryz.underlying0
 a0:=Tryz.isAgg0
 z0:=Tryz.sizeOf0
 v0:=Tryz.zeroValue0
 t4:=Tryz.underlying4
 a4:=Tryz.isAgg4
 z4:=Tryz.sizeOf4
 v4:=Tryz.zeroValue4
 t5:=Tryz.underlying5
 a5:=Tryz.isAgg5
 z5:=Tryz.sizeOf5
 v5:=Tryz.zeroValue5
 t9:=Tryz.underlying9
 a9:=Tryz.isAgg9
 z9:=Tryz.sizeOf9
 v9:=Tryz.zeroValue9
 t20:=Tryz.underlying20
 a20:=Tryz.isAgg20
 z20:=Tryz.sizeOf20
 v20:=Tryz.zeroValue20
 t37:=Tryz.underlying54
 a37:=Tryz.isAgg54
 z37:=Tryz.sizeOf54
 v37:=Tryz.zeroValue54
 t70:=Tryz.underlying82
 a70:=Tryz.isAgg82
 z70:=Tryz.sizeOf82
 v70:=Tryz.zeroValue82
 t72:=Tryz.underlying84
 a72:=Tryz.isAgg84
 z72:=Tryz.sizeOf84
 v72:=Tryz.zeroValue84
 t75:=Tryz.underlying86
 a75:=Tryz.isAgg86
 z75:=Tryz.sizeOf86
 v75:=Tryz.zeroValue86
 t164:=Tryz.underlying119
 a164:=Tryz.isAgg119
 z164:=Tryz.sizeOf119
 v164:=Tryz.zeroValue119}
theorem shelfExtraM:Builder.Extra Tryz.prog shelfRenM:= {
 sizeBuilder:=by kernel_rfl
 liesBuilder:=by kernel_rfl
 t5:=Tryz.underlying5
 a5:=Tryz.isAgg5
 z5:=Tryz.sizeOf5
 v5:=Tryz.zeroValue5
 infoByte:=by kernel_rfl
 cellsByte:=by kernel_rfl
 sizeByte:=by kernel_rfl
 neB5:=by decide}
theorem IndexRune_ascii_any (s:ByteArray) (r:Int) (w:World) (h0:0≤r) (h1:r<128) :
 Calls Tryz.prog 131 #[.string s,.int .i32 r] w fun e w'=>e= .returned (.int .i64 (Lib.indexByte s.data.toList r.toNat.toUInt8))∧w'=w:=Any.strings_IndexRune_ascii laysM152 s r w h0 h1
theorem IndexAny_one_any (s chars:ByteArray) (w:World) (h1:chars.size=1) (hascii: ∀(j:Nat) b,chars.data.toList[j]?=some b→b.toNat<128) :
 Calls Tryz.prog 85 #[.string s,.string chars] w fun e w'=>e= .returned (.int .i64 (Lib.indexAny s.data.toList chars.data.toList))∧w'=w:=Any.strings_IndexAny_one laysM153 s chars w h1 hascii
theorem ascii_info:(Tryz.prog.info? (shelfRenM.t 116)).map (fun i=>(i.zero,i.size))=some (some (.agg (Array.replicate 256 (.bool false))),256):=by kernel_rfl
theorem IndexAny_long_any (s chars:ByteArray) (w:World) (h2:2≤chars.size) (h8:8<s.size) (hs:s.size<4294967281) (hcs:chars.size<4294967281)
 (hascii: ∀(j:Nat) b,chars.data.toList[j]?=some b→b.toNat<128) :
 Calls Tryz.prog 85 #[.string s,.string chars] w fun e w'=>e= .returned (.int .i64 (Lib.indexAny s.data.toList chars.data.toList))∧Below w.heap.size w w' :=
 (Any.strings_IndexAny_long laysM153 (zero_of_info ascii_info).1 (zero_of_info ascii_info).2 s chars w h2 h8 hs hcs hascii).mono fun e w' ⟨h1,h2⟩=>⟨h1,by
   rw[h2]
   exact((Below.refl _ _).alloc (Nat.le_refl _) _).alloc (by simp) _⟩
theorem WriteByte_any (B b:Nat) (bs:List Value) (c:Int) (w:World) (h:Lib.IsBuilderF 84 5 B b bs w) (hlen:bs.length+1≤140737488355328) (hBw:B≤w.heap.size) :
 Calls Tryz.prog 39 #[.pointer (some ⟨b,0,none⟩),.int .u8 c] w fun e w'=>e= .returned .nilIface∧(Lib.BuilderAtF 84 5 B b (.pointer (some ⟨b,0,none⟩)) (bs++ [.int .u8 c]) w'∧Below B w w'∧Lib.OthersKept 5 (some b) w w'):=Any.Builder_WriteByte_k laysM167 shelfExtraM B b bs c w h hlen hBw
end Go.Proofs.YtgepobccoffnaaaGreatDoor.Rd
end
section
namespace Go.Proofs.YtgepobccoffnaaaGreatDoor.Rd
open Go Go.RowKit Mem
theorem wp_region_calm {P:Program} {id:Nat} {Q:Exit→Act→World→Prop} {a:Act} {w:World} {l:List Oper} (hm:P.follows .mixedOrders=true) (hB:Region.lexB .any l.toArray=true)
 (h:wpQuiet P l.toArray (fun w'=>Hid (Below w.heap.size w w')) (fun a'=> ∀w',Hid (Below w.heap.size w w')→Q .normal a' w') l a):(Code.region id l.toArray true).wp P Q a w :=
 wp_region_quiet (C:=fun w'=>Hid (Below w.heap.size w w')) hm hB (Lib.hid (Below.refl _ w).drew) (by simpa using h)
theorem calm_skip {P:Program} {ops:Array Oper} {o:Oper} {a:Act} {C:World→Prop} {K:Act→Prop} (hw:Region.wanted o (yielded ops a.tmps)=false) (h:K (a.put o.dst undef)) :
 if Region.wanted o (yielded ops a.tmps)then o.quiet P a C K else K (a.put o.dst undef):=by
 rw[if_neg (by rw[hw];decide)];exact h
theorem calm_run {P:Program} {ops:Array Oper} {o:Oper} {a:Act} {C:World→Prop} {K:Act→Prop} {v:Value} (hw:Region.wanted o (yielded ops a.tmps)=true) (h: ∀w,C w→o.quietAt P a C w v) (hk:K (a.put o.dst v)) :
 if Region.wanted o (yielded ops a.tmps)then o.quiet P a C K else K (a.put o.dst undef):=by
 rw[if_pos hw];exact⟨v,h,hk⟩
end Go.Proofs.YtgepobccoffnaaaGreatDoor.Rd
end
section
namespace Go.Proofs.YtgepobccoffnaaaGreatDoor.Rd
open Mem
theorem look_mem: ∀(t:List (Str×Str)) (x:Str),look t x≠ []→(x,look t x)∈t
 | [],x,h=>absurd rfl h
 |p::r,x,h=>by
  unfold look at h ⊢
  by_cases e:(x==p.1)=true
  ·rw[if_pos e]
   obtain rfl:x=p.1:=by simpa using e
   exact List.mem_cons_self
  ·rw[if_neg e]at h ⊢
   exact List.mem_cons_of_mem _ (look_mem r x h)
theorem hit_mem {p:Str} (h:hitF p≠ []):(p,hitF p)∈keys:=by
 unfold hitF at h ⊢
 by_cases h1:([59]:Str).isSuffixOf p=true
 ·rw[if_pos h1]at h ⊢
  obtain⟨q,rfl⟩:=List.isSuffixOf_iff_suffix.1 h1
  have e:(q++ [59]).take ((q++ [59]).length-1)=q:=by simp
  rw[e]at h ⊢
  by_cases h2:look bareT q≠ []
  ·rw[if_pos h2]at h ⊢
   exact List.mem_append_left _ (List.mem_append_right _ (List.mem_map.2 ⟨_,look_mem _ _ h2,rfl⟩))
  ·rw[if_neg h2]at h ⊢
   exact List.mem_append_right _ (List.mem_map.2 ⟨_,look_mem _ _ h,rfl⟩)
 ·rw[if_neg h1]at h ⊢
  exact List.mem_append_left _ (List.mem_append_left _ (look_mem _ _ h))
theorem keys_hit: ∀k∈keys,hitF k.1=k.2∧k.2≠ []∧1≤k.1.length∧k.1.length≤14:=by decide +kernel
theorem findUp_spec (s:Str): ∀n,n≤s.length→(findUp s n).2≤n∧(((findUp s n).2=0∧(findUp s n).1= [])∨(0<(findUp s n).2∧(s.take (findUp s n).2,(findUp s n).1)∈keys)) ∧
 ∀k∈keys,k.1 <+:s→k.1.length≤n→k.1.length≤(findUp s n).2
 |0,_=>⟨Nat.le_refl _,.inl ⟨rfl,rfl⟩,fun _ _ _ h=>h⟩
 |n+1,hn=>by
  obtain⟨h1,h2,h3⟩:=findUp_spec s n (by omega)
  unfold findUp
  by_cases hh:hitF (s.take (n+1))≠ []
  ·rw[if_pos hh]
   exact⟨Nat.le_refl _,.inr ⟨by omega,hit_mem hh⟩,fun _ _ _ h=>h⟩
  ·rw[if_neg hh]
   refine⟨by omega,h2,fun k hk hp hl=> ?_⟩
   by_cases he:k.1.length=n+1
   ·have:k.1=s.take (n+1):=by rw[←he];exact List.prefix_iff_eq_take.1 hp
    rw[←this]at hh
    obtain⟨e1,e2,_⟩:=keys_hit k hk
    rw[e1]at hh
    exact absurd e2 hh
   ·exact h3 k hk hp (by omega)
theorem findF_spec (s:Str):(((findF s).2=0∧(findF s).1= [])∨(0<(findF s).2∧(findF s).2≤s.length∧(s.take (findF s).2,(findF s).1)∈keys))∧ ∀k∈keys,k.1 <+:s→k.1.length≤(findF s).2:=by
 obtain⟨h1,h2,h3⟩:=findUp_spec s (min s.length 14) (Nat.min_le_left _ _)
 refine⟨h2.imp id fun⟨a,b⟩=>⟨a,by unfold findF;omega,b⟩,fun k hk hp=>h3 k hk hp ?_⟩
 have:=hp.length_le
 have:=(keys_hit k hk).2.2.2
 omega
theorem findF_eq {s t:Str} {n:Nat} (h:(n=0∧t= [])∨(0<n∧n≤s.length∧(s.take n,t)∈keys)) (hm: ∀k∈keys,k.1 <+:s→k.1.length≤n):findF s=(t,n):=by
 obtain⟨h1,h2⟩:=findF_spec s
 have key: ∀ {m:Nat} {u:Str},0<m→m≤s.length→(s.take m,u)∈keys→m≤n:=fun {m u} _ hml hu=>by
  have:=hm _ hu (List.take_prefix _ _)
  simp only[List.length_take]at this
  omega
 have key2: ∀ {m:Nat} {u:Str},0<m→m≤s.length→(s.take m,u)∈keys→m≤(findF s).2:=fun {m u} _ hml hu=>by
  have:=h2 _ hu (List.take_prefix _ _)
  simp only[List.length_take]at this
  omega
 have hn:(findF s).2=n:=by
  rcases h with⟨h,_⟩|⟨h,h',h''⟩ <;>rcases h1 with⟨g,_⟩|⟨g,g',g''⟩
  ·omega
  ·have:=key g g' g'';omega
  ·have:=key2 h h' h'';omega
  ·have:=key g g' g'';have:=key2 h h' h'';omega
 have ht:(findF s).1=t:=by
  rcases h with⟨h,ht⟩|⟨h,h',h''⟩ <;>rcases h1 with⟨g,gt⟩|⟨g,g',g''⟩
  ·rw[ht,gt]
  ·omega
  ·omega
  ·rw[hn]at g''
   have e1:=(keys_hit _ g'').1
   have e2:=(keys_hit _ h'').1
   exact e1.symm.trans e2
 rw[←hn,←ht]
theorem findF_le (s:Str):(findF s).2≤s.length:=by
 rcases(findF_spec s).1 with⟨h,_⟩|⟨_,h,_⟩
 ·omega
 ·exact h
theorem findF_take (s:Str) (k:Nat) (hk:(findF s).2≤k):findF (s.take k)=findF s:=by
 obtain⟨h1,h2⟩:=findF_spec s
 refine findF_eq (t:=(findF s).1) (n:=(findF s).2) ?_ fun q hq hp=>h2 q hq (hp.trans (List.take_prefix _ _))
 refine h1.imp id fun⟨a,b,c⟩=>⟨a,by rw[List.length_take];omega,?_⟩
 rw[List.take_take,Nat.min_eq_left hk]
 exact c
theorem findF_append (s x:Str) (h: ∀k∈keys,k.1 <+:s++x→k.1 <+:s):findF (s++x)=findF s:=by
 obtain⟨h1,h2⟩:=findF_spec s
 refine findF_eq (t:=(findF s).1) (n:=(findF s).2) ?_ fun q hq hp=>h2 q hq (h q hq hp)
 refine h1.imp id fun⟨a,b,c⟩=>⟨a,by rw[List.length_append];omega,?_⟩
 rw[List.take_append_of_le_length b]
 exact c
theorem findF_semi {k:Str×Str} (hk:k∈keys) (hs:k.1.getLast?=some 59) (x:Str):findF (k.1++x)=(k.2,k.1.length):=by
 have hall: ∀a∈keys,∀b∈keys,a.1.getLast?=some 59→a.1.isPrefixOf b.1=true→a.1.length=b.1.length:=by decide +kernel
 refine findF_eq (.inr ⟨(keys_hit k hk).2.2.1,by simp,by simpa using hk⟩) fun q hq hp=> ?_
 rcases Nat.lt_or_ge k.1.length q.1.length with h|h
 ·have:=hall k hk q hq hs (List.isPrefixOf_iff_prefix.2 (List.prefix_of_prefix_length_le (List.prefix_append _ _) hp (Nat.le_of_lt h)))
  omega
 ·exact h
theorem prefix_stop {k s x:Str} {c:UInt8} (hc:c∉k) (h:k <+:s++c::x):k <+:s:=by
 rcases Nat.lt_or_ge s.length k.length with hl|hl
 ·have h1:s++ [c] <+:s++c::x:=⟨x,by simp⟩
  have h2:s++ [c] <+:k:=List.prefix_of_prefix_length_le h1 h (by simp;omega)
  exact absurd (h2.subset (by simp)) hc
 ·exact List.prefix_of_prefix_length_le h (List.prefix_append _ _) hl
def chars (a b:Nat):Str:=encF a++(if 0<b then encF b else [])
end Go.Proofs.YtgepobccoffnaaaGreatDoor.Rd
end
section
namespace Go.Proofs.YtgepobccoffnaaaGreatDoor.Rd
open Go Go.RowKit Mem
theorem clash {x l:List UInt8} (h:(x==l)=true) (h':(x==l)=false) {p:Prop}:p:=by rw[h]at h';cases h'
end Go.Proofs.YtgepobccoffnaaaGreatDoor.Rd
end
section
namespace Go.Proofs.YtgepobccoffnaaaGreatDoor.Rd
open Go.RowKit Mem
def strB (l:Str):ByteArray:=⟨l.toArray⟩
theorem look_lit {T:List (Str×Str)} {x l v:Str} (h:(x==l)=true) (hv:look T l=v):look T x=v:=by
 have:x=l:=by simpa using h
 rw[this];exact hv
theorem ret_str {a b:ByteArray} {l:Str} (h:l=b.data.toList) (e:a=b):Ending.returned (.string a)= .returned (.string (strB l)):=by
 subst h e;rfl
theorem bare_any (name:ByteArray) (w:World):Calls Tryz.prog 189 #[.string name] w fun e w'=>e= .returned (.string (strB (look bareT name.toList)))∧w=w':=by
 go_enter Tryz.func189,Tryz.ntmps189
 go_wp2_with fail
 all_goals go_ret
 all_goals exact⟨ret_str (by first|exact look_lit ‹_› (by decide)|exact clash (x:=name.toList) (l:= [97,109,112]) ‹_› ‹_›|exact clash (x:=name.toList) (l:= [108,116]) ‹_› ‹_›|simp[look,bareT, *]) rfl,rfl⟩
theorem bound_any (name:ByteArray) (w:World):Calls Tryz.prog 190 #[.string name] w fun e w'=>e= .returned (.string (strB (look boundT name.toList)))∧w=w':=by
 go_enter Tryz.func190,Tryz.ntmps190
 go_wp2_with fail
 all_goals go_ret
 all_goals exact⟨ret_str (by first|exact look_lit ‹_› (by decide)|simp[look,boundT, *]) rfl,rfl⟩
theorem ext_list (s:ByteArray) (a b:Nat):(s.extract a b).toList=(s.toList.drop a).take (b-a):=by
 rw[Lib.extract_toList,ByteArray.toList_eq]
theorem pre_beq (s p:ByteArray):((s.extract 0 p.size).toList==p.toList)=p.toList.isPrefixOf s.toList:=by
 rw[ext_list,List.drop_zero,Nat.sub_zero,Bool.eq_iff_iff,List.isPrefixOf_iff_prefix,List.prefix_iff_eq_take,size_toList]
 exact⟨fun h=>(beq_iff_eq.1 h).symm,fun h=>beq_iff_eq.2 h.symm⟩
theorem pre_long (s p:ByteArray) (h: ¬p.size≤s.size):false=p.toList.isPrefixOf s.toList:=by
 symm
 rw[Bool.eq_false_iff]
 intro h'
 have:=(List.isPrefixOf_iff_prefix.1 h').length_le
 rw[size_toList,size_toList]at this
 exact h this
theorem begins12_any (s p:ByteArray) (w:World):Calls Tryz.prog 25 #[.string s,.string p] w fun e w'=>e= .returned (.bool (p.toList.isPrefixOf s.toList))∧w=w':=by
 by_cases h:p.size≤s.size
 ·have HP:=Lib.hid (pre_beq s p)
  go_enter Tryz.func25,Tryz.ntmps25
  go_wp2_with fail
  go_ret
  exact⟨ret_bool HP.out,rfl⟩
 ·have HP:=Lib.hid (pre_long s p h)
  go_enter Tryz.func25,Tryz.ntmps25
  go_wp2_with fail
  go_ret
  exact⟨ret_bool HP.out,rfl⟩
end Go.Proofs.YtgepobccoffnaaaGreatDoor.Rd
end
section
namespace Go.Proofs.YtgepobccoffnaaaGreatDoor.Rd
open Go.RowKit Mem
def cutS (p:ByteArray):ByteArray:=⟨(Lib.trimSuffix p.data.toList [59]).toArray⟩
def cutB (p:ByteArray):Bool:=Lib.hasSuffix p.data.toList [59]
theorem cutS_list (p:ByteArray):(cutS p).toList=Lib.trimSuffix p.data.toList [59]:=by rw[ByteArray.toList_eq];rfl
theorem hitF_cut (p:ByteArray):hitF p.toList=if look bareT (cutS p).toList≠ []then look bareT (cutS p).toList else if cutB p=true then look boundT (cutS p).toList else []:=by
 rw[cutS_list,ByteArray.toList_eq]
 unfold hitF cutB Lib.trimSuffix Lib.hasSuffix
 cases h:([59]:Str).isSuffixOf p.data.toList
 ·simp
 ·simp
theorem cut_any (p:ByteArray) (w:World) (hp:p.size≤9223372036854775807):Calls Tryz.prog 188 #[.string p,.string ⟨#[59]⟩] w fun e w'=>e= .returned (.tuple #[.string (cutS p),.bool (cutB p)])∧w=w' :=
 (CutSuffix_any p ⟨#[59]⟩ w hp).mono fun _ _ ⟨h1,h2⟩=>⟨h1,h2.symm⟩
theorem strB_mem (s:ByteArray):strB s.toList=s:=by rw[ByteArray.toList_eq];rfl
theorem toList_strB (l:Str):(strB l).toList=l:=by rw[ByteArray.toList_eq];rfl
theorem findUp_hit {s:Str} {j:Nat} {p:ByteArray} {t:Str} (hp:p.toList=s.take (j+1)) (h:hitF p.toList=t) (ht:t≠ []):findUp s (j+1)=(t,j+1):=by
 rw[hp]at h
 subst h
 rw[findUp,if_pos ht]
theorem findUp_next {s:Str} {j:Nat} {p:ByteArray} (hp:p.toList=s.take (j+1)) (h:hitF p.toList= []):findUp s (j+1)=findUp s j:=by
 rw[hp]at h
 rw[findUp,if_neg (by simp[h])]
theorem ret2_str {a b:ByteArray} {i j:Int} (h:a=b) (h':i=j):Ending.returned (.tuple #[.string a,.int .i64 i])= .returned (.tuple #[.string b,.int .i64 j]):=by rw[h,h']
def HitHow (p:ByteArray) (tb td:ByteArray) (ends:Bool):Prop :=
 (tb.toList≠ []∧hitF p.toList=tb.toList)∨(tb.toList= []∧ends=true∧td.toList≠ []∧hitF p.toList=td.toList)∨(tb.toList= []∧ends=true∧td.toList= []∧hitF p.toList= [])∨(tb.toList= []∧ends=false∧hitF p.toList= [])
theorem hit_cases (p:ByteArray) (w:World) (hp:p.size≤9223372036854775807): ∃(nm tb td:ByteArray) (ends:Bool),
 Calls Tryz.prog 188 #[.string p,.string ⟨#[59]⟩] w (fun e w'=>e= .returned (.tuple #[.string nm,.bool ends])∧w=w') ∧
 Calls Tryz.prog 189 #[.string nm] w (fun e w'=>e= .returned (.string tb)∧w=w') ∧
 Calls Tryz.prog 190 #[.string nm] w (fun e w'=>e= .returned (.string td)∧w=w')∧HitHow p tb td ends:=by
 refine⟨cutS p,_,_,cutB p,cut_any p w hp,bare_any (cutS p) w,bound_any (cutS p) w,?_⟩
 have h:=hitF_cut p
 unfold HitHow
 rw[toList_strB,toList_strB]
 by_cases h1:look bareT (cutS p).toList= []
 ·rw[if_neg (by simp[h1])]at h
  cases h2:cutB p
  ·rw[h2]at h
   exact .inr (.inr (.inr ⟨h1,rfl,h⟩))
  ·rw[h2,if_pos rfl]at h
   by_cases h3:look boundT (cutS p).toList= []
   ·exact .inr (.inr (.inl ⟨h1,rfl,h3,h.trans h3⟩))
   ·exact .inr (.inl ⟨h1,rfl,h3,h⟩)
 ·rw[if_pos h1]at h
  exact .inl ⟨h1,h⟩
theorem ne_empty {s:ByteArray} (h:s.toList≠ []):s.toList.isEmpty=false:=by
 cases hs:s.toList with
 |nil=>exact absurd hs h
 |cons c r=>rfl
theorem is_empty {s:ByteArray} (h:s.toList= []):s.toList.isEmpty=true:=by rw[h];rfl
theorem Find_any (s:ByteArray) (w:World) (hs:s.size≤9223372036854775807):Calls Tryz.prog 138 #[.string s] w fun e w'=>e= .returned (.tuple #[.string (strB (findF s.toList).1),.int .i64 (findF s.toList).2])∧w=w':=by
 have HP:Hid (findF s.toList=findUp s.toList (min s.size 14)):=by show _=_;rw[findF,size_toList]
 have h0:((min s.size 14:Nat):Int)=min (s.size:Int) 14:=by omega
 have H0:=Lib.hid h0
 clear h0
 go_enter Tryz.func138,Tryz.ntmps138
 go_wp2_with fail
 go_loop [4] (fun i=> ∃k:Nat,k≤s.size∧k≤14∧i= .int .i64 k∧findF s.toList=findUp s.toList k) (fun i=>(intOf i).toNat)
 case atStart=>exact⟨min s.size 14,by omega,by omega,by first|rfl|(rw[H0.out])|(congr 1;exact H0.out.symm),HP.out⟩
 case round =>
  obtain⟨k,hk,hk2,rfl,hv⟩:=hrel
  have HV:=Lib.hid hv
  clear hv
  cases k with
  |zero =>
   go_wp2_with fail
   go_ret2
   exact⟨ret2_str (by rw[HV.out];rfl) (by rw[HV.out];rfl),rfl⟩
  |succ j =>
   have hsz:(s.extract 0 (j+1)).size≤9223372036854775807:=by rw[ByteArray.size_extract];omega
   have hpl:(s.extract 0 (j+1)).toList=s.toList.take (j+1):=by rw[ext_list,List.drop_zero,Nat.sub_zero]
   obtain⟨nm,tb,td,ends,hc,hb,hd,hh⟩:=hit_cases (s.extract 0 (j+1)) w hsz
   have HC:=Lib.hid hc
   have HB:=Lib.hid hb
   have HD:=Lib.hid hd
   have HPL:=Lib.hid hpl
   clear hc hb hd hpl
   rcases hh with⟨h1,h2⟩|⟨h1,rfl,h3,h2⟩|⟨h1,rfl,h3,h2⟩|⟨h1,rfl,h2⟩
   ·have HH:=Lib.hid h2
    have HN:=Lib.hid h1
    have h1':=ne_empty h1
    clear h2
    go_wp2_with (first
     |(go_at_call 188;go_must (refine HC.out.mono ?_;rintro e w1 ⟨rfl,rfl⟩))
     |(go_at_call 189;go_must (refine HB.out.mono ?_;rintro e w1 ⟨rfl,rfl⟩)))
    go_ret2
    exact⟨ret2_str (by rw[HV.out,findUp_hit HPL.out HH.out HN.out];exact(strB_mem _).symm) (by rw[HV.out,findUp_hit HPL.out HH.out HN.out];rfl),rfl⟩
   ·have HH:=Lib.hid h2
    have HN:=Lib.hid h3
    have h1':=is_empty h1
    have h3':=ne_empty h3
    clear h2
    go_wp2_with (first
     |(go_at_call 188;go_must (refine HC.out.mono ?_;rintro e w1 ⟨rfl,rfl⟩))
     |(go_at_call 189;go_must (refine HB.out.mono ?_;rintro e w1 ⟨rfl,rfl⟩))
     |(go_at_call 190;go_must (refine HD.out.mono ?_;rintro e w1 ⟨rfl,rfl⟩)))
    go_ret2
    exact⟨ret2_str (by rw[HV.out,findUp_hit HPL.out HH.out HN.out];exact(strB_mem _).symm) (by rw[HV.out,findUp_hit HPL.out HH.out HN.out];rfl),rfl⟩
   ·have HH:=Lib.hid h2
    have h1':=is_empty h1
    have h3':=is_empty h3
    clear h2
    go_wp2_with (first
     |(go_at_call 188;go_must (refine HC.out.mono ?_;rintro e w1 ⟨rfl,rfl⟩))
     |(go_at_call 189;go_must (refine HB.out.mono ?_;rintro e w1 ⟨rfl,rfl⟩))
     |(go_at_call 190;go_must (refine HD.out.mono ?_;rintro e w1 ⟨rfl,rfl⟩)))
    go_round
    case rel=>exact⟨j,by omega,by omega,rfl,by rw[HV.out,findUp_next HPL.out HH.out]⟩
    case measure=>simp[intOf]
   ·have HH:=Lib.hid h2
    have h1':=is_empty h1
    clear h2
    go_wp2_with (first
     |(go_at_call 188;go_must (refine HC.out.mono ?_;rintro e w1 ⟨rfl,rfl⟩))
     |(go_at_call 189;go_must (refine HB.out.mono ?_;rintro e w1 ⟨rfl,rfl⟩))
     |(go_at_call 190;go_must (refine HD.out.mono ?_;rintro e w1 ⟨rfl,rfl⟩)))
    go_round
    case rel=>exact⟨j,by omega,by omega,rfl,by rw[HV.out,findUp_next HPL.out HH.out]⟩
    case measure=>simp[intOf]
end Go.Proofs.YtgepobccoffnaaaGreatDoor.Rd
end
section
namespace Go.Proofs.YtgepobccoffnaaaGreatDoor.Rd.Mem
open Go Go.RowKit
theorem own_kept {w w':World} {base:Nat} {e:TypeId} {size:Nat} {v:Value} {n:Nat} {xs:List Value} (h:w.ownsRow base e size v n xs) (hb: ∀g,v.ownBlock=some g→w'.heap[g]?=w.heap[g]?):w'.ownsRow base e size v n xs:=by
 obtain⟨h1,h2⟩:=h
 refine⟨h1,?_⟩
 rcases h2 with h2|⟨g,cap,cur,rfl,hg,hh,r⟩
 ·exact .inl h2
 ·exact .inr ⟨g,cap,cur,rfl,hg,(hb g rfl).trans hh,r⟩
theorem own_below {w w':World} {base:Nat} {e:TypeId} {size:Nat} {v:Value} {n:Nat} {xs:List Value} (h:w.ownsRow base e size v n xs) (hb:Below w.heap.size w w'):w'.ownsRow base e size v n xs :=
 own_kept h fun g hg=>hb.block g (h.lt g hg).2
theorem own_row {w:World} {base:Nat} {e:TypeId} {size g:Nat} {n c:Nat} {xs:List Value} (h:w.ownsRow base e size (.slice (some ⟨g,0,none⟩) n c) n xs):Row w g xs:=by
 rcases h.2 with⟨h',_⟩|⟨g',cap,cur,h',_,hg,_,_,_,ht⟩
 ·cases h'
 ·cases h'
  exact⟨cur,e,0,0,hg,by rw[h.1];exact ht,.inr rfl⟩
theorem own_at {w:World} {base:Nat} {e:TypeId} {size:Nat} {v:Value} {n:Nat} {xs:List Value} (h:w.ownsRow base e size v n xs) :
 ∃a c,v= .slice a n c∧n≤c∧c≤maxLen∧(a=none→c=0)∧At w a xs:=by
 obtain⟨h1,h2⟩:=h
 rcases h2 with⟨rfl,rfl⟩|⟨g,cap,cur,rfl,hg,hh,r1,r2,r3,r4⟩
 ·have:xs= []:=List.eq_nil_of_length_eq_zero (by simpa using h1)
  subst this
  exact⟨none,0,rfl,Nat.le_refl _,Nat.zero_le _,fun _=>rfl,At.nil _ _⟩
 ·exact⟨some ⟨g,0,none⟩,cap,rfl,r1,r2,(fun h=>by cases h),(own_row (base:=base) (e:=e) (size:=size) ⟨h1,.inr ⟨g,cap,cur,rfl,hg,hh,r1,r2,r3,r4⟩⟩).at⟩
end Go.Proofs.YtgepobccoffnaaaGreatDoor.Rd.Mem
end
section
namespace Go.Proofs.YtgepobccoffnaaaGreatDoor.Rd
open Go.RowKit Mem
theorem ret_vb {x:Int} {d b:Nat} (h:x=d):Ending.returned (.tuple #[.int .i64 x,.bool (decide (x<(b:Int)))])= .returned (.tuple #[.int .i64 d,.bool (decide (d<b))]):=by
 subst h
 simp
theorem value_any (n b:Nat) (hn:n<256) (w:World):Calls Tryz.prog 185 #[.int .u8 n,.int .i64 b] w fun e w'=>e= .returned (.tuple #[.int .i64 (digV n),.bool (decide (digV n<b))])∧w=w':=by
 have HV:Hid (digV n=if 48≤n∧n≤57 then n-48 else if 97≤n∧n≤102 then n-97+10 else if 65≤n∧n≤70 then n-65+10 else 99):=by show _=_;rfl
 go_enter Tryz.func185,Tryz.ntmps185
 go_wp2_with fail
 all_goals go_ret2
 all_goals exact⟨ret_vb (by have h:=HV.out;clear HV;(repeat' split at h) <;>omega),rfl⟩
end Go.Proofs.YtgepobccoffnaaaGreatDoor.Rd
end
section
namespace Go.Proofs.YtgepobccoffnaaaGreatDoor.Rd.Mem
open Go Go.RowKit
theorem At.news {w:World} {ad:Addr} {xs:List Value} (h:At w (some ad) xs): ∀j u,xs[j]?=some u→w.cell? (ad.add j)=some u:=by
 intro j u hj
 obtain⟨b,o,ha,hc⟩:=h j u hj
 cases ha
 unfold Addr.add
 split
 ·rename_i h0;subst h0;exact hc
 ·exact hc
theorem wpList_append_slice {P:Program} (w:World) {ops:Array Oper} {rest:List Oper} {o:Oper} {a:Act} {Q:Exit→Act→World→Prop} (hgd:o.guard=none) (s x:Operand) (t:TypeId)
 (ho:o.op= .call {callee:= .builtin .append,args:= #[s,x],argTypes:= #[t,t]})
 (base:Nat) (e:TypeId) (i:TypeInfo) (z:Value) (size bytes:Nat) (ht:P.underlying t=some (.slice e)) (hi:P.info? e=some i) (hz:i.zero=some z)
 (hsize:i.size=size) (hby:i.bytes=bytes) (hzs:z.cells.size=size) (hsz:0<size)
 (v:Value) (n:Nat) (xs:List Value) (hs:a.eval s=v) (hown:w.ownsRow base e size v n xs)
 (ao:Option Addr) (m c:Nat) (news:List Value) (hx:a.eval x= .slice ao m c) (hl:news.length=m*size) (hnil:ao=none→c=0) (hat:At w ao news) (h1: ∀u∈news,u.oneCell'=true)
 (h63:n+m≤maxLen) (hbytes:(n+m)*bytes≤140737488355328) (hbase:base≤w.heap.size)
 (h: ∀v' w',w'.ownsRow base e size v' (n+m) (xs++news)→w.grownBy w' v.ownBlock→wpList P ops Q rest (a.put o.dst v') w'):wpList P ops Q (o::rest) a w:=by
 cases ao with
 |some ad=>exact wpList_append_own w hgd s x t ho base e i z size bytes ht hi hz hsize hby hzs hsz v n xs hs hown ad m c news hx hl hat.news h1 h63 hbytes hbase fun v' w' h2 h3 _=>h v' w' h2 h3
 |none =>
  obtain rfl:c=0:=hnil rfl
  have hn:news= []:=by
   cases news with
   |nil=>rfl
   |cons u r=>obtain⟨b,q,he,_⟩:=hat 0 u rfl;cases he
  subst hn
  obtain rfl:m=0:=by
   have:m*size=0:=by simpa using hl.symm
   rcases Nat.mul_eq_zero.1 this with h|h
   ·exact h
   ·omega
  exact wpList_append_own_none hgd s x t ho base e i size ht hi v n xs hs hown hx (h v w (by simpa using hown) (World.grownBy.refl _ _))
end Go.Proofs.YtgepobccoffnaaaGreatDoor.Rd.Mem
end
section
namespace Go.Proofs.YtgepobccoffnaaaGreatDoor.Rd.Mem
open Go Go.RowKit
structure Keeps (F:Nat→Prop) (w w':World):Prop where
 os:w'.os=w.os
 tape:w'.tape=w.tape
 output:w'.output=w.output
 size:w.heap.size≤w'.heap.size
 block: ∀k,k<w.heap.size→ ¬F k→w'.heap[k]?=w.heap[k]?
theorem Keeps.refl (F:Nat→Prop) (w:World):Keeps F w w:=⟨rfl,rfl,rfl,Nat.le_refl _,fun _ _ _=>rfl⟩
theorem Keeps.trans {F:Nat→Prop} {a b c:World} (h:Keeps F a b) (k:Keeps F b c):Keeps F a c :=
 ⟨k.os.trans h.os,k.tape.trans h.tape,k.output.trans h.output,Nat.le_trans h.size k.size,fun i hi hF=>(k.block i (Nat.lt_of_lt_of_le hi h.size) hF).trans (h.block i hi hF)⟩
theorem Keeps.ofBelow {F:Nat→Prop} {w w':World} (h:Below w.heap.size w w'):Keeps F w w':=⟨h.os,h.tape,h.output,h.size,fun k hk _=>h.block k hk⟩
theorem Keeps.set {F:Nat→Prop} {a w:World} (h:Keeps F a w) {p:Addr} (hp:F p.block∨a.heap.size≤p.block) (u:Value):Keeps F a (w.setCell p u) :=
 ⟨h.os,h.tape,h.output,by rw[World.size_setCell];exact h.size,fun k hk hF=>by
  have hne:k≠p.block:=by
   intro e
   rcases hp with hp|hp
   ·exact hF (e▸hp)
   ·omega
  rw[heap_setCell_other _ _ _ _ hne];exact h.block k hk hF⟩
theorem Keeps.alloc {F:Nat→Prop} {a w:World} (h:Keeps F a w) (o:Obj):Keeps F a (w.alloc o) :=
 ⟨h.os,h.tape,h.output,by rw[World.size_alloc];have:=h.size;omega,fun k hk hF=>(Below.heap_alloc w o k (Nat.lt_of_lt_of_le hk h.size)).trans (h.block k hk hF)⟩
theorem Keeps.drew {F:Nat→Prop} {a w:World} (h:Keeps F a w):Keeps F a w.drew:=⟨h.os,h.tape,h.output,h.size,h.block⟩
end Go.Proofs.YtgepobccoffnaaaGreatDoor.Rd.Mem
end
