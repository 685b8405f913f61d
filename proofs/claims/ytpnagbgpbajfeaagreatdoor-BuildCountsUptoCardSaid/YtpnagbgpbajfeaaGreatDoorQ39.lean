/- Texts joined for a claim: RShelfM, RCalm, RRefsNames, RRefsA, RRefsB, RMemB, RTreeMem, RRefsL, RRefsP: plain laws and contracts. No conditions beyond those that each lemma types. -/
import Derived.Test.YtpnagbgpbajfeaaGreatDoorQ38
import Derived.Shelf.Strings.IndexAnyAll
import Derived.Shelf.Strings.Search3
import Derived.Laws.RangeAny
import Derived.Deep.QuietTactic
import Derived.KernelRfl
import Derived.Deep.DeepMust
import Derived.Deep.WholeRow
import Derived.LoopTactic
import Derived.BigQuiet
import Derived.Deep.RegionWith
import Derived.Lib.IndexLaws
set_option linter.unusedVariables false
set_option linter.unusedSimpArgs false
section
namespace Go.Proofs.YtpnagbgpbajfeaaGreatDoor.Rd
open Go Go.Proofs Go.Shelf Go.RowKit Go.Lib
def shelfRenM:Go.Shelf.Ren:=⟨fun|119=>178|137=>48|143=>78|152=>126|153=>80|167=>34|217=>79|219=>124|224=>176|225=>175|226=>127|227=>88|228=>128|240=>46|266=>125|267=>177|276=>76|314=>209|n=>n,fun|0=>0|3=>3|4=>4|5=>5|9=>9|20=>20|21=>21|37=>74|46=>177|51=>198|70=>73|72=>76|75=>78|80=>82|116=>121|117=>122|124=>125|146=>199|164=>111|n=>n,fun|1=>0|n=>n⟩
theorem laysM152:Lays.n152 Tryz.prog shelfRenM:= {
 mixed:=by kernel_rfl
 f119:=Tryz.func178.trans (congrArg some (by kernel_rfl))
 f137:=Tryz.func48.trans (congrArg some (by kernel_rfl))
 f152:=Tryz.func126.trans (congrArg some (by kernel_rfl))
 f217:=Tryz.func79.trans (congrArg some (by kernel_rfl))
 f224:=Tryz.func176.trans (congrArg some (by kernel_rfl))
 f225:=Tryz.func175.trans (congrArg some (by kernel_rfl))
 f266:=Tryz.func125.trans (congrArg some (by kernel_rfl))
 t0:=Tryz.underlying0
 a0:=Tryz.isAgg0
 z0:=Tryz.sizeOf0
 v0:=Tryz.zeroValue0
 t3:=Tryz.underlying3
 a3:=Tryz.isAgg3
 z3:=Tryz.sizeOf3
 v3:=Tryz.zeroValue3
 t4:=Tryz.underlying4
 a4:=Tryz.isAgg4
 z4:=Tryz.sizeOf4
 v4:=Tryz.zeroValue4
 t5:=Tryz.underlying5
 a5:=Tryz.isAgg5
 z5:=Tryz.sizeOf5
 v5:=Tryz.zeroValue5
 t9:=Tryz.underlying9
 a9:=Tryz.isAgg9
 z9:=Tryz.sizeOf9
 v9:=Tryz.zeroValue9
 t21:=Tryz.underlying21
 a21:=Tryz.isAgg21
 z21:=Tryz.sizeOf21
 v21:=Tryz.zeroValue21
 t46:=Tryz.underlying177
 a46:=Tryz.isAgg177
 z46:=Tryz.sizeOf177
 v46:=Tryz.zeroValue177}
theorem laysM153:Lays.n153 Tryz.prog shelfRenM:= {
 mixed:=by kernel_rfl
 f119:=Tryz.func178.trans (congrArg some (by kernel_rfl))
 f137:=Tryz.func48.trans (congrArg some (by kernel_rfl))
 f152:=Tryz.func126.trans (congrArg some (by kernel_rfl))
 f153:=Tryz.func80.trans (congrArg some (by kernel_rfl))
 f217:=Tryz.func79.trans (congrArg some (by kernel_rfl))
 f224:=Tryz.func176.trans (congrArg some (by kernel_rfl))
 f225:=Tryz.func175.trans (congrArg some (by kernel_rfl))
 f226:=Tryz.func127.trans (congrArg some (by kernel_rfl))
 f227:=Tryz.func88.trans (congrArg some (by kernel_rfl))
 f228:=Tryz.func128.trans (congrArg some (by kernel_rfl))
 f266:=Tryz.func125.trans (congrArg some (by kernel_rfl))
 t0:=Tryz.underlying0
 a0:=Tryz.isAgg0
 z0:=Tryz.sizeOf0
 v0:=Tryz.zeroValue0
 t3:=Tryz.underlying3
 a3:=Tryz.isAgg3
 z3:=Tryz.sizeOf3
 v3:=Tryz.zeroValue3
 t4:=Tryz.underlying4
 a4:=Tryz.isAgg4
 z4:=Tryz.sizeOf4
 v4:=Tryz.zeroValue4
 t5:=Tryz.underlying5
 a5:=Tryz.isAgg5
 z5:=Tryz.sizeOf5
 v5:=Tryz.zeroValue5
 t9:=Tryz.underlying9
 a9:=Tryz.isAgg9
 z9:=Tryz.sizeOf9
 v9:=Tryz.zeroValue9
 t21:=Tryz.underlying21
 a21:=Tryz.isAgg21
 z21:=Tryz.sizeOf21
 v21:=Tryz.zeroValue21
 t46:=Tryz.underlying177
 a46:=Tryz.isAgg177
 z46:=Tryz.sizeOf177
 v46:=Tryz.zeroValue177
 t116:=Tryz.underlying121
 a116:=Tryz.isAgg121
 z116:=Tryz.sizeOf121
 t117:=Tryz.underlying122
 a117:=Tryz.isAgg122
 z117:=Tryz.sizeOf122
 v117:=Tryz.zeroValue122
 t124:=Tryz.underlying125
 a124:=Tryz.isAgg125
 z124:=Tryz.sizeOf125
 v124:=Tryz.zeroValue125}
theorem laysM167:Lays.n167 Tryz.prog shelfRenM:= {
 mixed:=by kernel_rfl
 f167:=Tryz.func34.trans (congrArg some (by kernel_rfl))
 f240:=Tryz.func46.trans (congrArg some (by kernel_rfl))
 f276:=Tryz.func76.trans (congrArg some (by kernel_rfl))
 t0:=Tryz.underlying0
 a0:=Tryz.isAgg0
 z0:=Tryz.sizeOf0
 v0:=Tryz.zeroValue0
 t4:=Tryz.underlying4
 a4:=Tryz.isAgg4
 z4:=Tryz.sizeOf4
 v4:=Tryz.zeroValue4
 t5:=Tryz.underlying5
 a5:=Tryz.isAgg5
 z5:=Tryz.sizeOf5
 v5:=Tryz.zeroValue5
 t9:=Tryz.underlying9
 a9:=Tryz.isAgg9
 z9:=Tryz.sizeOf9
 v9:=Tryz.zeroValue9
 t20:=Tryz.underlying20
 a20:=Tryz.isAgg20
 z20:=Tryz.sizeOf20
 v20:=Tryz.zeroValue20
 t37:=Tryz.underlying74
 a37:=Tryz.isAgg74
 z37:=Tryz.sizeOf74
 v37:=Tryz.zeroValue74
 t70:=Tryz.underlying73
 a70:=Tryz.isAgg73
 z70:=Tryz.sizeOf73
 v70:=Tryz.zeroValue73
 t72:=Tryz.underlying76
 a72:=Tryz.isAgg76
 z72:=Tryz.sizeOf76
 v72:=Tryz.zeroValue76
 t75:=Tryz.underlying78
 a75:=Tryz.isAgg78
 z75:=Tryz.sizeOf78
 v75:=Tryz.zeroValue78
 t164:=Tryz.underlying111
 a164:=Tryz.isAgg111
 z164:=Tryz.sizeOf111
 v164:=Tryz.zeroValue111}
theorem shelfExtraM:Builder.Extra Tryz.prog shelfRenM:= {
 sizeBuilder:=by kernel_rfl
 liesBuilder:=by kernel_rfl
 t5:=Tryz.underlying5
 a5:=Tryz.isAgg5
 z5:=Tryz.sizeOf5
 v5:=Tryz.zeroValue5
 infoByte:=by kernel_rfl
 cellsByte:=by kernel_rfl
 sizeByte:=by kernel_rfl
 neB5:=by decide}
theorem IndexRune_ascii_any (s:ByteArray) (r:Int) (w:World) (h0:0≤r) (h1:r<128) :
 Calls Tryz.prog 126 #[.string s,.int .i32 r] w fun e w'=>e= .returned (.int .i64 (Lib.indexByte s.data.toList r.toNat.toUInt8))∧w'=w:=Any.strings_IndexRune_ascii laysM152 s r w h0 h1
theorem IndexAny_one_any (s chars:ByteArray) (w:World) (h1:chars.size=1) (hascii: ∀(j:Nat) b,chars.data.toList[j]?=some b→b.toNat<128) :
 Calls Tryz.prog 80 #[.string s,.string chars] w fun e w'=>e= .returned (.int .i64 (Lib.indexAny s.data.toList chars.data.toList))∧w'=w:=Any.strings_IndexAny_one laysM153 s chars w h1 hascii
theorem ascii_info:(Tryz.prog.info? (shelfRenM.t 116)).map (fun i=>(i.zero,i.size))=some (some (.agg (Array.replicate 256 (.bool false))),256):=by kernel_rfl
theorem IndexAny_long_any (s chars:ByteArray) (w:World) (h2:2≤chars.size) (h8:8<s.size) (hs:s.size<4294967281) (hcs:chars.size<4294967281)
 (hascii: ∀(j:Nat) b,chars.data.toList[j]?=some b→b.toNat<128) :
 Calls Tryz.prog 80 #[.string s,.string chars] w fun e w'=>e= .returned (.int .i64 (Lib.indexAny s.data.toList chars.data.toList))∧Below w.heap.size w w' :=
 (Any.strings_IndexAny_long laysM153 (zero_of_info ascii_info).1 (zero_of_info ascii_info).2 s chars w h2 h8 hs hcs hascii).mono fun e w' ⟨h1,h2⟩=>⟨h1,by
   rw[h2]
   exact((Below.refl _ _).alloc (Nat.le_refl _) _).alloc (by simp) _⟩
theorem WriteByte_any (B b:Nat) (bs:List Value) (c:Int) (w:World) (h:Lib.IsBuilderF 76 5 B b bs w) (hlen:bs.length+1≤140737488355328) (hBw:B≤w.heap.size) :
 Calls Tryz.prog 34 #[.pointer (some ⟨b,0,none⟩),.int .u8 c] w fun e w'=>e= .returned .nilIface∧(Lib.BuilderAtF 76 5 B b (.pointer (some ⟨b,0,none⟩)) (bs++ [.int .u8 c]) w'∧Below B w w'∧Lib.OthersKept 5 (some b) w w'):=Any.Builder_WriteByte_k laysM167 shelfExtraM B b bs c w h hlen hBw
end Go.Proofs.YtpnagbgpbajfeaaGreatDoor.Rd
end
section
namespace Go.Proofs.YtpnagbgpbajfeaaGreatDoor.Rd
open Go Go.RowKit Mem
theorem wp_region_calm {P:Program} {id:Nat} {Q:Exit→Act→World→Prop} {a:Act} {w:World} {l:List Oper} (hm:P.follows .mixedOrders=true) (hB:Region.lexB .any l.toArray=true)
 (h:wpQuiet P l.toArray (fun w'=>Hid (Below w.heap.size w w')) (fun a'=> ∀w',Hid (Below w.heap.size w w')→Q .normal a' w') l a):(Code.region id l.toArray true).wp P Q a w :=
 wp_region_quiet (C:=fun w'=>Hid (Below w.heap.size w w')) hm hB (Lib.hid (Below.refl _ w).drew) (by simpa using h)
theorem calm_skip {P:Program} {ops:Array Oper} {o:Oper} {a:Act} {C:World→Prop} {K:Act→Prop} (hw:Region.wanted o (yielded ops a.tmps)=false) (h:K (a.put o.dst undef)) :
 if Region.wanted o (yielded ops a.tmps)then o.quiet P a C K else K (a.put o.dst undef):=by
 rw[if_neg (by rw[hw];decide)];exact h
theorem calm_run {P:Program} {ops:Array Oper} {o:Oper} {a:Act} {C:World→Prop} {K:Act→Prop} {v:Value} (hw:Region.wanted o (yielded ops a.tmps)=true) (h: ∀w,C w→o.quietAt P a C w v) (hk:K (a.put o.dst v)) :
 if Region.wanted o (yielded ops a.tmps)then o.quiet P a C K else K (a.put o.dst undef):=by
 rw[if_pos hw];exact⟨v,h,hk⟩
end Go.Proofs.YtpnagbgpbajfeaaGreatDoor.Rd
end
section
namespace Go.Proofs.YtpnagbgpbajfeaaGreatDoor.Rd
open Mem
def chars (a b:Nat):Str:=encF a++(if 0<b then encF b else [])
end Go.Proofs.YtpnagbgpbajfeaaGreatDoor.Rd
end
section
namespace Go.Proofs.YtpnagbgpbajfeaaGreatDoor.Rd
open Go.RowKit Mem
def strB (l:Str):ByteArray:=⟨l.toArray⟩
theorem ext_list (s:ByteArray) (a b:Nat):(s.extract a b).toList=(s.toList.drop a).take (b-a):=by
 rw[Lib.extract_toList,ByteArray.toList_eq]
end Go.Proofs.YtpnagbgpbajfeaaGreatDoor.Rd
end
section
namespace Go.Proofs.YtpnagbgpbajfeaaGreatDoor.Rd
open Go.RowKit Mem
theorem toList_strB (l:Str):(strB l).toList=l:=by rw[ByteArray.toList_eq];rfl
end Go.Proofs.YtpnagbgpbajfeaaGreatDoor.Rd
end
section
namespace Go.Proofs.YtpnagbgpbajfeaaGreatDoor.Rd.Mem
open Go Go.RowKit
theorem own_kept {w w':World} {base:Nat} {e:TypeId} {size:Nat} {v:Value} {n:Nat} {xs:List Value} (h:w.ownsRow base e size v n xs) (hb: ∀g,v.ownBlock=some g→w'.heap[g]?=w.heap[g]?):w'.ownsRow base e size v n xs:=by
 obtain⟨h1,h2⟩:=h
 refine⟨h1,?_⟩
 rcases h2 with h2|⟨g,cap,cur,rfl,hg,hh,r⟩
 ·exact .inl h2
 ·exact .inr ⟨g,cap,cur,rfl,hg,(hb g rfl).trans hh,r⟩
theorem own_below {w w':World} {base:Nat} {e:TypeId} {size:Nat} {v:Value} {n:Nat} {xs:List Value} (h:w.ownsRow base e size v n xs) (hb:Below w.heap.size w w'):w'.ownsRow base e size v n xs :=
 own_kept h fun g hg=>hb.block g (h.lt g hg).2
theorem own_row {w:World} {base:Nat} {e:TypeId} {size g:Nat} {n c:Nat} {xs:List Value} (h:w.ownsRow base e size (.slice (some ⟨g,0,none⟩) n c) n xs):Row w g xs:=by
 rcases h.2 with⟨h',_⟩|⟨g',cap,cur,h',_,hg,_,_,_,ht⟩
 ·cases h'
 ·cases h'
  exact⟨cur,e,0,0,hg,by rw[h.1];exact ht,.inr rfl⟩
theorem own_at {w:World} {base:Nat} {e:TypeId} {size:Nat} {v:Value} {n:Nat} {xs:List Value} (h:w.ownsRow base e size v n xs) :
 ∃a c,v= .slice a n c∧n≤c∧c≤maxLen∧(a=none→c=0)∧At w a xs:=by
 obtain⟨h1,h2⟩:=h
 rcases h2 with⟨rfl,rfl⟩|⟨g,cap,cur,rfl,hg,hh,r1,r2,r3,r4⟩
 ·have:xs= []:=List.eq_nil_of_length_eq_zero (by simpa using h1)
  subst this
  exact⟨none,0,rfl,Nat.le_refl _,Nat.zero_le _,fun _=>rfl,At.nil _ _⟩
 ·exact⟨some ⟨g,0,none⟩,cap,rfl,r1,r2,(fun h=>by cases h),(own_row (base:=base) (e:=e) (size:=size) ⟨h1,.inr ⟨g,cap,cur,rfl,hg,hh,r1,r2,r3,r4⟩⟩).at⟩
end Go.Proofs.YtpnagbgpbajfeaaGreatDoor.Rd.Mem
end
section
namespace Go.Proofs.YtpnagbgpbajfeaaGreatDoor.Rd.Mem
open Go Go.RowKit
structure Keeps (F:Nat→Prop) (w w':World):Prop where
 os:w'.os=w.os
 tape:w'.tape=w.tape
 output:w'.output=w.output
 size:w.heap.size≤w'.heap.size
 block: ∀k,k<w.heap.size→ ¬F k→w'.heap[k]?=w.heap[k]?
theorem Keeps.refl (F:Nat→Prop) (w:World):Keeps F w w:=⟨rfl,rfl,rfl,Nat.le_refl _,fun _ _ _=>rfl⟩
theorem Keeps.trans {F:Nat→Prop} {a b c:World} (h:Keeps F a b) (k:Keeps F b c):Keeps F a c :=
 ⟨k.os.trans h.os,k.tape.trans h.tape,k.output.trans h.output,Nat.le_trans h.size k.size,fun i hi hF=>(k.block i (Nat.lt_of_lt_of_le hi h.size) hF).trans (h.block i hi hF)⟩
theorem Keeps.ofBelow {F:Nat→Prop} {w w':World} (h:Below w.heap.size w w'):Keeps F w w':=⟨h.os,h.tape,h.output,h.size,fun k hk _=>h.block k hk⟩
theorem Keeps.set {F:Nat→Prop} {a w:World} (h:Keeps F a w) {p:Addr} (hp:F p.block∨a.heap.size≤p.block) (u:Value):Keeps F a (w.setCell p u) :=
 ⟨h.os,h.tape,h.output,by rw[World.size_setCell];exact h.size,fun k hk hF=>by
  have hne:k≠p.block:=by
   intro e
   rcases hp with hp|hp
   ·exact hF (e▸hp)
   ·omega
  rw[heap_setCell_other _ _ _ _ hne];exact h.block k hk hF⟩
theorem Keeps.alloc {F:Nat→Prop} {a w:World} (h:Keeps F a w) (o:Obj):Keeps F a (w.alloc o) :=
 ⟨h.os,h.tape,h.output,by rw[World.size_alloc];have:=h.size;omega,fun k hk hF=>(Below.heap_alloc w o k (Nat.lt_of_lt_of_le hk h.size)).trans (h.block k hk hF)⟩
theorem Keeps.drew {F:Nat→Prop} {a w:World} (h:Keeps F a w):Keeps F a w.drew:=⟨h.os,h.tape,h.output,h.size,h.block⟩
end Go.Proofs.YtpnagbgpbajfeaaGreatDoor.Rd.Mem
end
section
namespace Go.Proofs.YtpnagbgpbajfeaaGreatDoor.Rd
open Go.RowKit Mem
theorem strB_size (l:Str):(strB l).size=l.length:=by rw[←size_toList,toList_strB]
end Go.Proofs.YtpnagbgpbajfeaaGreatDoor.Rd
end
section
namespace Go.Proofs.YtpnagbgpbajfeaaGreatDoor.Rd
open Go.RowKit Mem
theorem ext_drop' (s:ByteArray) (a:Nat):(s.extract a s.size).toList=s.toList.drop a:=by
 rw[ext_list,List.take_of_length_le (by rw[List.length_drop,size_toList];omega)]
theorem bytesV_two (l r:Str):bytesV (l++r)=bytesV l++bytesV r:=by simp[bytesV]
theorem builder_below {T e:TypeId} {B b:Nat} {bs:List Value} {w w':World} (h:Lib.IsBuilderF T e B b bs w) (hb:Below w.heap.size w w'):Lib.IsBuilderF T e B b bs w':=by
 have key: ∀p,Lib.BuilderAtF T e B b p bs w→Lib.BuilderAtF T e B b p bs w':=fun p hp=>by
  have hlt:=hp.lt
  obtain⟨hB,v,hh,hown,hne⟩:=hp
  exact⟨hB,v,(hb.block b hlt).trans hh,hown.kept (row:=none) ⟨hb.os,hb.tape,hb.output,hb.size,fun k hk _=>hb.block k hk⟩ (by cases hv:v.ownBlock <;>simp),hne⟩
 exact h.imp (key _) (key _)
end Go.Proofs.YtpnagbgpbajfeaaGreatDoor.Rd
end
