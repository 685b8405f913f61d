/- Texts joined for a claim: RMemB, RTreeMem, RRefsL, RRefsP: plain laws and contracts. No conditions beyond those that each lemma types. -/
import Derived.Test.YtgepobccoffnaaaGreatDoorT33
import Derived.BigQuiet
import Derived.Deep.QuietTactic
import Derived.Deep.RegionWith
import Derived.Deep.WholeRow
import Derived.LoopTactic
import Derived.Lib.IndexLaws
set_option linter.unusedVariables false
set_option linter.unusedSimpArgs false
section
namespace Go.Proofs.YtgepobccoffnaaaGreatDoor.Rd.Mem
open Go Go.RowKit
theorem own_kept {w w':World} {base:Nat} {e:TypeId} {size:Nat} {v:Value} {n:Nat} {xs:List Value} (h:w.ownsRow base e size v n xs) (hb: ∀g,v.ownBlock=some g→w'.heap[g]?=w.heap[g]?):w'.ownsRow base e size v n xs:=by
 obtain⟨h1,h2⟩:=h
 refine⟨h1,?_⟩
 rcases h2 with h2|⟨g,cap,cur,rfl,hg,hh,r⟩
 ·exact .inl h2
 ·exact .inr ⟨g,cap,cur,rfl,hg,(hb g rfl).trans hh,r⟩
theorem own_below {w w':World} {base:Nat} {e:TypeId} {size:Nat} {v:Value} {n:Nat} {xs:List Value} (h:w.ownsRow base e size v n xs) (hb:Below w.heap.size w w'):w'.ownsRow base e size v n xs :=
 own_kept h fun g hg=>hb.block g (h.lt g hg).2
theorem own_row {w:World} {base:Nat} {e:TypeId} {size g:Nat} {n c:Nat} {xs:List Value} (h:w.ownsRow base e size (.slice (some ⟨g,0,none⟩) n c) n xs):Row w g xs:=by
 rcases h.2 with⟨h',_⟩|⟨g',cap,cur,h',_,hg,_,_,_,ht⟩
 ·cases h'
 ·cases h'
  exact⟨cur,e,0,0,hg,by rw[h.1];exact ht,.inr rfl⟩
theorem own_at {w:World} {base:Nat} {e:TypeId} {size:Nat} {v:Value} {n:Nat} {xs:List Value} (h:w.ownsRow base e size v n xs) :
 ∃a c,v= .slice a n c∧n≤c∧c≤maxLen∧(a=none→c=0)∧At w a xs:=by
 obtain⟨h1,h2⟩:=h
 rcases h2 with⟨rfl,rfl⟩|⟨g,cap,cur,rfl,hg,hh,r1,r2,r3,r4⟩
 ·have:xs= []:=List.eq_nil_of_length_eq_zero (by simpa using h1)
  subst this
  exact⟨none,0,rfl,Nat.le_refl _,Nat.zero_le _,fun _=>rfl,At.nil _ _⟩
 ·exact⟨some ⟨g,0,none⟩,cap,rfl,r1,r2,(fun h=>by cases h),(own_row (base:=base) (e:=e) (size:=size) ⟨h1,.inr ⟨g,cap,cur,rfl,hg,hh,r1,r2,r3,r4⟩⟩).at⟩
end Go.Proofs.YtgepobccoffnaaaGreatDoor.Rd.Mem
end
section
namespace Go.Proofs.YtgepobccoffnaaaGreatDoor.Rd.Mem
open Go Go.RowKit
structure Keeps (F:Nat→Prop) (w w':World):Prop where
 os:w'.os=w.os
 tape:w'.tape=w.tape
 output:w'.output=w.output
 size:w.heap.size≤w'.heap.size
 block: ∀k,k<w.heap.size→ ¬F k→w'.heap[k]?=w.heap[k]?
theorem Keeps.refl (F:Nat→Prop) (w:World):Keeps F w w:=⟨rfl,rfl,rfl,Nat.le_refl _,fun _ _ _=>rfl⟩
theorem Keeps.trans {F:Nat→Prop} {a b c:World} (h:Keeps F a b) (k:Keeps F b c):Keeps F a c :=
 ⟨k.os.trans h.os,k.tape.trans h.tape,k.output.trans h.output,Nat.le_trans h.size k.size,fun i hi hF=>(k.block i (Nat.lt_of_lt_of_le hi h.size) hF).trans (h.block i hi hF)⟩
theorem Keeps.ofBelow {F:Nat→Prop} {w w':World} (h:Below w.heap.size w w'):Keeps F w w':=⟨h.os,h.tape,h.output,h.size,fun k hk _=>h.block k hk⟩
theorem Keeps.set {F:Nat→Prop} {a w:World} (h:Keeps F a w) {p:Addr} (hp:F p.block∨a.heap.size≤p.block) (u:Value):Keeps F a (w.setCell p u) :=
 ⟨h.os,h.tape,h.output,by rw[World.size_setCell];exact h.size,fun k hk hF=>by
  have hne:k≠p.block:=by
   intro e
   rcases hp with hp|hp
   ·exact hF (e▸hp)
   ·omega
  rw[heap_setCell_other _ _ _ _ hne];exact h.block k hk hF⟩
theorem Keeps.alloc {F:Nat→Prop} {a w:World} (h:Keeps F a w) (o:Obj):Keeps F a (w.alloc o) :=
 ⟨h.os,h.tape,h.output,by rw[World.size_alloc];have:=h.size;omega,fun k hk hF=>(Below.heap_alloc w o k (Nat.lt_of_lt_of_le hk h.size)).trans (h.block k hk hF)⟩
theorem Keeps.drew {F:Nat→Prop} {a w:World} (h:Keeps F a w):Keeps F a w.drew:=⟨h.os,h.tape,h.output,h.size,h.block⟩
end Go.Proofs.YtgepobccoffnaaaGreatDoor.Rd.Mem
end
section
namespace Go.Proofs.YtgepobccoffnaaaGreatDoor.Rd
open Go.RowKit Mem
theorem strB_size (l:Str):(strB l).size=l.length:=by rw[←size_toList,toList_strB]
end Go.Proofs.YtgepobccoffnaaaGreatDoor.Rd
end
section
namespace Go.Proofs.YtgepobccoffnaaaGreatDoor.Rd
open Go.RowKit Mem
theorem ext_drop' (s:ByteArray) (a:Nat):(s.extract a s.size).toList=s.toList.drop a:=by
 rw[ext_list,List.take_of_length_le (by rw[List.length_drop,size_toList];omega)]
theorem bytesV_two (l r:Str):bytesV (l++r)=bytesV l++bytesV r:=by simp[bytesV]
theorem builder_below {T e:TypeId} {B b:Nat} {bs:List Value} {w w':World} (h:Lib.IsBuilderF T e B b bs w) (hb:Below w.heap.size w w'):Lib.IsBuilderF T e B b bs w':=by
 have key: ∀p,Lib.BuilderAtF T e B b p bs w→Lib.BuilderAtF T e B b p bs w':=fun p hp=>by
  have hlt:=hp.lt
  obtain⟨hB,v,hh,hown,hne⟩:=hp
  exact⟨hB,v,(hb.block b hlt).trans hh,hown.kept (row:=none) ⟨hb.os,hb.tape,hb.output,hb.size,fun k hk _=>hb.block k hk⟩ (by cases hv:v.ownBlock <;>simp),hne⟩
 exact h.imp (key _) (key _)
end Go.Proofs.YtgepobccoffnaaaGreatDoor.Rd
end
