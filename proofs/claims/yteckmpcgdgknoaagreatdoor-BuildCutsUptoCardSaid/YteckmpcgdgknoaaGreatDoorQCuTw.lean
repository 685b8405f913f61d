/-
  Rw2 lists of marks that a law makes, side by side: a mark more on one of them. No conditions beyond those that each lemma types.
-/
import Derived.Test.YteckmpcgdgknoaaGreatDoorQCuMa
import Derived.Test.YteckmpcgdgknoaaGreatDoorQBuNs
import Derived.Maps.AppendAt
set_option linter.unusedVariables false
set_option linter.unusedSimpArgs false
namespace Go.Proofs.YteckmpcgdgknoaaGreatDoor
open Go.RowKit Mem
theorem info_mark5:(Tryz.prog.info? 27).map (fun i=>(i.zero,i.size,i.bytes))=some (some (.agg #[.int .i64 0,.string ⟨#[]⟩,.slice none 0 0,.bool false,.string ⟨#[]⟩]),5,72):=by kernel_rfl
theorem mks_push (l:List MkA) (x:MkA):mksV (l++ [x])=mksV l++mkV x:=by
 unfold mksV
 rw[List.map_append,List.flatten_append]
 simp
theorem mkV_one (x:MkA): ∀u∈mkV x,u.oneCell'=true:=by
 intro u hu
 unfold mkV at hu
 simp only[List.mem_cons,List.not_mem_nil,or_false]at hu
 rcases hu with rfl|rfl|rfl|rfl|rfl <;>rfl
structure Rw2 (w:World) (own odd:List MkA) (vo vd:Value) (wr:World):Prop where
 below:Below w.heap.size w wr
 ro:wr.ownsRow w.heap.size 27 5 vo own.length (mksV own)
 rd:wr.ownsRow w.heap.size 27 5 vd odd.length (mksV odd)
 dif: ∀g,vo.ownBlock=some g→vd.ownBlock≠some g
 mo: ∀x∈own,MA Non w x.m x.a x.c
 md: ∀x∈odd,MA Non w x.m x.a x.c
section
variable {w wr w':World} {own odd:List MkA} {vo vd v':Value}
theorem Rw2.nil (h:Below w.heap.size w wr):Rw2 w [] [] (.slice none 0 0) (.slice none 0 0) wr :=
 ⟨h,World.ownsRow_nil _ _ _ _,World.ownsRow_nil _ _ _ _,fun g h=>(by cases h),fun x h=>(by cases h),fun x h=>(by cases h)⟩
theorem Rw2.swap (h:Rw2 w own odd vo vd wr):Rw2 w odd own vd vo wr:=⟨h.below,h.rd,h.ro,fun g h1 h2=>h.dif g h2 h1,h.md,h.mo⟩
theorem Rw2.world (h:Rw2 w own odd vo vd wr) (hb:Below wr.heap.size wr w'):Rw2 w own odd vo vd w' :=
 ⟨belowCall h.below hb,own_kept h.ro fun g hg=>hb.block g (h.ro.lt g hg).2,own_kept h.rd fun g hg=>hb.block g (h.rd.lt g hg).2,h.dif,h.mo,h.md⟩
theorem Rw2.other (h:Rw2 w own odd vo vd wr) {g:Nat} (hg:w.heap.size≤g) (ho:vo.ownBlock≠some g) (hd:vd.ownBlock≠some g) (j:Nat) (x:Value):Rw2 w own odd vo vd (wr.setCell ⟨g,j,none⟩ x) :=
 ⟨h.below.setCell (p:=⟨g,j,none⟩) hg x,own_kept h.ro fun k hk=>heap_setCell_other _ _ _ _ (fun e=>ho (by rw[hk];exact congrArg some e)),own_kept h.rd fun k hk=>heap_setCell_other _ _ _ _ (fun e=>hd (by rw[hk];exact congrArg some e)),h.dif,h.mo,h.md⟩
theorem Rw2.push (h:Rw2 w own odd vo vd wr) {x:MkA} (hx:MA Non w x.m x.a x.c) (ho:w'.ownsRow w.heap.size 27 5 v' (own.length+1) (mksV own++mkV x)) (hg:wr.grownBy w' vo.ownBlock) (ha:v'.ownBlock=vo.ownBlock∨v'.ownBlock=some wr.heap.size):Rw2 w (own++ [x]) odd v' vd w':=by
 refine⟨h.below.grown hg h.below.size fun k hk=>(h.ro.lt k hk).1,?_,?_,?_,?_,h.md⟩
 ·rw[mks_push,List.length_append]
  exact ho
 ·exact own_kept h.rd fun g hg'=>hg.block g (h.rd.lt g hg').2 fun e=>h.dif g e.symm hg'
 ·intro g h1 h2
  rcases ha with e|e
  ·rw[e]at h1
   exact h.dif g h1 h2
  ·rw[e]at h1
   cases h1
   have:=(h.rd.lt _ h2).2
   omega
 ·intro y hy
  rcases List.mem_append.1 hy with hy|hy
  ·exact h.mo y hy
  ·rw[List.mem_singleton.1 hy];exact hx
theorem Rw2.stays (h:Rw2 w own odd vo vd wr) (hg:wr.grownBy w' vo.ownBlock) {k:Nat} {o:Obj} (hk:wr.heap[k]?=some o) (ho:vo.ownBlock≠some k):w'.heap[k]?=some o :=
 (hg.block k (row_lt hk) fun e=>ho e.symm).trans hk
theorem Rw2.fresh (h:Rw2 w own odd vo vd wr):vo.ownBlock≠some wr.heap.size∧vd.ownBlock≠some wr.heap.size:=by
 refine⟨fun e=> ?_,fun e=> ?_⟩
 ·have:=(h.ro.lt _ e).2;omega
 ·have:=(h.rd.lt _ e).2;omega
theorem Rw2.marks (h:Rw2 w own odd vo vd wr) (hl:own.length≤2000000000000) (ht:txtN own≤1000000000000):Calls Tryz.prog 6 #[vo] wr fun r v=> ∃cs,r= .returned (.tuple #[.agg cs.toArray,.int .i64 (marksB own).endE])∧NodeC (· <wr.heap.size) v cs (marksB own).endN∧Below wr.heap.size wr v:=by
 obtain⟨a,c,rfl, -, -, -,hat⟩:=own_at h.ro
 refine Marks_any own a c wr hl hat (fun x hx=> ?_) ht
 obtain⟨h1,h2,h3,h4,h5,h6⟩:=h.mo x hx
 exact⟨h1.kept (Keeps.ofBelow (F:=Non) h.below),h2,h3,h4,h5,h6⟩
theorem all_kinds {l:List MkA} (h: ∀x∈l,x.m.kind≠6):marksB l=newB.runs (l.map (·.m)):=by
 unfold marksB
 congr 1
 have:=upto_all (l:=l) (k:=l.length) (Nat.le_refl _) (by rw[List.take_of_length_le (Nat.le_refl _)];exact h)
 rw[this,List.take_of_length_le (Nat.le_refl _),List.drop_eq_nil_of_le (Nat.le_refl _)]
 simp
theorem txt_app (A B:List MkA):txtN (A++B)=txtN A+txtN B:=by
 induction A with
 |nil=>rw[List.nil_append,txtN,Nat.zero_add]
 |cons x A ih=>rw[List.cons_append,txtN,txtN,ih,Nat.add_assoc]
end
end Go.Proofs.YteckmpcgdgknoaaGreatDoor
