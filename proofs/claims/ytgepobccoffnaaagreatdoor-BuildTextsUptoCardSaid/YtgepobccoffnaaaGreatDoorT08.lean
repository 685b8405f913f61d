/- Texts joined for a claim: OpenWZ: plain laws and contracts. No conditions beyond those that each lemma types. -/
import Derived.Test.YtgepobccoffnaaaGreatDoorT01
import Derived.Test.YtgepobccoffnaaaGreatDoorT06
import Derived.Lib.BufferMore
set_option linter.unusedVariables false
set_option linter.unusedSimpArgs false
set_option maxRecDepth 100000
set_option maxHeartbeats 8000000
section
namespace Go.Proofs.YtgepobccoffnaaaGreatDoor
open Go.RowKit Mem
def Deep:Nat→TreeD→Int→Prop
 |0,_,_=>False
 |k+1,T,n=> ∀x∈kidsF T n,Deep k T x
def emptyNT:NT:= .mk 0 0 ⟨#[]⟩ [] ⟨#[]⟩ []
def readN:Nat→TreeD→Int→NT
 |0,_,_=>emptyNT
 |k+1,T,n=>match T.nodes[n.toNat]? with
  |none=>emptyNT
  |some d=>if d.elem then .mk 1 d.space d.name d.attrs ⟨#[]⟩ ((kidsF T n).map (readN k T))else .mk 2 0 ⟨#[]⟩ [] d.text []
theorem readN_elem (k:Nat) (T:TreeD) (i:Nat) (h:i<T.nodes.length) (he:T.nodes[i].elem=true) :
 readN (k+1) T i= .mk 1 T.nodes[i].space T.nodes[i].name T.nodes[i].attrs ⟨#[]⟩ (T.nodes[i].kids.map (readN k T)):=by
 simp[readN,h,he,kidsF]
theorem readN_text (k:Nat) (T:TreeD) (i:Nat) (h:i<T.nodes.length) (he:T.nodes[i].elem=false):readN (k+1) T i= .mk 2 0 ⟨#[]⟩ [] T.nodes[i].text []:=by
 simp[readN,h,he]
end Go.Proofs.YtgepobccoffnaaaGreatDoor
namespace Go.Proofs.YtgepobccoffnaaaGreatDoor
open Go.RowKit Mem
theorem info_out:(Tryz.prog.info? 26).map (fun i=>(i.zero,i.size,i.bytes))=some (some (.agg #[.int .i64 0,.int .i64 0,.string ⟨#[]⟩,.slice none 0 0,.string ⟨#[]⟩,.slice none 0 0]),6,96):=by kernel_rfl
theorem size_out:(Tryz.prog.info? 26).map (·.size)=some 6:=by kernel_rfl
theorem read_text (T:TreeD) (tb g:Nat) (w:World) (i:Nat) (h1i:1≤i) (hlt:i<T.nodes.length) (he:T.nodes[i].elem=false) (h:TreeO w tb g T) :
 Calls Tryz.prog 32 #[.pointer (some ⟨tb,0,none⟩),.int .i64 i] w fun e w'=> ∃cs,e= .returned (.tuple #[.agg cs.toArray,.int .i64 0])∧NodeC (· <w.heap.size) w' cs (.mk 2 0 ⟨#[]⟩ [] T.nodes[i].text [])∧Below w.heap.size w w':=by
 obtain⟨cap,h1,h2,c0,_,_,_⟩:=h.head
 obtain⟨aa,ac,ka,kc,_,_,hA3,_,_,_,hA,_,hc,_⟩:=h.node hlt
 have d0:=hc 0 _ rfl
 rw[Nat.add_zero,he]at d0
 have d1:=hc 1 _ rfl
 have d2:=hc 2 _ rfl
 have d3:=hc 3 _ rfl
 have d4:=hc 4 _ rfl
 have d5:=hc 5 _ rfl
 have d6:=hc 6 _ rfl
 obtain⟨ht1,ht2⟩:=h.lt
 unfold maxLen at h2
 have hb:=(Below.refl w.heap.size w).alloc (Nat.le_refl _) (.cells #[.int .i64 0,.int .i64 0,.string ⟨#[]⟩,.slice none 0 0,.string ⟨#[]⟩,.slice none 0 0] 26)
 have c0':=cell_later hb c0
 have d0':=cell_later hb d0
 have d1':=cell_later hb d1
 have d2':=cell_later hb d2
 have d3':=cell_later hb d3
 have d4':=cell_later hb d4
 have d5':=cell_later hb d5
 have d6':=cell_later hb d6
 have HI:=Lib.hid (is_any T tb g _ i (h.below hb))
 have hi:isF T i=true:=by simp[isF];omega
 rw[hi]at HI
 clear h hc hA hA3 hb hi
 go_enter Tryz.func32,Tryz.ntmps32
 go_wp2_with (go_at_call 48;go_must (refine HI.out.mono ?_;rintro e w1 ⟨rfl,rfl⟩))
 have hg:((w.alloc (.cells #[.int .i64 2,.int .i64 0,.string ⟨#[]⟩,.slice none 0 0,.string T.nodes[i].text,.slice none 0 0] 26)).alloc (.cells #[.bool false,.int .i64 T.nodes[i].space,.string T.nodes[i].name,.slice aa T.nodes[i].attrs.length ac,.string T.nodes[i].text,.int .i64 T.nodes[i].parent,.slice ka T.nodes[i].kids.length kc] 92)).heap[w.heap.size]?=some (.cells #[.int .i64 2,.int .i64 0,.string ⟨#[]⟩,.slice none 0 0,.string T.nodes[i].text,.slice none 0 0] 26 (0,0)) :=
  (Below.heap_alloc _ _ _ (by simp)).trans (heap_alloc_new w _)
 refine bodyPost_ret (ret_node rfl _ _ w.heap.size _ _ _ _ (.int .i64 0) (by rfl) (by rfl) hg Tryz.underlying26 rfl size_out) rfl ?_
 refine⟨nodeV 2 0 ⟨#[]⟩ none 0 0 T.nodes[i].text none 0 0,rfl,?_,((Below.refl _ _).alloc (Nat.le_refl _) _).alloc (by simp) _⟩
 exact .mk (attrs:= []) (kids:= []) [] (Nat.le_refl _) (Nat.zero_le _) (fun _=>rfl) (fun j u hj=>by simp[pairsV]at hj) (Nat.le_refl _) (Nat.zero_le _) (fun _=>rfl) (fun j u hj=>by simp at hj) rfl (fun i h=>by simp at h)
theorem keepN {w2 u:World} {B:Nat} {v1 v2 v3:Value} (hk:Keeps Non w2 u) (hlt:B<w2.heap.size) (x1:w2.cell? ⟨B,1,none⟩=some v1) (x2:w2.cell? ⟨B,2,none⟩=some v2) (x3:w2.cell? ⟨B,3,none⟩=some v3) :
 u.cell? ⟨B,1,none⟩=some v1∧u.cell? ⟨B,2,none⟩=some v2∧u.cell? ⟨B,3,none⟩=some v3:=keepW3 (hk.block B hlt (fun h=>h)) ⟨x1,x2,x3⟩
def put6 (w:World) (O:Nat) (u0 u1 u2 u3 u4 u5:Value):World :=
 (((((w.setCell ⟨O,0,none⟩ u0).setCell ⟨O,1,none⟩ u1).setCell ⟨O,2,none⟩ u2).setCell ⟨O,3,none⟩ u3).setCell ⟨O,4,none⟩ u4).setCell ⟨O,5,none⟩ u5
theorem put6_keeps {F:Nat→Prop} {w2 w4:World} {O:Nat} (u0 u1 u2 u3 u4 u5:Value) (hk:Keeps F w2 w4) (hO:F O∨w2.heap.size≤O):Keeps F w2 (put6 w4 O u0 u1 u2 u3 u4 u5) :=
 (((((hk.set (p:=⟨O,0,none⟩) hO u0).set (p:=⟨O,1,none⟩) hO u1).set (p:=⟨O,2,none⟩) hO u2).set (p:=⟨O,3,none⟩) hO u3).set (p:=⟨O,4,none⟩) hO u4).set (p:=⟨O,5,none⟩) hO u5
theorem put6_heap {w4:World} {O:Nat} {a0 a1 a2 a3 a4 a5:Value} {t:TypeId} (u0 u1 u2 u3 u4 u5:Value) (h:w4.heap[O]?=some (.cells #[a0,a1,a2,a3,a4,a5] t (0,0))) :
 (put6 w4 O u0 u1 u2 u3 u4 u5).heap[O]?=some (.cells #[u0,u1,u2,u3,u4,u5] t (0,0)) :=
 Lib.heap_setCell_same (i:=5) (Lib.heap_setCell_same (i:=4) (Lib.heap_setCell_same (i:=3) (Lib.heap_setCell_same (i:=2) (Lib.heap_setCell_same (i:=1) (Lib.heap_setCell_same (i:=0) h u0) u1) u2) u3) u4) u5
theorem put6_other {w:World} {O k:Nat} (u0 u1 u2 u3 u4 u5:Value) (h:k≠O):(put6 w O u0 u1 u2 u3 u4 u5).heap[k]?=w.heap[k]?:=by
 unfold put6
 rw[heap_setCell_other _ _ _ _ h,heap_setCell_other _ _ _ _ h,heap_setCell_other _ _ _ _ h,heap_setCell_other _ _ _ _ h,heap_setCell_other _ _ _ _ h,heap_setCell_other _ _ _ _ h]
theorem own_type {w:World} {base:Nat} {e t:TypeId} {size O:Nat} {v:Value} {n:Nat} {xs:List Value} {cs:Array Value} {fr:Nat×Nat} (h:w.ownsRow base e size v n xs) (hO:w.heap[O]?=some (.cells cs t fr)) (hne:t≠e): ∀k,v.ownBlock=some k→k≠O:=by
 intro k hk e'
 subst e'
 rcases h.2 with⟨rfl,_⟩|⟨g,cap,cur,rfl,_,hg,_⟩
 ·cases hk
 ·simp only[Value.ownBlock,Option.some.injEq]at hk
  subst hk
  rw[hg]at hO
  cases hO
  exact hne rfl
theorem own_put6 {w:World} {base:Nat} {e:TypeId} {size O:Nat} {v:Value} {n:Nat} {xs:List Value} (u0 u1 u2 u3 u4 u5:Value) (h:w.ownsRow base e size v n xs) (hne: ∀k,v.ownBlock=some k→k≠O):(put6 w O u0 u1 u2 u3 u4 u5).ownsRow base e size v n xs :=
 own_kept h fun k hk=>put6_other _ _ _ _ _ _ (hne k hk)
theorem attr_at {w5:World} {base O:Nat} {v:Value} {n:Nat} {xs:List Value} (h:w5.ownsRow base 57 2 v n xs) (hne: ∀k,v.ownBlock=some k→k≠O) :
 ∃a c,v= .slice a n c∧n≤c∧c≤maxLen∧RowForm a c∧AtF (fun b=>b=O∨b<base) w5 a xs:=by
 obtain⟨a,c,rfl,h1,h2,h3,h4⟩:=own_at h
 refine⟨a,c,rfl,h1,h2,own_form h,AtF.of_new h4 fun b o s ha hb=> ?_⟩
 subst ha
 rcases h.2 with⟨hv,_⟩|⟨g,cap,cur,hv,hg,_⟩
 ·cases hv
 ·cases hv
  rcases hb with hb|hb
  ·exact hne b rfl hb
  ·omega
theorem nodeC_form {F:Nat→Prop} {w:World} {cs:List Value} {n:NT} (h:NodeC F w cs n): ∃f0 f1 f2 f3 f4 f5 f6 f7 f8 f9,cs=nodeV f0 f1 f2 f3 f4 f5 f6 f7 f8 f9:=by
 cases h
 exact⟨_,_,_,_,_,_,_,_,_,_,rfl⟩
structure RD (w5:World) (O:Nat) (u0 u1 u2 u3 u4:Value) (d:Nat) (T:TreeD) (kl:List Int) (k:Nat) (av:Option Addr) (cv:Nat) (css:List (List Value)) (wr:World):Prop where
 cell:wr.heap[O]?=some (.cells #[u0,u1,u2,u3,u4,.slice av k cv] 26 (0,0))
 own:wr.ownsRow w5.heap.size 26 6 (.slice av k cv) k css.flatten
 len:css.length=k
 kids: ∀j (h:j<css.length) (h':j<kl.length),NodeC (fun b=>b<w5.heap.size∨(Value.slice av k cv).ownBlock=some b) wr css[j] (readN d T kl[j])
 keep:Keeps (· =O) w5 wr
section
variable {w5 wr:World} {O:Nat} {u0 u1 u2 u3 u4:Value} {d:Nat} {T:TreeD} {kl:List Int} {k:Nat} {av:Option Addr} {cv:Nat} {css:List (List Value)}
theorem RD.below {w':World} (h:RD w5 O u0 u1 u2 u3 u4 d T kl k av cv css wr) (hb:Below wr.heap.size wr w'):RD w5 O u0 u1 u2 u3 u4 d T kl k av cv css w' where
 cell:=(hb.block O (row_lt h.cell)).trans h.cell
 own:=own_below h.own hb
 len:=h.len
 kids:=fun j h1 h2=>(h.kids j h1 h2).kept (Keeps.ofBelow hb)
 keep:=h.keep.trans (Keeps.ofBelow hb)
theorem RD.push {w8:World} {g c:Nat} {cs:List Value} (h:RD w5 O u0 u1 u2 u3 u4 d T kl k av cv css wr) (hO:O<w5.heap.size) (hk:k<kl.length) (hcs:NodeC (fun b=>b<w5.heap.size∨(Value.slice av k cv).ownBlock=some b) wr cs (readN d T kl[k]))
 (hgr:wr.grownBy w8 (Value.slice av k cv).ownBlock) (hat:(Value.slice av k cv).ownBlock=some g∨g=wr.heap.size) (ho:w8.ownsRow w5.heap.size 26 6 (.slice (some ⟨g,0,none⟩) (k+1) c) (k+1) (css.flatten++cs)) :
 RD w5 O u0 u1 u2 u3 u4 d T kl (k+1) (some ⟨g,0,none⟩) c (css++ [cs]) (w8.setCell ⟨O,5,none⟩ (.slice (some ⟨g,0,none⟩) (k+1) c)):=by
 have hbase:=own_base h.own
 have hgb:w5.heap.size≤g:=(ho.lt g rfl).1
 have hOo:some O≠(Value.slice av k cv).ownBlock:=fun e=>by have:=hbase O e.symm;omega
 have hc8:=(hgr.block O (row_lt h.cell) hOo).trans h.cell
 have hK:Keeps (fun b=>b<w5.heap.size∨(Value.slice av k cv).ownBlock=some b∨b=g) wr (w8.setCell ⟨O,5,none⟩ (.slice (some ⟨g,0,none⟩) (k+1) c)):=by
  refine Keeps.set ⟨hgr.os,hgr.tape,hgr.output,hgr.size,fun b hb hF=>hgr.block b hb fun e=>hF (.inr (.inl e.symm))⟩ (.inl (.inl hO)) _
 have hother: ∀ {x:List Value} {n:NT},NodeC (fun b=>b<w5.heap.size∨(Value.slice av k cv).ownBlock=some b) wr x n→NodeC (fun b=>b<w5.heap.size∨(Value.slice (some ⟨g,0,none⟩) (k+1) c).ownBlock=some b) (w8.setCell ⟨O,5,none⟩ (.slice (some ⟨g,0,none⟩) (k+1) c)) x n:=by
  intro x n hx
  have h1:NodeC (fun b=>b<w5.heap.size∨(Value.slice av k cv).ownBlock=some b∨b=g) wr x n:=hx.other fun b hb hF=>by
   rcases hF with hF|hF|hF
   ·exact .inl hF
   ·exact .inr hF
   ·subst hF
    rcases hat with hat|hat
    ·exact .inr hat
    ·omega
  exact(h1.kept hK).other fun b _ hF=>by
   rcases hF with hF|hF
   ·exact .inl hF
   ·simp only[Value.ownBlock,Option.some.injEq]at hF
    exact .inr (.inr hF.symm)
 refine⟨?_,?_,by simp[h.len],?_,?_⟩
 ·rw[Lib.heap_setCell_same (i:=5) hc8]
  rfl
 ·rw[List.flatten_append]
  simp only[List.flatten_cons,List.flatten_nil,List.append_nil]
  refine own_kept ho fun b hb=> ?_
  simp only[Value.ownBlock,Option.some.injEq]at hb
  subst hb
  exact heap_setCell_other _ _ _ _ (by show g≠O;omega)
 ·intro j hj hj'
  by_cases hlt:j<css.length
  ·have e1:(css++ [cs])[j]'hj=css[j]:=List.getElem_append_left hlt
   rw[e1]
   exact hother (h.kids j hlt hj')
  ·have hjk:j=css.length:=by simp at hj;omega
   subst hjk
   have e1:(css++ [cs])[css.length]'hj=cs:=by simp
   rw[e1]
   have hlen:=h.len
   subst hlen
   exact hother hcs
 ·exact(keeps_grown h.keep hgr hbase).set (.inl rfl) _
end
theorem read_end {w5 wr:World} {O B:Nat} {sp:Int} {nm:ByteArray} {a2:Option Addr} {c2:Nat} {l:List Pair} {d:Nat} {T:TreeD} {kl:List Int} {av:Option Addr} {cv:Nat} {css:List (List Value)} {R:Nat} {b2:Nat}
 (h:RD w5 O (.int .i64 1) (.int .i64 sp) (.string nm) (.slice a2 l.length c2) (.string ⟨#[]⟩) d T kl kl.length av cv css wr) (hO:O<w5.heap.size) (hR:R<w5.heap.size) (hRb:R<b2) (hBb:B≤b2) (hBO:B≤O)
 (s1:l.length≤c2) (s2:c2≤maxLen) (s3:a2=none→c2=0) (s4:AtF (fun b=>b=O∨b<b2) w5 a2 (pairsV l)) (u0 u1 u2 u3 u4 u5:Value) :
 NodeC (· <B) (put6 wr R u0 u1 u2 u3 u4 u5) (nodeV 1 sp nm a2 l.length c2 ⟨#[]⟩ av kl.length cv) (.mk 1 sp nm l ⟨#[]⟩ (kl.map (readN d T))):=by
 have hm:kl.length=(kl.map (readN d T)).length:=by simp
 have e:nodeV 1 sp nm a2 l.length c2 ⟨#[]⟩ av kl.length cv=nodeV 1 sp nm a2 l.length c2 ⟨#[]⟩ av (kl.map (readN d T)).length cv:=by rw[←hm]
 rw[e]
 obtain⟨_,_,hv,p1,p2,p3,p4⟩:=own_atF (F:=(· <w5.heap.size)) h.own (fun _ h=>h)
 obtain⟨rfl,rfl⟩:_∧_:=by simpa only[Value.slice.injEq,true_and] using hv
 have hk1:Keeps (fun b=>b<w5.heap.size) wr (put6 wr R u0 u1 u2 u3 u4 u5):=put6_keeps _ _ _ _ _ _ (Keeps.refl _ _) (.inl hR)
 have s5:AtF (fun b=>b=O∨b<b2) wr a2 (pairsV l):=s4.kept (h.keep.mono fun _ _ hb=> .inl hb)
 have s6:AtF (fun b=>b=O∨b<b2) (put6 wr R u0 u1 u2 u3 u4 u5) a2 (pairsV l):=s5.kept (put6_keeps _ _ _ _ _ _ (Keeps.refl _ _) (.inl (.inr hRb)))
 refine .mk css s1 s2 s3 (s6.other fun b _ hb=> .inr (by omega)) (by rw[←hm];exact p1) p2 p3.nil ((p4.kept hk1).other fun b _ hb=>by omega) (by rw[←hm];exact h.len) ?_
 intro j h1 h2
 have h3:j<kl.length:=by rw[hm];exact h2
 have hh:=(h.kids j h1 h3).kept (put6_keeps u0 u1 u2 u3 u4 u5 (Keeps.refl _ _) (.inl (.inl hR)))
 have e2:(kl.map (readN d T))[j]'h2=readN d T kl[j]:=by simp
 rw[e2]
 exact hh.other fun b _ hb=> .inl (by omega)
theorem keepS6 {w2 w4:World} {B O:Nat} {u0 u1 u2 u3 u4 u5 v1 v2 v3:Value} (hk:Keeps Non w2 w4) (hlt:B<w2.heap.size) (hO:w2.heap.size≤O) (x1:w2.cell? ⟨B,1,none⟩=some v1) (x2:w2.cell? ⟨B,2,none⟩=some v2) (x3:w2.cell? ⟨B,3,none⟩=some v3) :
 ((((((w4.setCell ⟨O,0,none⟩ u0).setCell ⟨O,1,none⟩ u1).setCell ⟨O,2,none⟩ u2).setCell ⟨O,3,none⟩ u3).setCell ⟨O,4,none⟩ u4).setCell ⟨O,5,none⟩ u5).cell? ⟨B,1,none⟩=some v1 ∧
 ((((((w4.setCell ⟨O,0,none⟩ u0).setCell ⟨O,1,none⟩ u1).setCell ⟨O,2,none⟩ u2).setCell ⟨O,3,none⟩ u3).setCell ⟨O,4,none⟩ u4).setCell ⟨O,5,none⟩ u5).cell? ⟨B,2,none⟩=some v2 ∧
 ((((((w4.setCell ⟨O,0,none⟩ u0).setCell ⟨O,1,none⟩ u1).setCell ⟨O,2,none⟩ u2).setCell ⟨O,3,none⟩ u3).setCell ⟨O,4,none⟩ u4).setCell ⟨O,5,none⟩ u5).cell? ⟨B,3,none⟩=some v3 :=
 keepN (put6_keeps u0 u1 u2 u3 u4 u5 hk (.inr hO)) hlt x1 x2 x3
theorem cells6 {w:World} {B:Nat} {v0 v1 v2 v3 v4 v5:Value} {t:TypeId} (h:w.heap[B]?=some (.cells #[v0,v1,v2,v3,v4,v5] t (0,0))) :
 (w.cell? ⟨B,0,none⟩=some v0∧w.cell? ⟨B,1,none⟩=some v1∧w.cell? ⟨B,2,none⟩=some v2∧w.cell? ⟨B,3,none⟩=some v3∧w.cell? ⟨B,4,none⟩=some v4∧w.cell? ⟨B,5,none⟩=some v5) ∧
   w.frozen? ⟨B,0,none⟩=false∧w.frozen? ⟨B,1,none⟩=false∧w.frozen? ⟨B,2,none⟩=false∧w.frozen? ⟨B,3,none⟩=false∧w.frozen? ⟨B,4,none⟩=false∧w.frozen? ⟨B,5,none⟩=false:=by
 simp only[cell_of_row w B _ _ _ _ h,frozen_of_row w B _ _ _ h]
 exact⟨⟨rfl,rfl,rfl,rfl,rfl,rfl⟩,trivial,trivial,trivial,trivial,trivial,trivial⟩
theorem read_elem (T:TreeD) (tb g:Nat) (w:World) (i:Nat) (h1i:1≤i) (hlt:i<T.nodes.length) (he:T.nodes[i].elem=true) (h:TreeO w tb g T) (l:List Pair) (hl:l=T.nodes[i].attrs) (hlen:l.length≤1048576) (d:Nat) (kl:List Int) (hkl:kl=T.nodes[i].kids) (hkn:kl.length≤2097152)
 (hkids: ∀j (h:j<kl.length),∃x:Nat,kl[j]=x∧1≤x∧x<T.nodes.length∧Deep d T x)
 (ih: ∀(u:World) (x:Nat),1≤x→x<T.nodes.length→Deep d T x→TreeO u tb g T→Calls Tryz.prog 32 #[.pointer (some ⟨tb,0,none⟩),.int .i64 x] u fun e u'=> ∃cs,e= .returned (.tuple #[.agg cs.toArray,.int .i64 0])∧NodeC (· <u.heap.size) u' cs (readN d T x)∧Below u.heap.size u u') :
 Calls Tryz.prog 32 #[.pointer (some ⟨tb,0,none⟩),.int .i64 i] w fun e w'=> ∃cs,e= .returned (.tuple #[.agg cs.toArray,.int .i64 0])∧NodeC (· <w.heap.size) w' cs (.mk 1 T.nodes[i].space T.nodes[i].name l ⟨#[]⟩ (kl.map (readN d T)))∧Below w.heap.size w w':=by
 obtain⟨cap,h1,h2,c0,_,_,_⟩:=h.head
 obtain⟨aa,ac,ka,kc,_,_,hA3,kk1,kk2,_,hA,hKA,hc,_⟩:=h.node hlt
 have d0:=hc 0 _ rfl
 rw[Nat.add_zero,he]at d0
 have d1:=hc 1 _ rfl
 have d2:=hc 2 _ rfl
 have d3:=hc 3 _ rfl
 have d4:=hc 4 _ rfl
 have d5:=hc 5 _ rfl
 have d6:=hc 6 _ rfl
 rw[←hl]at d3 hA
 rw[←hkl]at d6 hKA kk1
 have HKL:=Lib.hid (hKA.other (G:=Non) fun b _ hb=>hb.elim)
 have HIH:=Lib.hid ih
 have HKD:=Lib.hid hkids
 unfold maxLen at kk2
 obtain⟨ht1,ht2⟩:=h.lt
 unfold maxLen at h2
 have hb:=(Below.refl w.heap.size w).alloc (Nat.le_refl _) (.cells #[.int .i64 0,.int .i64 0,.string ⟨#[]⟩,.slice none 0 0,.string ⟨#[]⟩,.slice none 0 0] 26)
 have c0':=cell_later hb c0
 have d0':=cell_later hb d0
 have d1':=cell_later hb d1
 have d2':=cell_later hb d2
 have d3':=cell_later hb d3
 have d4':=cell_later hb d4
 have d5':=cell_later hb d5
 have d6':=cell_later hb d6
 have HI:=Lib.hid (is_any T tb g _ i (h.below hb))
 have hi:isF T i=true:=by simp[isF];omega
 rw[hi]at HI
 have HA:=Lib.hid hA.at
 have H3:=Lib.hid hA3
 have HT:=Lib.hid h
 clear h hc hA hA3 hb hi hl hKA hkl ih hkids
 go_enter Tryz.func32,Tryz.ntmps32
 go_wp2_with (go_at_call 48;go_must (refine HI.out.mono ?_;rintro e w1 ⟨rfl,rfl⟩))
 generalize hW2:(w.alloc (.cells #[.int .i64 0,.int .i64 0,.string ⟨#[]⟩,.slice none 0 0,.string ⟨#[]⟩,.slice none 0 0] 26)).alloc (.cells #[.bool true,.int .i64 T.nodes[i].space,.string T.nodes[i].name,.slice aa l.length ac,.string T.nodes[i].text,.int .i64 T.nodes[i].parent,.slice ka kl.length kc] 92)=w2
 have hs2:w2.heap.size=w.heap.size+2:=by rw[←hW2];simp
 have hX:w2.heap[w.heap.size+1]?=some (.cells #[.bool true,.int .i64 T.nodes[i].space,.string T.nodes[i].name,.slice aa l.length ac,.string T.nodes[i].text,.int .i64 T.nodes[i].parent,.slice ka kl.length kc] 92 (0,0)):=by
  rw[←hW2];exact heap_new_at (by simp)
 have hR:w2.heap[w.heap.size]?=some (.cells #[.int .i64 0,.int .i64 0,.string ⟨#[]⟩,.slice none 0 0,.string ⟨#[]⟩,.slice none 0 0] 26 (0,0)):=by
  rw[←hW2];exact(Below.heap_alloc _ _ _ (by simp)).trans (heap_alloc_new w _)
 have hb2:Below w.heap.size w w2:=by
  rw[←hW2];exact((Below.refl _ _).alloc (Nat.le_refl _) _).alloc (by simp) _
 obtain⟨_,x1,x2,x3,_,_,x6⟩:=cells_of hX
 have hlX:w.heap.size+1<w2.heap.size:=by omega
 have HS2:=Lib.hid hs2
 have HB2:=Lib.hid hb2
 have HR:=Lib.hid hR
 have HXX:=Lib.hid hX
 clear hs2 hb2 hR hX
 have K0:=Lib.hid (Keeps.refl Non w2).drew
 have K1:=Lib.hid ((Keeps.refl Non w2).alloc (.cells #[] 57)).drew
 have K2:=Lib.hid (((Keeps.refl Non w2).alloc (.cells #[] 57)).alloc (.cells #[.int .i64 0,.int .i64 0,.string ⟨#[]⟩,.slice none 0 0,.string ⟨#[]⟩,.slice none 0 0] 26)).drew
 have K4:=Lib.hid ((Keeps.refl Non w2).alloc (.cells #[.int .i64 0,.int .i64 0,.string ⟨#[]⟩,.slice none 0 0,.string ⟨#[]⟩,.slice none 0 0] 26)).drew
 have K3:=Lib.hid (((Keeps.refl Non w2).alloc (.cells #[.int .i64 0,.int .i64 0,.string ⟨#[]⟩,.slice none 0 0,.string ⟨#[]⟩,.slice none 0 0] 26)).alloc (.cells #[] 57)).drew
 have O1:Hid ((w2.alloc (.cells #[] 57)).drew.ownsRow w2.heap.size 57 2 (.slice (some ⟨w2.heap.size,0,none⟩) 0 0) 0 []):=Lib.hid (World.ownsRow_lit w2 #[] 0 (Nat.le_refl _) (Nat.zero_le _) rfl).drew
 have O2:=Lib.hid (((World.ownsRow_lit (base:=w2.heap.size) (e:=57) (size:=2) w2 #[] 0 (Nat.le_refl _) (Nat.zero_le _) rfl).alloc (.cells #[.int .i64 0,.int .i64 0,.string ⟨#[]⟩,.slice none 0 0,.string ⟨#[]⟩,.slice none 0 0] 26)).drew)
 have O3:Hid (((w2.alloc (.cells #[.int .i64 0,.int .i64 0,.string ⟨#[]⟩,.slice none 0 0,.string ⟨#[]⟩,.slice none 0 0] 26)).alloc (.cells #[] 57)).drew.ownsRow w2.heap.size 57 2 (.slice (some ⟨w2.heap.size+1,0,none⟩) 0 0) 0 []):=Lib.hid (by
  have:=World.ownsRow_lit (base:=w2.heap.size) (e:=57) (size:=2) (w2.alloc (.cells #[.int .i64 0,.int .i64 0,.string ⟨#[]⟩,.slice none 0 0,.string ⟨#[]⟩,.slice none 0 0] 26)) #[] 0 (by simp) (Nat.zero_le _) rfl
  exact World.ownsRow.drew (by simpa using this))
 have Z2:Hid (((w2.alloc (.cells #[] 57)).alloc (.cells #[.int .i64 0,.int .i64 0,.string ⟨#[]⟩,.slice none 0 0,.string ⟨#[]⟩,.slice none 0 0] 26)).drew.heap[w2.heap.size+1]?=some (.cells #[.int .i64 0,.int .i64 0,.string ⟨#[]⟩,.slice none 0 0,.string ⟨#[]⟩,.slice none 0 0] 26 (0,0))):=Lib.hid (heap_new_at (w:=w2.alloc (.cells #[] 57)) (by simp))
 have Z3:Hid (((w2.alloc (.cells #[.int .i64 0,.int .i64 0,.string ⟨#[]⟩,.slice none 0 0,.string ⟨#[]⟩,.slice none 0 0] 26)).alloc (.cells #[] 57)).drew.heap[w2.heap.size]?=some (.cells #[.int .i64 0,.int .i64 0,.string ⟨#[]⟩,.slice none 0 0,.string ⟨#[]⟩,.slice none 0 0] 26 (0,0))):=Lib.hid ((Below.heap_alloc (w2.alloc (.cells #[.int .i64 0,.int .i64 0,.string ⟨#[]⟩,.slice none 0 0,.string ⟨#[]⟩,.slice none 0 0] 26)) _ _ (by simp)).trans (heap_alloc_new w2 _))
 have B1:Hid (∀k,(Value.slice (some ⟨w2.heap.size,0,none⟩) 0 0).ownBlock=some k→w2.heap.size≤k):=Lib.hid (fun k e=>by simp only[Value.ownBlock,Option.some.injEq]at e;omega)
 have B3:Hid (∀k,(Value.slice (some ⟨w2.heap.size+1,0,none⟩) 0 0).ownBlock=some k→w2.heap.size≤k):=Lib.hid (fun k e=>by simp only[Value.ownBlock,Option.some.injEq]at e;omega)
 have E2:Hid (some (w2.heap.size+1)≠(Value.slice (some ⟨w2.heap.size,0,none⟩) 0 0).ownBlock):=Lib.hid (fun e=>by simp only[Value.ownBlock,Option.some.injEq]at e;omega)
 have E3:Hid (some w2.heap.size≠(Value.slice (some ⟨w2.heap.size+1,0,none⟩) 0 0).ownBlock):=Lib.hid (fun e=>by simp only[Value.ownBlock,Option.some.injEq]at e;omega)
 have L2:Hid (w2.heap.size<w2.heap.size+1+1∧w2.heap.size+1<w2.heap.size+1+1):=Lib.hid ⟨by omega,by omega⟩
 have HA2:=Lib.hid (HA.out.below HB2.out)
 have HAF:Hid (AtF Non w2 aa (pairsV l)):=Lib.hid (AtF.of_new HA2.out fun _ _ _ _ h=>h)
 have HNL:=Lib.hid (pairsV_length l)
 obtain⟨i0,hi0,hz0,hz1,hz2⟩:=info_parts info_atr
 have b0:0+l.length≤maxLen:=by unfold maxLen;omega
 have b1:(0+l.length)*32≤140737488355328:=by omega
 clear hW2 c0' d0' d1' d2' d3' d4' d5' d6' c0 d0 d1 d2 d3 d4 d5 d6 HI HA
 go_region_held3 (fun u=>u.cell? ⟨w.heap.size+1,1,none⟩=some (.int .i64 T.nodes[i].space)∧u.cell? ⟨w.heap.size+1,2,none⟩=some (.string T.nodes[i].name)∧u.cell? ⟨w.heap.size+1,3,none⟩=some (.slice aa l.length ac))
  (first|with_reducible exact keepS6 KA.out hlX (Nat.le_refl _) x1 x2 x3|with_reducible exact keepS6 KA.out hlX (Nat.le_succ _) x1 x2 x3|with_reducible exact keepN K0.out hlX x1 x2 x3|with_reducible exact keepN K1.out hlX x1 x2 x3|with_reducible exact keepN K2.out hlX x1 x2 x3|with_reducible exact keepN K3.out hlX x1 x2 x3|with_reducible exact keepN K4.out hlX x1 x2 x3|with_reducible exact keepN KA.out hlX x1 x2 x3|with_reducible exact keepN (KA.out.alloc _) hlX x1 x2 x3)
  (first
    |(refine step_append_slice (by rfl) _ _ 23 (by rfl) w2.heap.size 57 i0 _ 2 32 Tryz.underlying23 hi0 hz0 hz1 hz2 rfl (by decide) _ 0 [] (by rfl) (by first|exact O1.out|exact O2.out|exact O3.out) aa l.length ac (pairsV l) (by rfl) HNL.out H3.out (by first|exact at_later HAF.out K1.out|exact at_later HAF.out K2.out|exact at_later HAF.out K3.out) (pairsV_one l) b0 b1 (by first|exact K1.out.size|exact K2.out.size|exact K3.out.size) ?_
      intro v4 w4 hown4 hgr4
      simp only[Nat.zero_add,List.nil_append]at hown4
      have KA:Hid (Keeps Non w2 w4):=Lib.hid (by first|exact keeps_grown K1.out hgr4 B1.out|exact keeps_grown K2.out hgr4 B1.out|exact keeps_grown K3.out hgr4 B3.out)
      first
       |(have ZA:=Lib.hid ((hgr4.block (w2.heap.size+1) (by simp) E2.out).trans Z2.out);obtain⟨⟨z0,z1,z2,z3,z4,z5⟩,y0,y1,y2,y3,y4,y5⟩:=cells6 ZA.out)
       |(have ZA:=Lib.hid ((hgr4.block w2.heap.size (by simp;omega) E3.out).trans Z3.out);obtain⟨⟨z0,z1,z2,z3,z4,z5⟩,y0,y1,y2,y3,y4,y5⟩:=cells6 ZA.out)
       |skip
      obtain⟨a2,c2,rfl,r1,r2,r3,_⟩:=own_at hown4
      have OA:=Lib.hid hown4
      clear hown4 hgr4 r3))
 all_goals first
  |(have ht5:=put6_heap (O:=w2.heap.size+1) (.int .i64 1) (.int .i64 T.nodes[i].space) (.string T.nodes[i].name) (.slice a2 l.length c2) (.string ⟨#[]⟩) (.slice none 0 0) ZA.out
    have hne5:=own_type OA.out ZA.out (by decide)
    have ho5:=own_put6 (.int .i64 1) (.int .i64 T.nodes[i].space) (.string T.nodes[i].name) (.slice a2 l.length c2) (.string ⟨#[]⟩) (.slice none 0 0) OA.out hne5
    have hk5:=put6_keeps (.int .i64 1) (.int .i64 T.nodes[i].space) (.string T.nodes[i].name) (.slice a2 l.length c2) (.string ⟨#[]⟩) (.slice none 0 0) KA.out (.inr (Nat.le_succ _:w2.heap.size≤w2.heap.size+1))
    have hge5:w2.heap.size≤w2.heap.size+1:=Nat.le_succ _
    have hlt5:=row_lt ht5
    unfold put6 at ht5 ho5 hk5 hlt5
    generalize ((((((w4.setCell ⟨w2.heap.size+1,0,none⟩ (.int .i64 1)).setCell ⟨w2.heap.size+1,1,none⟩ (.int .i64 T.nodes[i].space)).setCell ⟨w2.heap.size+1,2,none⟩ (.string T.nodes[i].name)).setCell ⟨w2.heap.size+1,3,none⟩ (.slice a2 l.length c2)).setCell ⟨w2.heap.size+1,4,none⟩ (.string ⟨#[]⟩)).setCell ⟨w2.heap.size+1,5,none⟩ (.slice none 0 0))=w5 at *
    clear ZA z0 z1 z2 z3 z4 z5 y0 y1 y2 y3 y4 y5
    generalize w2.heap.size+1=O at *)
  |(have ht5:=put6_heap (O:=w2.heap.size) (.int .i64 1) (.int .i64 T.nodes[i].space) (.string T.nodes[i].name) (.slice a2 l.length c2) (.string ⟨#[]⟩) (.slice none 0 0) ZA.out
    have hne5:=own_type OA.out ZA.out (by decide)
    have ho5:=own_put6 (.int .i64 1) (.int .i64 T.nodes[i].space) (.string T.nodes[i].name) (.slice a2 l.length c2) (.string ⟨#[]⟩) (.slice none 0 0) OA.out hne5
    have hk5:=put6_keeps (.int .i64 1) (.int .i64 T.nodes[i].space) (.string T.nodes[i].name) (.slice a2 l.length c2) (.string ⟨#[]⟩) (.slice none 0 0) KA.out (.inr (Nat.le_refl _:w2.heap.size≤w2.heap.size))
    have hlt5:=row_lt ht5
    unfold put6 at ht5 ho5 hk5 hlt5
    generalize ((((((w4.setCell ⟨w2.heap.size,0,none⟩ (.int .i64 1)).setCell ⟨w2.heap.size,1,none⟩ (.int .i64 T.nodes[i].space)).setCell ⟨w2.heap.size,2,none⟩ (.string T.nodes[i].name)).setCell ⟨w2.heap.size,3,none⟩ (.slice a2 l.length c2)).setCell ⟨w2.heap.size,4,none⟩ (.string ⟨#[]⟩)).setCell ⟨w2.heap.size,5,none⟩ (.slice none 0 0))=w5 at *
    clear ZA z0 z1 z2 z3 z4 z5 y0 y1 y2 y3 y4 y5
    generalize hOe:w2.heap.size=O at ht5 hlt5 hne5 ⊢
    have hge5:w2.heap.size≤O:=by omega
    clear hOe)
  |(have ht5:=heap_alloc_new w4 (.cells #[.int .i64 1,.int .i64 T.nodes[i].space,.string T.nodes[i].name,.slice a2 l.length c2,.string ⟨#[]⟩,.slice none 0 0] 26)
    have hne5: ∀k,(Value.slice a2 l.length c2).ownBlock=some k→k≠w4.heap.size:=fun k hk=>Nat.ne_of_lt (OA.out.lt k hk).2
    have ho5:=OA.out.alloc (.cells #[.int .i64 1,.int .i64 T.nodes[i].space,.string T.nodes[i].name,.slice a2 l.length c2,.string ⟨#[]⟩,.slice none 0 0] 26)
    have hk5:=KA.out.alloc (.cells #[.int .i64 1,.int .i64 T.nodes[i].space,.string T.nodes[i].name,.slice a2 l.length c2,.string ⟨#[]⟩,.slice none 0 0] 26)
    have hge5:w2.heap.size≤w4.heap.size:=KA.out.size
    have hlt5:=row_lt ht5
    generalize w4.alloc (.cells #[.int .i64 1,.int .i64 T.nodes[i].space,.string T.nodes[i].name,.slice a2 l.length c2,.string ⟨#[]⟩,.slice none 0 0] 26)=w5 at *
    generalize w4.heap.size=O at *)
 all_goals
  clear K0 K1 K2 K3 K4 KA O1 O2 O3 Z2 Z3 B1 B3 E2 E3 L2 HA2 HAF HNL i0 hi0 hz0 hz1 hz2 b0 b1 OA
  obtain⟨_,_,he2,s1,s2,s3,s4⟩:=attr_at ho5 hne5
  obtain⟨rfl,rfl⟩:_∧_:=by simpa only[Value.slice.injEq,true_and] using he2
  have KB:=Lib.hid hk5
  have HO5:=Lib.hid ht5
  have HA5:=Lib.hid s4
  have x6':=non_cell hk5 x6
  have HB5:=Lib.hid (belowCall HB2.out (non_below hk5))
  have HR5:=Lib.hid ((hk5.block w.heap.size (by omega) (fun h=>h)).trans HR.out)
  have S3:=Lib.hid s3.nil
  have hOw:w.heap.size+1<O:=by omega
  clear hk5 ht5 ho5 hne5 s3 s4 x1 x2 x3 HR HXX HB2 he2
  go_wp2_with fail
  have HRD0:Hid (RD w5 O (.int .i64 1) (.int .i64 T.nodes[i].space) (.string T.nodes[i].name) (.slice a2 l.length c2) (.string ⟨#[]⟩) d T kl 0 none 0 [] w5):=Lib.hid ⟨HO5.out,World.ownsRow_nil _ _ _ _,rfl,fun j h=>by simp at h,Keeps.refl _ _⟩
  go_loopw [42] (fun i' wr=> ∃k:Nat,k≤kl.length∧i'= .int .i64 k∧ ∃av cv css,RD w5 O (.int .i64 1) (.int .i64 T.nodes[i].space) (.string T.nodes[i].name) (.slice a2 l.length c2) (.string ⟨#[]⟩) d T kl k av cv css wr) (fun i' _=>kl.length-(intOf i').toNat)
  case atStart=>exact⟨0,Nat.zero_le _,rfl,none,0,[],HRD0.out⟩
  case round =>
   obtain⟨k,hk,rfl,av,cv,css,hrd⟩:=hrel
   have HRD:=Lib.hid hrd
   have HBr:=Lib.hid (HB5.out.trans (hrd.keep.below (B:=w.heap.size) (fun b hb e=>by omega) HB5.out.size))
   by_cases hlt2:k<kl.length
   ·obtain⟨b',o',rfl,e1⟩:=at_later HKL.out (Keeps.ofBelow HBr.out) _ _ (intsV_get kl k hlt2)
    obtain⟨x,hx,hx1,hx2,hx3⟩:=HKD.out k hlt2
    rw[hx]at e1
    have HI:=Lib.hid (HIH.out wr x hx1 hx2 hx3 (HT.out.below HBr.out))
    have HX:=Lib.hid hx
    clear hrd hx hx3
    go_wp2_with fail
    refine HI.out.mono ?_
    rintro e w6 ⟨cs,rfl,hcs,hb6⟩
    obtain⟨f0,f1,f2,f3,f4,f5,f6,f7,f8,f9,rfl⟩:=nodeC_form hcs
    have hRD6:=HRD.out.below hb6
    have hcs6:=(hcs.other (G:=fun b=>b<w5.heap.size∨(Value.slice av k cv).ownBlock=some b) (fun b _ hF=>by
     have h5:=HRD.out.keep.size
     rcases hF with hF|hF
     ·show b<wr.heap.size
      omega
     ·exact(HRD.out.own.lt b hF).2))
    have hb7:=((Below.refl w6.heap.size w6).alloc (Nat.le_refl _) (.cells (nodeV f0 f1 f2 f3 f4 f5 f6 f7 f8 f9).toArray 26))
    have hb8:=hb7.alloc (by simp) (.cells (nodeV f0 f1 f2 f3 f4 f5 f6 f7 f8 f9).toArray 26)
    have hc5:(w6.alloc (.cells (nodeV f0 f1 f2 f3 f4 f5 f6 f7 f8 f9).toArray 26)).cell? ⟨O,5,none⟩=some (.slice av k cv):=by
     rw[cell_of_row _ _ _ _ _ _ (hRD6.below hb7).cell];rfl
    have hRD8:=hRD6.below hb8
    have hcs8:NodeC (fun b=>b<w5.heap.size∨(Value.slice av k cv).ownBlock=some b) ((w6.alloc (.cells (nodeV f0 f1 f2 f3 f4 f5 f6 f7 f8 f9).toArray 26)).alloc (.cells (nodeV f0 f1 f2 f3 f4 f5 f6 f7 f8 f9).toArray 26)) (nodeV f0 f1 f2 f3 f4 f5 f6 f7 f8 f9) (readN d T kl[k]):=by
     rw[HX.out]
     exact hcs6.kept (Keeps.ofBelow hb8)
    have hN:((w6.alloc (.cells (nodeV f0 f1 f2 f3 f4 f5 f6 f7 f8 f9).toArray 26)).alloc (.cells (nodeV f0 f1 f2 f3 f4 f5 f6 f7 f8 f9).toArray 26)).heap[w6.heap.size+1]?=some (.cells (nodeV f0 f1 f2 f3 f4 f5 f6 f7 f8 f9).toArray 26 (0,0)):=heap_new_at (by simp)
    have HNW:=Lib.hid (World.news_of_block hN)
    have HRD8:=Lib.hid hRD8
    have HCS8:=Lib.hid hcs8
    have HBS:Hid (w5.heap.size≤((w6.alloc (.cells (nodeV f0 f1 f2 f3 f4 f5 f6 f7 f8 f9).toArray 26)).alloc (.cells (nodeV f0 f1 f2 f3 f4 f5 f6 f7 f8 f9).toArray 26)).heap.size):=Lib.hid hRD8.keep.size
    have g0:k+1≤maxLen:=by unfold maxLen;omega
    have g1:(k+1)*96≤140737488355328:=by omega
    obtain⟨i1,hi1,hy0,hy1,hy2⟩:=info_parts info_out
    clear hRD8 hcs8 hcs6 hcs hN hRD6 hb7 hb8 hb6 HRD
    unfold nodeV at HNW HRD8 HCS8 HBS hc5 ⊢
    go_wp2_with (at_builtin;go_must (refine wpList_append_lies _ rfl _ _ 24 rfl w5.heap.size 26 i1 _ 6 96 Tryz.underlying24 hi1 hy0 hy1 hy2 rfl (by decide) (.slice av k cv) k css.flatten rfl HRD8.out.own ⟨w6.heap.size+1,0,none⟩ 1 1 [.int .i64 f0,.int .i64 f1,.string f2,.slice f3 f4 f5,.string f6,.slice f7 f8 f9] rfl rfl HNW.out (by simp[Value.oneCell']) (by omega) g0 g1 HBS.out _ rfl ?_;intro gg capg w8 hown8 hgr8 hat8 hlt8;have HRD9:=Lib.hid (HRD8.out.push hlt5 hlt2 HCS8.out hgr8 hat8 hown8);have hO8:=(hgr8.block O (row_lt HRD8.out.cell) (fun e=>by have:=own_base HRD8.out.own O e.symm;omega)).trans HRD8.out.cell;have c8:=cell_of_row w8 O 5 _ _ _ hO8;have c8f:=frozen_of_row w8 O 5 _ _ hO8;clear hown8 hgr8 hat8 hO8))
    go_roundw
    case rel=>exact⟨k+1,by omega,by go_num,_,_,_,HRD9.out⟩
    case measure=>simp[intOf];omega
   ·obtain rfl:k=kl.length:=by omega
    have hcell:=hrd.cell
    obtain⟨⟨z0,z1,z2,z3,z4,z5⟩,_⟩:=cells6 hcell
    have hRr:=(hrd.keep.block w.heap.size (by omega) (by omega)).trans HR5.out
    obtain⟨⟨t0,t1,t2,t3,t4,t5⟩,y0,y1,y2,y3,y4,y5⟩:=cells6 hRr
    have HE:=Lib.hid (fun u0 u1 u2 u3 u4 u5=>read_end (R:=w.heap.size) (B:=w.heap.size) hrd hlt5 (by omega) (by omega) (by omega) (by omega) s1 s2 S3.out HA5.out u0 u1 u2 u3 u4 u5)
    have HG:=Lib.hid (fun u0 u1 u2 u3 u4 u5=>put6_heap u0 u1 u2 u3 u4 u5 hRr)
    have HK:=Lib.hid (fun u0 u1 u2 u3 u4 u5=>put6_keeps (O:=w.heap.size) u0 u1 u2 u3 u4 u5 (Keeps.refl (fun b=>b=w.heap.size) wr) (.inl rfl))
    clear hrd hcell hRr
    go_wp2_with fail
    refine bodyPost_ret (ret_node rfl _ _ w.heap.size _ _ _ _ (.int .i64 0) (by rfl) (by rfl) (HG.out _ _ _ _ _ _) Tryz.underlying26 rfl size_out) rfl ?_
    refine⟨_,rfl,HE.out _ _ _ _ _ _,HBr.out.trans ((HK.out _ _ _ _ _ _).below (fun b hb e=>by omega) HBr.out.size)⟩
end Go.Proofs.YtgepobccoffnaaaGreatDoor
namespace Go.Proofs.YtgepobccoffnaaaGreatDoor
open Go.RowKit Mem
theorem read_deep: ∀(d:Nat) (T:TreeD) (tb g:Nat) (w:World) (i:Nat),WF T→T.nodes.length≤1000000→(∀d∈T.nodes,d.attrs.length≤1048576)→1≤i→i<T.nodes.length→Deep d T i→TreeO w tb g T →
 Calls Tryz.prog 32 #[.pointer (some ⟨tb,0,none⟩),.int .i64 i] w fun e w'=> ∃cs,e= .returned (.tuple #[.agg cs.toArray,.int .i64 0])∧NodeC (· <w.heap.size) w' cs (readN d T i)∧Below w.heap.size w w'
 |0,_,_,_,_,_,_,_,_,_,_,h,_=>h.elim
 |d+1,T,tb,g,w,i,hw,hl,ha,h1,hi,hd,h=>by
  cases he:T.nodes[i].elem
  ·rw[readN_text d T i hi he]
   exact read_text T tb g w i h1 hi he h
  ·rw[readN_elem d T i hi he]
   have hk:=kidsF_of T i hi
   refine read_elem T tb g w i h1 hi he h _ rfl (ha _ (List.getElem_mem hi)) d _ rfl ?_ ?_ ?_
   ·have:=kids_short hw i hi
    rw[hk]at this
    omega
   ·intro j hj
    have hm:T.nodes[i].kids[j]∈kidsF T i:=by rw[hk];exact List.getElem_mem hj
    obtain⟨p1,p2,_⟩:=hw.kid i hi _ hm
    obtain⟨x,hx⟩:=Int.eq_ofNat_of_zero_le (by omega:0≤T.nodes[i].kids[j])
    refine⟨x,hx,by omega,by omega,?_⟩
    rw[←hx]
    exact hd _ hm
   ·intro u x hx1 hx2 hx3 hT
    exact read_deep d T tb g u x hw hl ha hx1 hx2 hx3 hT
end Go.Proofs.YtgepobccoffnaaaGreatDoor
namespace Go.Proofs.YtgepobccoffnaaaGreatDoor
open Mem
mutual
def ntCount:NT→Nat
 | .mk _ _ _ _ _ kids=>1+ntCounts kids
def ntCounts:List NT→Nat
 | []=>0
 |x::r=>ntCount x+ntCounts r
end
theorem counts_mem: ∀(l:List NT) (x:NT),x∈l→ntCount x≤ntCounts l
 | [],_,h=>by cases h
 |y::r,x,h=>by
  rw[ntCounts]
  rcases List.mem_cons.1 h with rfl|h
  ·omega
  ·have:=counts_mem r x h
   omega
theorem counts_append: ∀(l r:List NT),ntCounts (l++r)=ntCounts l+ntCounts r
 | [],r=>by simp[ntCounts]
 |x::l,r=>by
  rw[List.cons_append,ntCounts,ntCounts,counts_append l r]
  omega
theorem counts_map {α:Type} (f:α→NT): ∀(l:List α),ntCounts (l.map f)=(l.map fun x=>ntCount (f x)).sum
 | []=>rfl
 |x::l=>by
  rw[List.map_cons,ntCounts,counts_map f l,List.map_cons,List.sum_cons]
theorem reach_rank {T:TreeD} {r:Int→Nat} (hw:WF T) (hr: ∀i:Nat,i<T.nodes.length→1≤parentF T i→r (parentF T i)<r i) {x m:Int} (hx:1≤x) (h:Reach T x m):m<T.nodes.length→r x≤r m:=by
 induction h with
 |here=>exact fun _=>Nat.le_refl _
 | @up m h0 hh ih =>
   intro hm
   obtain⟨i,rfl⟩:=Int.eq_ofNat_of_zero_le (by omega:0≤m)
   have hp:=hw.par i (by omega)
   have h1:=ih hp.2
   have hp1:1≤parentF T i:=by
    rcases Int.lt_or_le (parentF T i) 1 with h|h
    ·have:=(reach_low (T:=T) (top:=x) (n:=parentF T i) (by omega)).1 hh
     omega
    ·exact h
   have:=hr i (by omega) hp1
   omega
theorem reach_two {T:TreeD} {x y m:Int} (hx:Reach T x m) (hy:Reach T y m):Reach T x y∨Reach T y x:=by
 induction hx with
 |here=>exact .inr hy
 | @up m h0 hh ih =>
   cases hy with
   |here=>exact .inl (.up h0 hh)
   |up _ hy'=>exact ih hy'
section
variable {T:TreeD} (hw:WF T)
include hw
theorem kid_not_above {n:Nat} (hn:n<T.nodes.length) (h1:1≤n) {x:Int} (hx:x∈kidsF T n): ¬Reach T x n:=by
 intro h
 obtain⟨p1,p2,p3⟩:=hw.kid n hn x hx
 obtain⟨r,hr⟩:=hw.rank
 obtain⟨i,rfl⟩:=Int.eq_ofNat_of_zero_le (by omega:0≤x)
 have h2:=reach_rank hw hr p1 h (by omega)
 have h3:=hr i (by omega) (by rw[p3];omega)
 rw[p3]at h3
 omega
theorem reach_kid {n:Nat} {m:Int} (hm:m<T.nodes.length) (hne:m≠n) (h:Reach T n m): ∃x,x∈kidsF T n∧Reach T x m:=by
 have key: ∀m:Int,Reach T n m→m<T.nodes.length→m≠n→ ∃x,x∈kidsF T n∧Reach T x m:=by
  intro m hm
  induction hm with
  |here=>intro _ h;exact absurd rfl h
  | @up m h0 hh ih =>
    intro hlt _
    obtain⟨i,rfl⟩:=Int.eq_ofNat_of_zero_le (by omega:0≤m)
    have hp:=hw.par i (by omega)
    by_cases he:parentF T i=n
    ·have:=hw.mem i (by omega) (by omega)
     rw[he]at this
     exact⟨_,this,.here⟩
    ·obtain⟨x,hx,hr⟩:=ih hp.2 he
     exact⟨x,hx,.up h0 hr⟩
 exact key m h hm hne
theorem kid_reach {n:Nat} (hn:n<T.nodes.length) {x m:Int} (hx:x∈kidsF T n) (h:Reach T x m):Reach T n m:=by
 obtain⟨p1,p2,p3⟩:=hw.kid n hn x hx
 induction h with
 |here=>exact .up (by omega) (by rw[p3];exact .here)
 |up h0 _ ih=>exact .up h0 ih
theorem kid_one {n:Nat} (hn:n<T.nodes.length) (h1:1≤n) {x y m:Int} (hx:x∈kidsF T n) (hy:y∈kidsF T n) (hxm:Reach T x m) (hym:Reach T y m):x=y:=by
 have key: ∀ {x y:Int},x∈kidsF T n→y∈kidsF T n→Reach T x y→x=y:=by
  intro x y hx hy h
  cases h with
  |here=>rfl
  |up h0 h =>
   rw[(hw.kid n hn y hy).2.2]at h
   exact absurd h (kid_not_above hw hn h1 hx)
 rcases reach_two hxm hym with h|h
 ·exact key hx hy h
 ·exact(key hy hx h).symm
end
theorem countP_one {α:Type} (P:α→Bool): ∀(l:List α),l.Nodup→(∀x∈l,∀y∈l,P x=true→P y=true→x=y)→(∃x∈l,P x=true)→l.countP P=1
 | [],_,_,⟨_,h,_⟩=>by cases h
 |a::r,hd,hu,hex=>by
  rw[List.nodup_cons]at hd
  rw[List.countP_cons]
  by_cases ha:P a=true
  ·rw[if_pos ha]
   have:r.countP P=0:=by
    rw[List.countP_eq_zero]
    intro x hx hp
    have:=hu a List.mem_cons_self x (List.mem_cons_of_mem _ hx) ha hp
    subst this
    exact hd.1 hx
   omega
  ·rw[if_neg ha]
   obtain⟨x,hx,hp⟩:=hex
   rcases List.mem_cons.1 hx with rfl|hx
   ·exact absurd hp ha
   ·have:=countP_one P r hd.2 (fun x hx y hy=>hu x (List.mem_cons_of_mem _ hx) y (List.mem_cons_of_mem _ hy)) ⟨x,hx,hp⟩
    omega
theorem sum_add {α:Type} (f g:α→Nat): ∀l:List α,(l.map fun x=>f x+g x).sum=(l.map f).sum+(l.map g).sum
 | []=>rfl
 |a::r=>by
  rw[List.map_cons,List.map_cons,List.map_cons,List.sum_cons,List.sum_cons,List.sum_cons,sum_add f g r]
  omega
theorem sum_ind {α:Type} (P:α→Bool): ∀l:List α,(l.map fun x=>if P x then 1 else 0).sum=l.countP P
 | []=>rfl
 |a::r=>by
  rw[List.map_cons,List.sum_cons,sum_ind P r,List.countP_cons]
  omega
theorem count_swap {α β:Type} (P:β→α→Bool) (E:α→Bool) (Q:α→Bool) (ks:List β): ∀(M:List α),(∀a∈M,(if Q a then 1 else 0)=(if E a then 1 else 0)+ks.countP (fun x=>P x a))→M.countP Q=M.countP E+(ks.map fun x=>M.countP (P x)).sum
 | [],_=>by
   have: ∀l:List β,(l.map fun _=>0).sum=0:=by intro l;induction l <;>simp_all
   simp[this]
 |a::M,h=>by
  have ih:=count_swap P E Q ks M (fun b hb=>h b (List.mem_cons_of_mem _ hb))
  have ha:=h a List.mem_cons_self
  have hs:(ks.map fun x=>(a::M).countP (P x)).sum=(ks.map fun x=>M.countP (P x)).sum+ks.countP (fun x=>P x a):=by
   have:(fun x=>(a::M).countP (P x))=fun x=>M.countP (P x)+(if P x a then 1 else 0):=by
    funext x;rw[List.countP_cons]
   rw[this,sum_add,sum_ind]
  rw[List.countP_cons,List.countP_cons,hs,ih,ha]
  omega
noncomputable def cntF (T:TreeD) (n:Int):Nat:=(List.range T.nodes.length).countP fun m:Nat=>decide (1≤m)&&belowF T m n
theorem cntF_step {T:TreeD} (hw:WF T) {n:Nat} (hn:n<T.nodes.length) (h1:1≤n):cntF T n=1+((kidsF T n).map (cntF T)).sum:=by
 have h:=count_swap (fun(x:Int) (m:Nat)=>decide (1≤m)&&belowF T m x) (fun m=>decide (m=n)) (fun m=>decide (1≤m)&&belowF T m n) (kidsF T n) (List.range T.nodes.length) (by
  intro m hm
  have hm':=List.mem_range.1 hm
  by_cases hm1:1≤m
  ·have e1:decide (1≤m)=true:=by simpa using hm1
   simp only[e1,Bool.true_and]
   by_cases he:m=n
   ·subst he
    have:(kidsF T m).countP (fun x=>belowF T m x)=0:=by
     rw[List.countP_eq_zero]
     intro x hx hb
     exact kid_not_above hw hn hm1 hx (by simpa[belowF_dec] using hb)
    rw[this,belowF_true .here]
    simp
   ·rw[if_neg (by simpa using he: ¬decide (m=n)=true)]
    by_cases hb:Reach T n m
    ·rw[belowF_true hb,if_pos rfl]
     obtain⟨x,hx,hxm⟩:=reach_kid hw (by omega) (by omega) hb
     rw[countP_one _ _ (hw.nodup n hn) (fun x hx y hy p q=>kid_one hw hn h1 hx hy (by simpa[belowF_dec] using p) (by simpa[belowF_dec] using q)) ⟨x,hx,belowF_true hxm⟩]
    ·have hb':belowF T m n=false:=by simpa[belowF_dec] using hb
     rw[hb']
     have:(kidsF T n).countP (fun x=>belowF T m x)=0:=by
      rw[List.countP_eq_zero]
      intro x hx hh
      exact hb (kid_reach hw hn hx (by simpa[belowF_dec] using hh))
     rw[this]
     simp
  ·have e1:decide (1≤m)=false:=by simpa using hm1
   have:(kidsF T n).countP (fun x=>decide (1≤m)&&belowF T m x)=0:=by
    rw[List.countP_eq_zero]
    intro x _ hh
    rw[e1]at hh
    cases hh
   rw[this,e1]
   have:m≠n:=by omega
   simp[this])
 have h2:(List.range T.nodes.length).countP (fun m=>decide (m=n))=1 :=
  countP_one _ _ List.nodup_range (fun x _ y _ p q=>(of_decide_eq_true p).trans (of_decide_eq_true q).symm) ⟨n,List.mem_range.2 hn,by simp⟩
 rw[h2]at h
 exact h
theorem count_read: ∀(d:Nat) (T:TreeD),WF T→ ∀i:Nat,1≤i→i<T.nodes.length→Deep d T i→ntCount (readN d T i)=cntF T i
 |0,_,_,_,_,_,h=>h.elim
 |d+1,T,hw,i,h1,hi,h=>by
  rw[cntF_step hw hi h1]
  have hk:=kidsF_of T i hi
  cases he:T.nodes[i].elem
  ·rw[readN_text d T i hi he]
   have:kidsF T i= []:=by
    cases hc:kidsF T i with
    |nil=>rfl
    |cons x r =>
     have hh:=hw.holds i hi (by rw[hc];simp)
     simp only[holdsF,Bool.or_eq_true,beq_iff_eq]at hh
     rcases hh with hh|hh
     ·omega
     ·rw[elemF_of T i h1 hi,he]at hh
      cases hh
   rw[this]
   rfl
  ·rw[readN_elem d T i hi he,ntCount,←hk,counts_map]
   congr 1
   congr 1
   refine List.map_congr_left fun x hx=> ?_
   obtain⟨p1,p2,_⟩:=hw.kid i hi x hx
   obtain⟨j,rfl⟩:=Int.eq_ofNat_of_zero_le (by omega:0≤x)
   exact count_read d T hw j (by omega) (by omega) (h _ hx)
theorem cntF_le (T:TreeD) (n:Int):cntF T n≤T.nodes.length:=by
 have:=List.countP_le_length (p:=fun m:Nat=>decide (1≤m)&&belowF T m n) (l:=List.range T.nodes.length)
 simpa[cntF] using this
end Go.Proofs.YtgepobccoffnaaaGreatDoor
namespace Go.Proofs.YtgepobccoffnaaaGreatDoor
open Go.RowKit Mem
theorem counts_take (l:List NT) (j:Nat) (h:j<l.length):ntCounts (l.take (j+1))=ntCounts (l.take j)+ntCount l[j]:=by
 have:l.take (j+1)=l.take j++ [l[j]]:=by rw[List.take_add_one];simp[h]
 rw[this,counts_append]
 simp[ntCounts]
theorem counts_take_le: ∀(l:List NT) (j:Nat),ntCounts (l.take j)≤ntCounts l
 | [],j=>by simp
 |x::r,0=>by simp[ntCounts]
 |x::r,j+1=>by
  rw[List.take_succ_cons,ntCounts,ntCounts]
  have:=counts_take_le r j
  omega
theorem kid_cells {F:Nat→Prop} {w:World} {ka:Option Addr} {css:List (List Value)} {f0 f1:Int} {f2:ByteArray} {f3:Option Addr} {f4 f5:Nat} {f6:ByteArray} {f7:Option Addr} {f8 f9:Nat} (h6: ∀c∈css,c.length=6) (h:AtF F w ka css.flatten) {j:Nat} (hj:j<css.length) (hc:css[j]=nodeV f0 f1 f2 f3 f4 f5 f6 f7 f8 f9) :
 ∃b o,ka=some ⟨b,o,none⟩∧w.cell? ⟨b,o+j*6,none⟩=some (.int .i64 f0)∧w.cell? ⟨b,o+j*6+1,none⟩=some (.int .i64 f1)∧w.cell? ⟨b,o+j*6+2,none⟩=some (.string f2)∧w.cell? ⟨b,o+j*6+3,none⟩=some (.slice f3 f4 f5)∧w.cell? ⟨b,o+j*6+4,none⟩=some (.string f6)∧w.cell? ⟨b,o+j*6+5,none⟩=some (.slice f7 f8 f9):=by
 have key: ∀f u,f<6→(nodeV f0 f1 f2 f3 f4 f5 f6 f7 f8 f9)[f]?=some u→ ∃b o,ka=some ⟨b,o,none⟩∧w.cell? ⟨b,o+j*6+f,none⟩=some u:=by
  intro f u hf hu
  obtain⟨b,o,e,_,hcell⟩:=h (j*6+f) u (by rw[flat6_get css j f hj h6 hf,hc];exact hu)
  exact⟨b,o,e,by rw[show o+j*6+f=o+(j*6+f)from by omega];exact hcell⟩
 obtain⟨b,o,rfl,c0⟩:=key 0 _ (by omega) rfl
 obtain⟨_,_,e,c1⟩:=key 1 _ (by omega) rfl
 cases e
 obtain⟨_,_,e,c2⟩:=key 2 _ (by omega) rfl
 cases e
 obtain⟨_,_,e,c3⟩:=key 3 _ (by omega) rfl
 cases e
 obtain⟨_,_,e,c4⟩:=key 4 _ (by omega) rfl
 cases e
 obtain⟨_,_,e,c5⟩:=key 5 _ (by omega) rfl
 cases e
 exact⟨b,o,rfl,c0,c1,c2,c3,c4,c5⟩
end Go.Proofs.YtgepobccoffnaaaGreatDoor
namespace Go.Proofs.YtgepobccoffnaaaGreatDoor
open Go.RowKit Mem
def Lm (m:Int) (T:TreeD):Prop:=(T.nodes.length:Int)≤m+1∧T.most=m
theorem mkF_lm {m:Int} {T:TreeD} (d:ND) (h:Lm m T):Lm m (mkF T d).1:=by
 unfold mkF
 split
 ·rename_i hh
  obtain⟨h1,h2⟩:=h
  refine⟨?_,h2⟩
  simp only[addF,List.length_append,List.length_singleton]
  omega
 ·exact h
theorem likeF_lm {m:Int} {T:TreeD} (n:Int) (h:Lm m T):Lm m (likeF T n).1:=by
 unfold likeF
 split
 ·exact mkF_lm _ h
 ·exact h
theorem putE_lm {m:Int} {T:TreeD} (a b n:Int) (h:Lm m T):Lm m (putE T a b n).1:=by
 unfold putE
 split
 ·exact⟨by rw[putF_len];exact h.1,by rw[putF_most];exact h.2⟩
 ·exact h
theorem moveE_lm {m:Int} {T:TreeD} (a b:Int) (h:Lm m T):Lm m (moveE T a b).1:=by
 unfold moveE
 split
 ·have: ∀(l:List Int) (T:TreeD),Lm m T→Lm m (moveF T b l):=by
   intro l
   induction l with
   |nil=>exact fun _ h=>h
   |cons x r ih=>exact fun T h=>ih _ (putE_lm _ _ _ h)
  exact this _ _ h
 ·exact h
theorem textE_lm {m:Int} {T:TreeD} (a b:Int) (s:ByteArray) (h:Lm m T):Lm m (textE T a b s).1:=by
 unfold textE
 split
 ·split
  ·exact h
  ·unfold textAt
   split
   ·exact⟨by rw[modN_len];exact h.1,h.2⟩
   ·split
    ·rename_i hh
     obtain⟨h1,h2⟩:=h
     refine⟨?_,h2⟩
     rw[insertF_len]
     simp only[addF,List.length_append,List.length_singleton]
     omega
    ·exact h
 ·exact h
end Go.Proofs.YtgepobccoffnaaaGreatDoor
namespace Go.Proofs.YtgepobccoffnaaaGreatDoor
open Go Mem
theorem reach_more {T:TreeD} {u n:Int} (h:Reach T u n) (h0:0<u):Reach T (parentF T u) n:=by
 induction h with
 |here=>exact .up h0 .here
 |up h1 _ ih=>exact .up h1 ih
end Go.Proofs.YtgepobccoffnaaaGreatDoor
end
