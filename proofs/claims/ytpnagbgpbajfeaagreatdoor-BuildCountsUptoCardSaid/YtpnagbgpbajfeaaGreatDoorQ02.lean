/- Texts joined for a claim: TreeAll: plain laws and contracts. No conditions beyond those that each lemma types. -/
import Derived.Test.YtpnagbgpbajfeaaGreatDoorQ01
import Derived.Lib.BufferMore
import Derived.Deep.AppendLies
import Derived.Laws.ResultCell
set_option linter.unusedVariables false
set_option linter.unusedSimpArgs false
section
namespace Go.Proofs.YtpnagbgpbajfeaaGreatDoor.Mem
open Go Go.RowKit
def intsV (l:List Int):List Value:=l.map (Value.int .i64)
theorem intsV_length (l:List Int):(intsV l).length=l.length:=by simp[intsV]
theorem intsV_get (l:List Int) (k:Nat) (h:k<l.length):(intsV l)[k]?=some (.int .i64 l[k]):=by simp[intsV,h]
theorem intsV_append (l r:List Int):intsV (l++r)=intsV l++intsV r:=by simp[intsV]
theorem intsV_one (l:List Int): ∀u∈intsV l,u.oneCell'=true:=by
 intro u h
 obtain⟨n,_,rfl⟩:=List.mem_map.1 h
 rfl
structure Keeps (F:Nat→Prop) (w w':World):Prop where
 os:w'.os=w.os
 tape:w'.tape=w.tape
 output:w'.output=w.output
 size:w.heap.size≤w'.heap.size
 block: ∀k,k<w.heap.size→ ¬F k→w'.heap[k]?=w.heap[k]?
theorem Keeps.refl (F:Nat→Prop) (w:World):Keeps F w w:=⟨rfl,rfl,rfl,Nat.le_refl _,fun _ _ _=>rfl⟩
theorem Keeps.trans {F:Nat→Prop} {a b c:World} (h:Keeps F a b) (k:Keeps F b c):Keeps F a c :=
 ⟨k.os.trans h.os,k.tape.trans h.tape,k.output.trans h.output,Nat.le_trans h.size k.size,fun i hi hF=>(k.block i (Nat.lt_of_lt_of_le hi h.size) hF).trans (h.block i hi hF)⟩
theorem Keeps.ofBelow {F:Nat→Prop} {w w':World} (h:Below w.heap.size w w'):Keeps F w w':=⟨h.os,h.tape,h.output,h.size,fun k hk _=>h.block k hk⟩
theorem Keeps.mono {F G:Nat→Prop} {w w':World} (h:Keeps F w w') (hFG: ∀k,k<w.heap.size→F k→G k):Keeps G w w':=⟨h.os,h.tape,h.output,h.size,fun k hk hG=>h.block k hk fun hF=>hG (hFG k hk hF)⟩
theorem Keeps.set {F:Nat→Prop} {a w:World} (h:Keeps F a w) {p:Addr} (hp:F p.block∨a.heap.size≤p.block) (u:Value):Keeps F a (w.setCell p u) :=
 ⟨h.os,h.tape,h.output,by rw[World.size_setCell];exact h.size,fun k hk hF=>by
  have hne:k≠p.block:=by
   intro e
   rcases hp with hp|hp
   ·exact hF (e▸hp)
   ·omega
  rw[heap_setCell_other _ _ _ _ hne];exact h.block k hk hF⟩
theorem Keeps.alloc {F:Nat→Prop} {a w:World} (h:Keeps F a w) (o:Obj):Keeps F a (w.alloc o) :=
 ⟨h.os,h.tape,h.output,by rw[World.size_alloc];have:=h.size;omega,fun k hk hF=>(Below.heap_alloc w o k (Nat.lt_of_lt_of_le hk h.size)).trans (h.block k hk hF)⟩
theorem Keeps.drew {F:Nat→Prop} {a w:World} (h:Keeps F a w):Keeps F a w.drew:=⟨h.os,h.tape,h.output,h.size,h.block⟩
theorem Keeps.below {F:Nat→Prop} {w w':World} {B:Nat} (h:Keeps F w w') (hF: ∀k,k<B→ ¬F k) (hB:B≤w.heap.size):Below B w w' :=
 ⟨h.os,h.tape,h.output,h.size,fun k hk=>h.block k (Nat.lt_of_lt_of_le hk hB) (hF k hk)⟩
def AtF (F:Nat→Prop) (w:World) (a:Option Addr) (xs:List Value):Prop :=
 ∀j u,xs[j]?=some u→ ∃b o,a=some ⟨b,o,none⟩∧ ¬F b∧w.cell? ⟨b,o+j,none⟩=some u
theorem AtF.at {F:Nat→Prop} {w:World} {a:Option Addr} {xs:List Value} (h:AtF F w a xs):At w a xs:=fun j u hj =>
 let⟨b,o,ha,_,hc⟩:=h j u hj;⟨b,o,ha,hc⟩
theorem AtF.kept {F:Nat→Prop} {w w':World} {a:Option Addr} {xs:List Value} (h:AtF F w a xs) (hk:Keeps F w w'):AtF F w' a xs:=by
 intro j u hj
 obtain⟨b,o,ha,hF,hc⟩:=h j u hj
 refine⟨b,o,ha,hF,?_⟩
 rw[World.cell?_of_block (w:=w) (hk.block b (lt_of_cell hc) hF)]
 exact hc
theorem AtF.of_new {F:Nat→Prop} {w':World} {a:Option Addr} {xs:List Value} (h:At w' a xs) (hF: ∀b o s,a=some ⟨b,o,s⟩→ ¬F b):AtF F w' a xs:=fun j u hj =>
 let⟨b,o,ha,hc⟩:=h j u hj;⟨b,o,ha,hF b o _ ha,hc⟩
theorem AtF.other {F G:Nat→Prop} {w:World} {a:Option Addr} {xs:List Value} (h:AtF F w a xs) (hFG: ∀b,b<w.heap.size→G b→F b):AtF G w a xs:=fun j u hj =>
 let⟨b,o,ha,hF,hc⟩:=h j u hj;⟨b,o,ha,fun hG=>hF (hFG b (lt_of_cell hc) hG),hc⟩
structure ND where
 elem:Bool
 space:Int
 name:ByteArray
 attrs:List Pair
 text:ByteArray
 parent:Int
 kids:List Int
def cells7 (d:ND) (aa:Option Addr) (ac:Nat) (ka:Option Addr) (kc:Nat):List Value :=
 [.bool d.elem,.int .i64 d.space,.string d.name,.slice aa d.attrs.length ac,.string d.text,.int .i64 d.parent,.slice ka d.kids.length kc]
def RowForm (a:Option Addr) (c:Nat):Prop:=(a=none∧c=0)∨ ∃b,a=some ⟨b,0,none⟩
theorem RowForm.nil {a:Option Addr} {c:Nat} (h:RowForm a c):a=none→c=0:=by
 rcases h with⟨_,h⟩|⟨b,h⟩
 ·exact fun _=>h
 ·intro e;rw[h]at e;cases e
theorem own_form {w:World} {base:Nat} {e:TypeId} {size:Nat} {a:Option Addr} {n m c:Nat} {xs:List Value} (h:w.ownsRow base e size (.slice a m c) n xs):RowForm a c:=by
 rcases h.2 with⟨hv,_⟩|⟨g,cap,cur,hv,_⟩
 ·cases hv;exact .inl ⟨rfl,rfl⟩
 ·cases hv;exact .inr ⟨g,rfl⟩
def NodeAt (F:Nat→Prop) (w:World) (cs:List Value) (d:ND):Prop :=
 ∃aa ac ka kc,cs=cells7 d aa ac ka kc∧d.attrs.length≤ac∧ac≤maxLen∧(aa=none→ac=0)∧d.kids.length≤kc∧kc≤maxLen∧RowForm ka kc∧AtF F w aa (pairsV d.attrs)∧AtF F w ka (intsV d.kids)
theorem NodeAt.kept {F:Nat→Prop} {w w':World} {cs:List Value} {d:ND} (h:NodeAt F w cs d) (hk:Keeps F w w'):NodeAt F w' cs d:=by
 obtain⟨aa,ac,ka,kc,h1,h2,h3,h4,h5,h6,h7,h8,h9⟩:=h
 exact⟨aa,ac,ka,kc,h1,h2,h3,h4,h5,h6,h7,h8.kept hk,h9.kept hk⟩
theorem NodeAt.other {F G:Nat→Prop} {w:World} {cs:List Value} {d:ND} (h:NodeAt F w cs d) (hFG: ∀b,b<w.heap.size→G b→F b):NodeAt G w cs d:=by
 obtain⟨aa,ac,ka,kc,h1,h2,h3,h4,h5,h6,h7,h8,h9⟩:=h
 exact⟨aa,ac,ka,kc,h1,h2,h3,h4,h5,h6,h7,h8.other hFG,h9.other hFG⟩
theorem NodeAt.len {F:Nat→Prop} {w:World} {cs:List Value} {d:ND} (h:NodeAt F w cs d):cs.length=7:=by
 obtain⟨aa,ac,ka,kc,rfl,_⟩:=h
 rfl
theorem flat7_get: ∀(Cs:List (List Value)) (i f:Nat) (hi:i<Cs.length),(∀c∈Cs,c.length=7)→f<7→Cs.flatten[i*7+f]?=Cs[i][f]?
 | [],_,_,hi,_,_=>by simp at hi
 |c::r,0,f,_,h,hf=>by
  rw[List.flatten_cons,List.getElem?_append_left (by rw[h c List.mem_cons_self];omega)]
  simp
 |c::r,i+1,f,hi,h,hf=>by
  have h7:=h c List.mem_cons_self
  rw[List.flatten_cons,List.getElem?_append_right (by rw[h7];omega),h7,show(i+1)*7+f-7=i*7+f from by omega]
  rw[flat7_get r i f (by simpa using hi) (fun x hx=>h x (List.mem_cons_of_mem _ hx)) hf]
  simp
theorem flat7_set: ∀(Cs:List (List Value)) (i f:Nat) (v:Value) (hi:i<Cs.length),(∀c∈Cs,c.length=7)→f<7→Cs.flatten.set (i*7+f) v=(Cs.set i (Cs[i].set f v)).flatten
 | [],_,_,_,hi,_,_=>by simp at hi
 |c::r,0,f,v,_,h,hf=>by
  rw[List.flatten_cons,List.set_append_left _ _ (by rw[h c List.mem_cons_self];omega)]
  simp
 |c::r,i+1,f,v,hi,h,hf=>by
  have h7:=h c List.mem_cons_self
  rw[List.flatten_cons,List.set_append_right _ _ (by rw[h7];omega),h7,show(i+1)*7+f-7=i*7+f from by omega]
  rw[flat7_set r i f v (by simpa using hi) (fun x hx=>h x (List.mem_cons_of_mem _ hx)) hf]
  simp
structure TreeD where
 nodes:List ND
 most:Int
 /--blocks that its data avoid -/
 far:Nat→Prop
def noFar:Nat→Prop:=fun _=>False
def Two (tb g:Nat):Nat→Prop:=fun k=>k=tb∨k=g
def Dat (far:Nat→Prop) (tb g:Nat):Nat→Prop:=fun k=>Two tb g k∨far k
def TreeAt (tT tN:TypeId) (w:World) (tb g:Nat) (T:TreeD):Prop :=
 ∃cap Cs,tb≠g∧w.heap[tb]?=some (.cells #[.slice (some ⟨g,0,none⟩) T.nodes.length cap,.int .i64 T.most] tT (0,0)) ∧
  w.ownsRow 0 tN 7 (.slice (some ⟨g,0,none⟩) T.nodes.length cap) T.nodes.length (List.flatten Cs)∧Cs.length=T.nodes.length ∧
  (∀i (h:i<Cs.length) (h':i<T.nodes.length),NodeAt (Dat T.far tb g) w Cs[i] T.nodes[i])∧ ∀k,T.far k→k<w.heap.size∧k≠tb∧k≠g
section
variable {tT tN:TypeId} {w w':World} {tb g:Nat} {T:TreeD}
theorem TreeAt.lt (h:TreeAt tT tN w tb g T):tb<w.heap.size∧g<w.heap.size:=by
 obtain⟨cap,Cs,hne,ht,ho,hl,hn,hfar⟩:=h
 refine⟨?_,(ho.lt g rfl).2⟩
 rcases Nat.lt_or_ge tb w.heap.size with h|h
 ·exact h
 ·simp[Array.getElem?_eq_none h]at ht
theorem TreeAt.far_lt (h:TreeAt tT tN w tb g T): ∀k,T.far k→k<w.heap.size∧k≠tb∧k≠g:=by
 obtain⟨cap,Cs,hne,ht,ho,hl,hn,hfar⟩:=h
 exact hfar
theorem TreeAt.below (h:TreeAt tT tN w tb g T) (hb:Below w.heap.size w w'):TreeAt tT tN w' tb g T:=by
 have hlt:=h.lt
 obtain⟨cap,Cs,hne,ht,ho,hl,hn,hfar⟩:=h
 exact⟨cap,Cs,hne,(hb.block tb hlt.1).trans ht,own_below ho hb,hl,fun i h h'=>(hn i h h').kept (Keeps.ofBelow hb),fun k hk=>⟨Nat.lt_of_lt_of_le (hfar k hk).1 hb.size,(hfar k hk).2⟩⟩
theorem TreeAt.head (h:TreeAt tT tN w tb g T): ∃cap,T.nodes.length≤cap∧cap≤maxLen∧w.cell? ⟨tb,0,none⟩=some (.slice (some ⟨g,0,none⟩) T.nodes.length cap)∧w.cell? ⟨tb,1,none⟩=some (.int .i64 T.most) ∧
 w.frozen? ⟨tb,0,none⟩=false∧w.frozen? ⟨tb,1,none⟩=false:=by
 obtain⟨cap,Cs,hne,ht,ho,hl,hn,hfar⟩:=h
 obtain⟨a,c,hv,h1,h2,_⟩:=own_at ho
 simp only[Value.slice.injEq]at hv
 obtain⟨_,_,rfl⟩:=hv
 exact⟨cap,h1,h2,by simp[World.cell?,ht],by simp[World.cell?,ht],frozen_of_row _ _ _ _ _ ht,frozen_of_row _ _ _ _ _ ht⟩
theorem nodes_len {Cs:List (List Value)} (hl:Cs.length=T.nodes.length) (hn: ∀i (h:i<Cs.length) (h':i<T.nodes.length),NodeAt (Dat T.far tb g) w Cs[i] T.nodes[i]): ∀c∈Cs,c.length=7:=by
 intro c hc
 obtain⟨i,hi,rfl⟩:=List.getElem_of_mem hc
 exact(hn i hi (by omega)).len
theorem TreeAt.node (h:TreeAt tT tN w tb g T) {i:Nat} (hi:i<T.nodes.length) :
 ∃aa ac ka kc,T.nodes[i].attrs.length≤ac∧ac≤maxLen∧(aa=none→ac=0)∧T.nodes[i].kids.length≤kc∧kc≤maxLen∧RowForm ka kc ∧
  AtF (Dat T.far tb g) w aa (pairsV T.nodes[i].attrs)∧AtF (Dat T.far tb g) w ka (intsV T.nodes[i].kids) ∧
  (∀f v,(cells7 T.nodes[i] aa ac ka kc)[f]?=some v→w.cell? ⟨g,i*7+f,none⟩=some v)∧ ∀j,w.frozen? ⟨g,j,none⟩=false:=by
 obtain⟨cap,Cs,hne,ht,ho,hl,hn,hfar⟩:=h
 have h7:=nodes_len hl hn
 obtain⟨aa,ac,ka,kc,h1,h2,h3,h4,h5,h6,h7',h8,h9⟩:=hn i (by omega) hi
 refine⟨aa,ac,ka,kc,h2,h3,h4,h5,h6,h7',h8,h9,?_,ho.frozenAt⟩
 intro f v hf
 have hf7:f<7:=by
  have:=(List.getElem?_eq_some_iff.1 hf).1
  simpa[cells7] using this
 refine(own_row ho).cell ?_
 rw[flat7_get Cs i f (by omega) h7 hf7,h1]
 exact hf
theorem TreeAt.write (h:TreeAt tT tN w tb g T) {i:Nat} (hi:i<T.nodes.length) (f:Nat) (hf:f<7) (v:Value) (d:ND)
 (hd: ∀cs,NodeAt (Dat T.far tb g) w cs T.nodes[i]→NodeAt (Dat T.far tb g) w (cs.set f v) d) :
 TreeAt tT tN (w.setCell ⟨g,i*7+f,none⟩ v) tb g {T with nodes:=T.nodes.set i d}:=by
 obtain⟨cap,Cs,hne,ht,ho,hl,hn,hfar⟩:=h
 have h7:=nodes_len hl hn
 have hk:Keeps (Dat T.far tb g) w (w.setCell ⟨g,i*7+f,none⟩ v):=(Keeps.refl _ _).set (.inl (.inl (.inr rfl))) v
 refine⟨cap,Cs.set i (Cs[i].set f v),hne,?_,?_,by simpa using hl,?_,fun k hk=>by rw[World.size_setCell];exact hfar k hk⟩
 ·rw[heap_setCell_other _ _ _ _ hne];simpa using ht
 ·rw[←flat7_set Cs i f v (by omega) h7 hf]
  simpa using (ho.stored (i*7+f) v).1
 ·intro j hj hj'
  simp only[List.length_set]at hj hj'
  simp only[List.getElem_set]
  split
  ·rename_i e
   subst e
   exact(hd _ (hn i hj hj')).kept hk
  ·exact(hn j hj hj').kept hk
end
end Go.Proofs.YtpnagbgpbajfeaaGreatDoor.Mem
namespace Go.Proofs.YtpnagbgpbajfeaaGreatDoor.Mem
open Go Go.RowKit
section
variable {tT tN:TypeId} {w w':World} {tb g:Nat} {T:TreeD}
theorem TreeAt.open_ (h:TreeAt tT tN w tb g T): ∃cap Cs,tb≠g∧w.heap[tb]?=some (.cells #[.slice (some ⟨g,0,none⟩) T.nodes.length cap,.int .i64 T.most] tT (0,0)) ∧
 w.ownsRow 0 tN 7 (.slice (some ⟨g,0,none⟩) T.nodes.length cap) T.nodes.length (List.flatten Cs)∧Cs.length=T.nodes.length ∧
 (∀i (h:i<Cs.length) (h':i<T.nodes.length),NodeAt (Dat T.far tb g) w Cs[i] T.nodes[i])∧ ∀k,T.far k→k<w.heap.size∧k≠tb∧k≠g:=h
theorem tree_push {cap cap' g':Nat} {Cs:List (List Value)} {cs:List Value} {d:ND} (hne:tb≠g) (ht:w.heap[tb]?=some (.cells #[.slice (some ⟨g,0,none⟩) T.nodes.length cap,.int .i64 T.most] tT (0,0)))
 (hl:Cs.length=T.nodes.length) (hn: ∀i (h:i<Cs.length) (h':i<T.nodes.length),NodeAt (Dat T.far tb g) w Cs[i] T.nodes[i]) (hfar: ∀k,T.far k→k<w.heap.size∧k≠tb∧k≠g)
 (hk:Keeps (· =g) w w') (ho:w'.ownsRow 0 tN 7 (.slice (some ⟨g',0,none⟩) (T.nodes.length+1) cap') (T.nodes.length+1) (List.flatten Cs++cs))
 (hg:g'=g∨w.heap.size≤g') (hd:NodeAt (Dat T.far tb g') w' cs d) :
 TreeAt tT tN (w'.setCell ⟨tb,0,none⟩ (.slice (some ⟨g',0,none⟩) (T.nodes.length+1) cap')) tb g' ⟨T.nodes++ [d],T.most,T.far⟩:=by
 have htb:tb<w.heap.size:=by
  rcases Nat.lt_or_ge tb w.heap.size with h|h
  ·exact h
  ·simp[Array.getElem?_eq_none h]at ht
 have hne':tb≠g':=by
  rcases hg with rfl|hg
  ·exact hne
  ·omega
 have ht':w'.heap[tb]?=some (.cells #[.slice (some ⟨g,0,none⟩) T.nodes.length cap,.int .i64 T.most] tT (0,0)):=(hk.block tb htb hne).trans ht
 have hs:Keeps (Dat T.far tb g') w' (w'.setCell ⟨tb,0,none⟩ (.slice (some ⟨g',0,none⟩) (T.nodes.length+1) cap')):=(Keeps.refl _ _).set (.inl (.inl (.inl rfl))) _
 refine⟨cap',Cs++ [cs],hne',?_,?_,by simp[hl],?_,fun k hk'=> ?_⟩
 ·rw[Lib.heap_setCell_same (i:=0) ht']
  simp
 ·have:(Cs++ [cs]).flatten=Cs.flatten++cs:=by simp
  rw[this]
  simp only[List.length_append,List.length_singleton]
  refine own_kept ho fun k hk'=> ?_
  simp only[Value.ownBlock,Option.some.injEq]at hk'
  subst hk'
  exact heap_setCell_other _ _ _ _ (Ne.symm hne')
 ·intro i hi hi'
  by_cases hlt:i<Cs.length
  ·have h1:(Cs++ [cs])[i]=Cs[i]:=List.getElem_append_left hlt
   have h2:(T.nodes++ [d])[i]'hi'=T.nodes[i]'(by omega):=List.getElem_append_left (by omega)
   rw[h1]
   show NodeAt _ _ _ ((T.nodes++ [d])[i]'hi')
   rw[h2]
   have h3:=hn i hlt (by omega)
   have h4:NodeAt (Dat T.far tb g) w' Cs[i] (T.nodes[i]'(by omega)):=h3.kept (hk.mono fun k _ h=> .inl (.inr h))
   --what the node holds lies where it lay in w
   have h5:NodeAt (Dat T.far tb g') w Cs[i] (T.nodes[i]'(by omega)):=h3.other fun b hb hh=>by
    rcases hh with(hh|hh)|hh
    ·exact .inl (.inl hh)
    ·rcases hg with rfl|hg
     ·exact .inl (.inr hh)
     ·omega
    ·exact .inr hh
   have h6:NodeAt (Dat T.far tb g') w' Cs[i] (T.nodes[i]'(by omega)):=by
    obtain⟨aa,ac,ka,kc,q1,q2,q3,q4,q5,q6,q7,q8,q9⟩:=h5
    obtain⟨aa',ac',ka',kc',r1,r2,r3,r4,r5,r6,r7,r8,r9⟩:=h3
    rw[q1]at r1
    simp only[cells7,List.cons.injEq,Value.slice.injEq,and_true,true_and]at r1
    obtain⟨⟨rfl,rfl⟩,⟨rfl,rfl⟩⟩:=r1
    refine⟨aa,ac,ka,kc,q1,q2,q3,q4,q5,q6,q7,?_,?_⟩
    ·intro j u hj
     obtain⟨b,o,rfl,hF,hc⟩:=q8 j u hj
     obtain⟨b',o',he,hF',hc'⟩:=r8 j u hj
     cases he
     refine⟨b,o,rfl,hF,?_⟩
     rw[World.cell?_of_block (w:=w) (hk.block b (lt_of_cell hc) fun e=>hF' (.inl (.inr e)))]
     exact hc
    ·intro j u hj
     obtain⟨b,o,rfl,hF,hc⟩:=q9 j u hj
     obtain⟨b',o',he,hF',hc'⟩:=r9 j u hj
     cases he
     refine⟨b,o,rfl,hF,?_⟩
     rw[World.cell?_of_block (w:=w) (hk.block b (lt_of_cell hc) fun e=>hF' (.inl (.inr e)))]
     exact hc
   exact h6.kept hs
  ·have he:i=Cs.length:=by simp at hi;omega
   subst he
   have h1:(Cs++ [cs])[Cs.length]'hi=cs:=by simp
   have h2:(T.nodes++ [d])[Cs.length]'hi'=d:=by simp[hl]
   rw[h1]
   show NodeAt _ _ _ ((T.nodes++ [d])[Cs.length]'hi')
   rw[h2]
   exact hd.kept hs
 ·obtain⟨k1,k2,k3⟩:=hfar k hk'
  have:=hk.size
  refine⟨by rw[World.size_setCell];omega,k2,?_⟩
  rcases hg with rfl|hg
  ·exact k3
  ·omega
end
end Go.Proofs.YtpnagbgpbajfeaaGreatDoor.Mem
namespace Go.Proofs.YtpnagbgpbajfeaaGreatDoor.Mem
open Go Go.RowKit
theorem row_lt {w:World} {b:Nat} {o:Obj} (h:w.heap[b]?=some o):b<w.heap.size:=by
 rcases Nat.lt_or_ge b w.heap.size with h'|h'
 ·exact h'
 ·simp[Array.getElem?_eq_none h']at h
theorem own_atF {F:Nat→Prop} {w:World} {base:Nat} {e:TypeId} {size:Nat} {v:Value} {n:Nat} {xs:List Value} (h:w.ownsRow base e size v n xs) (hF: ∀k,F k→k<base) :
 ∃a c,v= .slice a n c∧n≤c∧c≤maxLen∧RowForm a c∧AtF F w a xs:=by
 obtain⟨a,c,rfl,h1,h2,h3,h4⟩:=own_at h
 refine⟨a,c,rfl,h1,h2,own_form h,AtF.of_new h4 fun b o s ha hb=> ?_⟩
 subst ha
 have hb':=hF b hb
 rcases h.2 with⟨hv,_⟩|⟨g,cap,cur,hv,hg,_⟩
 ·cases hv
 ·cases hv
  omega
theorem step_append_slice {P:Program} {w:World} {ops:Array Oper} {o:Oper} {a:Act} {K:Act→World→Prop} {Q:Exit→Act→World→Prop} {E:Prop} (hgd:o.guard=none) (s x:Operand) (t:TypeId)
 (ho:o.op= .call {callee:= .builtin .append,args:= #[s,x],argTypes:= #[t,t]})
 (base:Nat) (e:TypeId) (i:TypeInfo) (z:Value) (size bytes:Nat) (ht:P.underlying t=some (.slice e)) (hi:P.info? e=some i) (hz:i.zero=some z)
 (hsize:i.size=size) (hby:i.bytes=bytes) (hzs:z.cells.size=size) (hsz:0<size)
 (v:Value) (n:Nat) (xs:List Value) (hs:a.eval s=v) (hown:w.ownsRow base e size v n xs)
 (ao:Option Addr) (m c:Nat) (news:List Value) (hx:a.eval x= .slice ao m c) (hl:news.length=m*size) (hnil:ao=none→c=0) (hat:At w ao news) (h1: ∀u∈news,u.oneCell'=true)
 (h63:n+m≤maxLen) (hbytes:(n+m)*bytes≤140737488355328) (hbase:base≤w.heap.size)
 (h: ∀v' w',w'.ownsRow base e size v' (n+m) (xs++news)→w.grownBy w' v.ownBlock→K (a.put o.dst v') w') :
 if Region.wanted o (yielded ops a.tmps)=true then Oper.wp P o a w K Q else E:=by
 have hw:Region.wanted o (yielded ops a.tmps)=true:=by simp[Region.wanted,hgd]
 rw[if_pos hw]
 cases ao with
 |some ad=>exact wp_append_own w s x t ho base e i z size bytes ht hi hz hsize hby hzs hsz v n xs hs hown ad m c news hx hl hat.news h1 h63 hbytes hbase fun v' w' h2 h3 _=>h v' w' h2 h3
 |none =>
  obtain rfl:c=0:=hnil rfl
  have hn:news= []:=by
   cases news with
   |nil=>rfl
   |cons u r=>obtain⟨b,q,he,_⟩:=hat 0 u rfl;cases he
  subst hn
  obtain rfl:m=0:=by
   have:m*size=0:=by simpa using hl.symm
   rcases Nat.mul_eq_zero.1 this with h|h
   ·exact h
   ·omega
  have hrun:=run_append_owned_none (P:=P) (w:=w) base t o.type e i size ht hi v n xs hown
  unfold Oper.wp
  simp[execOp,ho,resolve,invoke,builtin,hs,hx,hrun,Result.andThen]
  exact h v w (by simpa using hown) (World.grownBy.refl _ _)
theorem cell_grown {w w':World} {row:Option Nat} {p:Addr} {v:Value} (h:w.cell? p=some v) (hg:w.grownBy w' row) (hne:some p.block≠row):w'.cell? p=some v:=by
 rw[World.cell?_of_block (w:=w) (hg.block p.block (lt_of_cell h) hne)]
 exact h
end Go.Proofs.YtpnagbgpbajfeaaGreatDoor.Mem
namespace Go.Proofs.YtpnagbgpbajfeaaGreatDoor.Mem
open Go Go.RowKit
inductive NT where
 |mk (kind space:Int) (name:ByteArray) (attrs:List Pair) (text:ByteArray) (kids:List NT)
def nodeV (kind space:Int) (name:ByteArray) (a:Option Addr) (n c:Nat) (text:ByteArray) (ka:Option Addr) (kn kc:Nat):List Value :=
 [.int .i64 kind,.int .i64 space,.string name,.slice a n c,.string text,.slice ka kn kc]
inductive NodeC (F:Nat→Prop) (w:World):List Value→NT→Prop
 |mk {kind space:Int} {name:ByteArray} {a:Option Addr} {c:Nat} {attrs:List Pair} {text:ByteArray} {ka:Option Addr} {kc:Nat} {kids:List NT} (css:List (List Value))
   (h1:attrs.length≤c) (h2:c≤maxLen) (h3:a=none→c=0) (h4:AtF F w a (pairsV attrs))
   (k1:kids.length≤kc) (k2:kc≤maxLen) (k3:ka=none→kc=0) (k4:AtF F w ka css.flatten) (hl:css.length=kids.length)
   (hk: ∀i (h:i<css.length) (h':i<kids.length),NodeC F w css[i] kids[i]):NodeC F w (nodeV kind space name a attrs.length c text ka kids.length kc) (.mk kind space name attrs text kids)
theorem NodeC.len {F:Nat→Prop} {w:World} {cs:List Value} {n:NT} (h:NodeC F w cs n):cs.length=6:=by
 cases h;rfl
theorem NodeC.kept {F:Nat→Prop} {w w':World} {cs:List Value} {n:NT} (h:NodeC F w cs n) (hk:Keeps F w w'):NodeC F w' cs n:=by
 induction h with
 |mk css h1 h2 h3 h4 k1 k2 k3 k4 hl _ ih=>exact .mk css h1 h2 h3 (h4.kept hk) k1 k2 k3 (k4.kept hk) hl fun i h h'=>ih i h h'
theorem NodeC.other {F G:Nat→Prop} {w:World} {cs:List Value} {n:NT} (h:NodeC F w cs n) (hFG: ∀b,b<w.heap.size→G b→F b):NodeC G w cs n:=by
 induction h with
 |mk css h1 h2 h3 h4 k1 k2 k3 k4 hl _ ih=>exact .mk css h1 h2 h3 (h4.other hFG) k1 k2 k3 (k4.other hFG) hl fun i h h'=>ih i h h'
theorem flat6: ∀(Cs:List (List Value)),(∀c∈Cs,c.length=6)→Cs.flatten.length=Cs.length*6
 | [],_=>rfl
 |c::r,h=>by
  rw[List.flatten_cons,List.length_append,flat6 r fun x hx=>h x (List.mem_cons_of_mem _ hx),h c List.mem_cons_self,List.length_cons]
  omega
theorem flat6_get: ∀(Cs:List (List Value)) (i f:Nat) (hi:i<Cs.length),(∀c∈Cs,c.length=6)→f<6→Cs.flatten[i*6+f]?=Cs[i][f]?
 | [],_,_,hi,_,_=>by simp at hi
 |c::r,0,f,_,h,hf=>by
  rw[List.flatten_cons,List.getElem?_append_left (by rw[h c List.mem_cons_self];omega)]
  simp
 |c::r,i+1,f,hi,h,hf=>by
  have h6:=h c List.mem_cons_self
  rw[List.flatten_cons,List.getElem?_append_right (by rw[h6];omega),h6,show(i+1)*6+f-6=i*6+f from by omega]
  rw[flat6_get r i f (by simpa using hi) (fun x hx=>h x (List.mem_cons_of_mem _ hx)) hf]
  simp
theorem ret_node {P:Program} {fn:Func} {p q:Tmp} {ty:TypeId} (h:fn.results= #[.cell p ty,.tmp q]) (tmps:Array Value) (w:World) (g:Nat) (t:TypeId) (cs:Array Value) (fr:Nat×Nat) (d:TypeDesc) (u:Value)
 (hp:tmps.getD p undef= .pointer (some ⟨g,0,none⟩)) (hq:tmps.getD q undef=u) (hg:w.heap[g]?=some (.cells cs t fr))
 (hu:P.underlying ty=some d) (hd:(match d with| .struct _| .array _ _=>true|_=>false)=true) (hi:(P.info? ty).map (·.size)=some cs.size) :
 (results fn tmps).run P w= .ok (.tuple #[.agg cs,u]) w:=by
 have hp':tmps.getD p undef= .pointer (some ⟨g,0,none⟩):=hp
 rw[results_cell_tmp h,hp',hq]
 simp[asAddr,Result.andThen,run_loadVar_row w g t ty cs fr d hg hu hd hi]
end Go.Proofs.YtpnagbgpbajfeaaGreatDoor.Mem
namespace Go.Proofs.YtpnagbgpbajfeaaGreatDoor.Mem
open Go Go.RowKit
section
variable {tT tN:TypeId} {w w':World} {tb g:Nat} {T:TreeD}
theorem TreeAt.foreign {F far':Nat→Prop} (h:TreeAt tT tN w tb g T) (hk:Keeps F w w') (hF: ∀k,F k→T.far k) (hf: ∀k,far' k→(T.far k∨w.heap.size≤k)∧k<w'.heap.size):TreeAt tT tN w' tb g {T with far:=far'}:=by
 have hlt:=h.lt
 obtain⟨cap,Cs,hne,ht,ho,hl,hn,hfar⟩:=h
 have hFt: ∀k,F k→k≠tb∧k≠g:=fun k hk=>(hfar k (hF k hk)).2
 refine⟨cap,Cs,hne,(hk.block tb hlt.1 fun e=>(hFt tb e).1 rfl).trans ht,?_,hl,?_,?_⟩
 ·refine own_kept ho fun k hk'=> ?_
  simp only[Value.ownBlock,Option.some.injEq]at hk'
  subst hk'
  exact hk.block g hlt.2 fun e=>(hFt g e).2 rfl
 ·intro i h1 h2
  have h3:NodeAt (fun k=>Dat T.far tb g k∨Dat far' tb g k) w Cs[i] T.nodes[i]:=(hn i h1 h2).other fun b hb hh=>by
   rcases hh with hh|hh|hh
   ·exact hh
   ·exact .inl hh
   ·rcases(hf b hh).1 with h|h
    ·exact .inr h
    ·omega
  exact(h3.kept (hk.mono fun k _ h=> .inl (.inr (hF k h)))).other fun b _ hh=> .inr hh
 ·intro k hk'
  obtain⟨h1,h2⟩:=hf k hk'
  refine⟨h2,?_⟩
  rcases h1 with h1|h1
  ·exact(hfar k h1).2
  ·omega
end
end Go.Proofs.YtpnagbgpbajfeaaGreatDoor.Mem
end
