/- Texts joined for a claim: OpenH, OpenIK: plain laws and contracts. No conditions beyond those that each lemma types. -/
import Derived.Test.YtgepobccoffnaaaGreatDoorT04
set_option linter.unusedVariables false
set_option linter.unusedSimpArgs false
set_option maxRecDepth 100000
set_option maxHeartbeats 8000000
section
namespace Go.Proofs.YtgepobccoffnaaaGreatDoor
open Go.RowKit Mem
def Non:Nat→Prop:=fun _=>False
theorem keeps_grown {F:Nat→Prop} {W u u':World} {row:Option Nat} (h:Keeps F W u) (hg:u.grownBy u' row) (hr: ∀k,row=some k→W.heap.size≤k):Keeps F W u' :=
 ⟨hg.os.trans h.os,hg.tape.trans h.tape,hg.output.trans h.output,Nat.le_trans h.size hg.size,fun k hk hF=>(hg.block k (Nat.lt_of_lt_of_le hk h.size) fun e=>by have:=hr k e.symm;omega).trans (h.block k hk hF)⟩
theorem non_cell {W u:World} {p:Addr} {v:Value} (hk:Keeps Non W u) (hc:W.cell? p=some v):u.cell? p=some v:=by
 rw[World.cell?_of_block (w:=W) (hk.block p.block (lt_of_cell hc) (fun h=>h))];exact hc
theorem non_frozen {W u:World} {p:Addr} (hk:Keeps Non W u) (hc:p.block<W.heap.size):u.frozen? p=W.frozen? p :=
 World.frozen?_of_block (w:=W) (hk.block p.block hc (fun h=>h))
theorem non_set {W u:World} {p q:Addr} {v x:Value} (hk:Keeps Non W u) (hc:W.cell? p=some v) (hne:p.block≠q.block):(u.setCell q x).cell? p=some v:=by
 rw[World.cell?_of_block (w:=u) (Below.heap_setCell u q x p.block hne)]
 exact non_cell hk hc
theorem non_any {F:Nat→Prop} {W u:World} (hk:Keeps Non W u):Keeps F W u:=hk.mono fun _ _ h=>h.elim
theorem own_base {w:World} {base:Nat} {e:TypeId} {size:Nat} {v:Value} {n:Nat} {xs:List Value} (h:w.ownsRow base e size v n xs): ∀k,v.ownBlock=some k→base≤k:=fun k hk=>(h.lt k hk).1
theorem at_drop {w:World} {b:Nat} {l:List Int} (h:At w (some ⟨b,0,none⟩) (intsV l)) (i:Nat):At w (some ⟨b,i,none⟩) (intsV (l.drop i)):=by
 intro j u hj
 have:(intsV l)[i+j]?=some u:=by
  rw[←hj]
  simp[intsV,List.getElem?_drop]
 obtain⟨b',o,he,hc⟩:=h (i+j) u this
 cases he
 exact⟨b,i,rfl,by rw[show i+j=0+(i+j)from by omega];exact hc⟩
theorem at_take {w:World} {a:Option Addr} {l:List Int} (h:At w a (intsV l)) (i:Nat):At w a (intsV (l.take i)):=by
 refine At.left (ys:=intsV (l.drop i)) ?_
 rw[←intsV_append,List.take_append_drop]
 exact h
theorem at_if {w:World} {b:Nat} {l:List Int} (h:At w (some ⟨b,0,none⟩) (intsV l)) (i c:Nat) (hi:l.length≤c):At w (if c=i then some ⟨b,0,none⟩else some ⟨b,i,none⟩) (intsV (l.drop i)):=by
 split
 ·rename_i e
  have:l.drop i= []:=List.drop_of_length_le (by omega)
  rw[this]
  intro j u hj
  simp[intsV]at hj
 ·exact at_drop h i
theorem if_some {c i:Nat} {x y:Addr} {k:Nat}:(if c=i then some x else some y)=none→k=0:=by
 split <;>intro h <;>cases h
theorem at_one (w:World) (n:Int) (t:TypeId):At (w.alloc (.cells #[.int .i64 n] t)) (some ⟨w.heap.size,0,none⟩) [.int .i64 n]:=by
 intro j u hj
 refine⟨_,_,rfl,?_⟩
 rw[cell_of_row _ _ _ _ _ _ (heap_alloc_new w _)]
 simpa using hj
theorem at_grown {w w':World} {row:Option Nat} {b o:Nat} {xs:List Value} (h:At w (some ⟨b,o,none⟩) xs) (hg:w.grownBy w' row) (hne:some b≠row):At w' (some ⟨b,o,none⟩) xs:=by
 intro j u hj
 obtain⟨b',o',he,hc⟩:=h j u hj
 cases he
 exact⟨b,o,rfl,cell_grown hc hg hne⟩
theorem at_later {F:Nat→Prop} {w u:World} {a:Option Addr} {xs:List Value} (h:AtF F w a xs) (hk:Keeps F w u):At u a xs:=(h.kept hk).at
theorem non_below {W u:World} (h:Keeps Non W u):Below W.heap.size W u:=h.below (fun _ _ h=>h) (Nat.le_refl _)
theorem tree_kids {w:World} {tb g:Nat} {T:TreeD} (h:TreeO w tb g T) {a:Nat} (ha:a<T.nodes.length) {base:Nat} {v:Value} {l:List Int} {m:Nat} (ho:w.ownsRow base 3 1 v m (intsV l)) (hb1:tb<base) (hb2:g<base) (hb3: ∀k,T.far k→k<base) :
 TreeO (w.setCell ⟨g,a*7+6,none⟩ v) tb g (modN T a (setKids l)):=by
 have hm:m=l.length:=by
  have:=ho.1
  rw[intsV_length]at this
  omega
 subst hm
 rw[modN_of T a _ ha]
 refine TreeAt.write h ha 6 (by decide) v _ fun cs hcs=> ?_
 obtain⟨aa,ac,ka,kc,rfl,h2,h3,h4,h5,h6,h7,h8,h9⟩:=hcs
 obtain⟨a',c',rfl,k1,k2,k3,k4⟩:=own_atF (F:=Dat T.far tb g) ho (fun k hk=>by
  rcases hk with(rfl|rfl)|hk
  ·assumption
  ·assumption
  ·exact hb3 k hk)
 exact⟨aa,ac,a',c',rfl,h2,h3,h4,k1,k2,k3,h8,k4⟩
theorem tree_parent {w:World} {tb g:Nat} {T:TreeD} (h:TreeO w tb g T) {n:Nat} (hn:n<T.nodes.length) (p:Int):TreeO (w.setCell ⟨g,n*7+5,none⟩ (.int .i64 p)) tb g (modN T n (setParent p)):=by
 rw[modN_of T n _ hn]
 refine TreeAt.write h hn 5 (by decide) _ _ fun cs hcs=> ?_
 obtain⟨aa,ac,ka,kc,rfl,h2,h3,h4,h5,h6,h7,h8,h9⟩:=hcs
 exact⟨aa,ac,ka,kc,rfl,h2,h3,h4,h5,h6,h7,h8,h9⟩
theorem tree_text {w:World} {tb g:Nat} {T:TreeD} (h:TreeO w tb g T) {n:Nat} (hn:n<T.nodes.length) (s:ByteArray):TreeO (w.setCell ⟨g,n*7+4,none⟩ (.string (T.nodes[n].text++s))) tb g (modN T n (addText s)):=by
 rw[modN_of T n _ hn]
 refine TreeAt.write h hn 4 (by decide) _ _ fun cs hcs=> ?_
 obtain⟨aa,ac,ka,kc,rfl,h2,h3,h4,h5,h6,h7,h8,h9⟩:=hcs
 exact⟨aa,ac,ka,kc,rfl,h2,h3,h4,h5,h6,h7,h8,h9⟩
theorem tree_cells {w:World} {tb g:Nat} {T:TreeD} (h:TreeO w tb g T) {n:Nat} (hn:n<T.nodes.length) :
 (∃cap,T.nodes.length≤cap∧cap≤maxLen∧w.cell? ⟨tb,0,none⟩=some (.slice (some ⟨g,0,none⟩) T.nodes.length cap))∧w.cell? ⟨g,n*7+5,none⟩=some (.int .i64 T.nodes[n].parent)∧w.frozen? ⟨g,n*7+5,none⟩=false:=by
 obtain⟨cap,h1,h2,c0,_⟩:=h.head
 obtain⟨aa,ac,ka,kc,_,_,_,_,_,_,_,_,hc,hf⟩:=h.node hn
 exact⟨⟨cap,h1,h2,c0⟩,hc 5 _ rfl,hf _⟩
theorem insert_some (T:TreeD) (tb g:Nat) (w:World) (a i n:Nat) (ha:a<T.nodes.length) (hn:n<T.nodes.length) (l:List Int) (hl:l=T.nodes[a].kids) (hi:i≤l.length) (hk:l.length≤2097152) (h:TreeO w tb g T)
 (aa:Option Addr) (ac kb kc:Nat) (hk1:l.length≤kc) (hk2:kc≤maxLen) (hkat:AtF (Dat T.far tb g) w (some ⟨kb,0,none⟩) (intsV l))
 (hc: ∀f v,(cells7 T.nodes[a] aa ac (some ⟨kb,0,none⟩) kc)[f]?=some v→w.cell? ⟨g,a*7+f,none⟩=some v) (hf: ∀j,w.frozen? ⟨g,j,none⟩=false) :
 Calls Tryz.prog 202 #[.pointer (some ⟨tb,0,none⟩),.int .i64 a,.int .i64 i,.int .i64 n] w fun e w'=>e= .returned (.tuple #[])∧TreeO w' tb g (insertF T a i n)∧Keeps (Two tb g) w w':=by
 obtain⟨cap,h1,h2,c0,_,_,_⟩:=h.head
 obtain⟨_,Cs,hne,_⟩:=h.open_
 obtain⟨ht1,ht2⟩:=h.lt
 have d6:=hc 6 _ rfl
 rw[←hl]at d6
 have HF:Hid (modN (modN T a (setKids (l.take i++(n:Int)::l.drop i))) n (setParent a)=insertF T a i n):=Lib.hid (by rw[insertF,kidsF_of T a ha,←hl])
 have HT:=Lib.hid h
 have HK:=Lib.hid (hkat.other (G:=(· =g)) fun b _ hb=> .inl (.inr hb))
 have f6:=hf (a*7+6)
 unfold maxLen at h2 hk2
 have hi':(i:Int)≤(l.length:Int):=by omega
 have hi'':(i:Int)≤(kc:Int):=by omega
 obtain⟨i0,hi0,hz0,hz1,hz2⟩:=info_parts info_int
 clear h hc hf hkat hl
 go_enter Tryz.func202,Tryz.ntmps202
 go_wp2_with fail
 have K1:=Lib.hid ((Keeps.refl Non w).alloc (.cells #[] 3)).drew
 have K2:=Lib.hid (((Keeps.refl Non w).alloc (.cells #[] 3)).alloc (.cells #[.int .i64 n] 3)).drew
 have K4:=Lib.hid ((Keeps.refl Non w).alloc (.cells #[.int .i64 n] 3)).drew
 have K3:=Lib.hid (((Keeps.refl Non w).alloc (.cells #[.int .i64 n] 3)).alloc (.cells #[] 3)).drew
 have O1:Hid ((w.alloc (.cells #[] 3)).drew.ownsRow w.heap.size 3 1 (.slice (some ⟨w.heap.size,0,none⟩) 0 0) 0 []):=Lib.hid (World.ownsRow_lit w #[] 0 (Nat.le_refl _) (Nat.zero_le _) rfl).drew
 have O2:=Lib.hid (((World.ownsRow_lit (base:=w.heap.size) (e:=3) (size:=1) w #[] 0 (Nat.le_refl _) (Nat.zero_le _) rfl).alloc (.cells #[.int .i64 n] 3)).drew)
 have O3:Hid (((w.alloc (.cells #[.int .i64 n] 3)).alloc (.cells #[] 3)).drew.ownsRow w.heap.size 3 1 (.slice (some ⟨w.heap.size+1,0,none⟩) 0 0) 0 []):=Lib.hid (by
  have:=World.ownsRow_lit (base:=w.heap.size) (e:=3) (size:=1) (w.alloc (.cells #[.int .i64 n] 3)) #[] 0 (by simp) (Nat.zero_le _) rfl
  exact World.ownsRow.drew (by simpa using this))
 have N2:Hid (At ((w.alloc (.cells #[] 3)).alloc (.cells #[.int .i64 n] 3)).drew (some ⟨w.heap.size+1,0,none⟩) [.int .i64 n]):=Lib.hid (by
  have:=(at_one (w.alloc (.cells #[] 3)) n 3).below (Below.refl _ _).drew
  simpa using this)
 have N3:Hid (At ((w.alloc (.cells #[.int .i64 n] 3)).alloc (.cells #[] 3)).drew (some ⟨w.heap.size,0,none⟩) [.int .i64 n]):=Lib.hid ((at_one w n 3).below ((Below.refl _ _).alloc (Nat.le_refl _) _).drew)
 have b0:0+i≤maxLen:=by unfold maxLen;omega
 have b1:(0+i)*8≤140737488355328:=by omega
 have b2:i+1≤maxLen:=by unfold maxLen;omega
 have b3:(i+1)*8≤140737488355328:=by omega
 have b4:i+1+(l.length-i)≤maxLen:=by unfold maxLen;omega
 have b5:(i+1+(l.length-i))*8≤140737488355328:=by omega
 have L1:Hid ((intsV (l.take i)).length=i*1):=Lib.hid (by rw[intsV_length,List.length_take];omega)
 have L2:Hid ((intsV (l.drop i)).length=(l.length-i)*1):=Lib.hid (by rw[intsV_length,List.length_drop];omega)
 have hkc:l.length≤kc:=hk1
 have B1:Hid (∀k,(Value.slice (some ⟨w.heap.size,0,none⟩) 0 0).ownBlock=some k→w.heap.size≤k):=Lib.hid (fun k e=>by simp only[Value.ownBlock,Option.some.injEq]at e;omega)
 have B3:Hid (∀k,(Value.slice (some ⟨w.heap.size+1,0,none⟩) 0 0).ownBlock=some k→w.heap.size≤k):=Lib.hid (fun k e=>by simp only[Value.ownBlock,Option.some.injEq]at e;omega)
 have E2:Hid (some (w.heap.size+1)≠(Value.slice (some ⟨w.heap.size,0,none⟩) 0 0).ownBlock):=Lib.hid (fun e=>by simp only[Value.ownBlock,Option.some.injEq]at e;omega)
 have E3:Hid (some w.heap.size≠(Value.slice (some ⟨w.heap.size+1,0,none⟩) 0 0).ownBlock):=Lib.hid (fun e=>by simp only[Value.ownBlock,Option.some.injEq]at e;omega)
 have HLL:Hid (intsV (l.take i)++ [.int .i64 n]++intsV (l.drop i)=intsV (l.take i++(n:Int)::l.drop i)):=Lib.hid (by rw[intsV_append,List.append_assoc];rfl)
 have HKA:=Lib.hid (HK.out.other (G:=Non) (fun b _ hb=>hb.elim))
 have hSz:w.heap.size≤w.heap.size+1+1:=by omega
 go_region_held3 (fun u=>u.cell? ⟨tb,0,none⟩=some (.slice (some ⟨g,0,none⟩) T.nodes.length cap))
  (first|exact c0|exact non_cell K1.out c0|exact non_cell K2.out c0|exact non_cell K3.out c0|exact non_cell K4.out c0|exact non_cell K26.out c0|exact non_cell (K26.out.alloc _) c0|exact non_cell K29.out c0|exact non_cell K33.out c0|exact non_set K33.out c0 hne)
  (first
    |(refine step_append_slice (by rfl) (.tmp 22) (.tmp 25) _ (by rfl) w.heap.size 3 i0 _ 1 8 Tryz.underlying75 hi0 hz0 hz1 hz2 rfl (by decide) _ 0 [] (by rfl) (by first|exact O1.out|exact O2.out|exact O3.out) (some ⟨kb,0,none⟩) i kc (intsV (l.take i)) (by rfl) L1.out (fun e=>by cases e) (by first|exact at_take (at_later HKA.out K1.out) i|exact at_take (at_later HKA.out K2.out) i|exact at_take (at_later HKA.out K3.out) i) (intsV_one _) b0 b1 (by first|exact K1.out.size|exact K2.out.size|exact K3.out.size) ?_
      intro v26 w26 hown26 hgr26
      simp only[Nat.zero_add,List.nil_append]at hown26
      have K26:Hid (Keeps Non w w26):=Lib.hid (by first|exact keeps_grown K1.out hgr26 B1.out|exact keeps_grown K2.out hgr26 B1.out|exact keeps_grown K3.out hgr26 B3.out)
      first|have N26:=Lib.hid (at_grown N2.out hgr26 E2.out)|have N26:=Lib.hid (at_grown N3.out hgr26 E3.out)|skip
      obtain⟨a26,c26,rfl,_,_,_,_⟩:=own_at hown26
      have O26:=Lib.hid hown26
      clear hown26 hgr26)
    |(refine step_append_slice (by rfl) (.tmp 26) (.tmp 28) _ (by rfl) w.heap.size 3 i0 _ 1 8 Tryz.underlying75 hi0 hz0 hz1 hz2 rfl (by decide) _ i (intsV (l.take i)) (by rfl) (by first|exact O26.out|exact O26.out.alloc _) (some ⟨_,0,none⟩) 1 1 [.int .i64 n] (by rfl) (by rfl) (fun e=>by cases e) (by first|exact N26.out|exact at_one _ _ _) (intsV_one [_]) b2 b3 (by first|exact K26.out.size|exact(K26.out.alloc _).size) ?_
      intro v29 w29 hown29 hgr29
      have K29:Hid (Keeps Non w w29):=Lib.hid (by first|exact keeps_grown K26.out hgr29 (own_base O26.out)|exact keeps_grown (K26.out.alloc _) hgr29 (own_base O26.out))
      obtain⟨a29,c29,rfl,_,_,_,_⟩:=own_at hown29
      have O29:=Lib.hid hown29
      clear hown29 hgr29)
    |(refine step_append_slice (by rfl) (.tmp 29) (.tmp 32) _ (by rfl) w.heap.size 3 i0 _ 1 8 Tryz.underlying75 hi0 hz0 hz1 hz2 rfl (by decide) _ (i+1) _ (by rfl) O29.out (if kc=i then some ⟨kb,0,none⟩else some ⟨kb,i,none⟩) (l.length-i) (kc-i) (intsV (l.drop i)) (by rfl) L2.out if_some (at_if (at_later HKA.out K29.out) i kc hkc) (intsV_one _) b4 b5 K29.out.size ?_
      intro v33 w33 hown33 hgr33
      have K33:Hid (Keeps Non w w33):=Lib.hid (keeps_grown K29.out hgr33 (own_base O29.out))
      have c33:=non_cell K33.out d6
      have f33:=(non_frozen (p:=⟨g,a*7+6,none⟩) K33.out ht2).trans f6
      obtain⟨a33,c33',rfl,_,_,_,_⟩:=own_at hown33
      have O33:=Lib.hid hown33
      clear hown33 hgr33))
 all_goals
  have hT34:=tree_kids (HT.out.below (non_below K33.out)) ha (by rw[←HLL.out];exact O33.out) ht1 ht2 (fun k hk=>(HT.out.far_lt k hk).1)
  obtain⟨⟨cap4,k1,k2,e0⟩,e5,e5'⟩:=tree_cells hT34 (n:=n) (by rw[modN_len];exact hn)
  have hT35:=tree_parent hT34 (n:=n) (by rw[modN_len];exact hn) a
  have hK34:=((non_any (F:=Two tb g) K33.out).set (p:=⟨g,a*7+6,none⟩) (.inl (.inr rfl)) (.slice a33 (i+1+(l.length-i)) c33')).set (p:=⟨g,n*7+5,none⟩) (.inl (.inr rfl)) (.int .i64 a)
  rw[modN_len]at k1 e0
  have HT35:=Lib.hid hT35
  have HK34:=Lib.hid hK34
  unfold maxLen at k2
  clear hT34 hT35 hK34
  go_wp2_with fail
  all_goals
   go_end0
   exact⟨rfl,HF.out▸HT35.out,HK34.out⟩
theorem insert_none (T:TreeD) (tb g:Nat) (w:World) (a n:Nat) (ha:a<T.nodes.length) (hn:n<T.nodes.length) (hl:T.nodes[a].kids= []) (h:TreeO w tb g T)
 (aa:Option Addr) (ac:Nat)
 (hc: ∀f v,(cells7 T.nodes[a] aa ac none 0)[f]?=some v→w.cell? ⟨g,a*7+f,none⟩=some v) (hf: ∀j,w.frozen? ⟨g,j,none⟩=false) :
 Calls Tryz.prog 202 #[.pointer (some ⟨tb,0,none⟩),.int .i64 a,.int .i64 0,.int .i64 n] w fun e w'=>e= .returned (.tuple #[])∧TreeO w' tb g (insertF T a 0 n)∧Keeps (Two tb g) w w':=by
 obtain⟨cap,h1,h2,c0,_,_,_⟩:=h.head
 obtain⟨_,Cs,hne,_⟩:=h.open_
 obtain⟨ht1,ht2⟩:=h.lt
 have d6:=hc 6 _ rfl
 rw[hl]at d6
 have HF:Hid (modN (modN T a (setKids [(n:Int)])) n (setParent a)=insertF T a 0 n):=Lib.hid (by rw[insertF,kidsF_of T a ha,hl];rfl)
 have HT:=Lib.hid h
 have f6:=hf (a*7+6)
 unfold maxLen at h2
 obtain⟨i0,hi0,hz0,hz1,hz2⟩:=info_parts info_int
 clear h hc hf hl
 go_enter Tryz.func202,Tryz.ntmps202
 go_wp2_with fail
 have K1:=Lib.hid ((Keeps.refl Non w).alloc (.cells #[] 3)).drew
 have K2:=Lib.hid (((Keeps.refl Non w).alloc (.cells #[] 3)).alloc (.cells #[.int .i64 n] 3)).drew
 have K4:=Lib.hid ((Keeps.refl Non w).alloc (.cells #[.int .i64 n] 3)).drew
 have K3:=Lib.hid (((Keeps.refl Non w).alloc (.cells #[.int .i64 n] 3)).alloc (.cells #[] 3)).drew
 have O1:Hid ((w.alloc (.cells #[] 3)).drew.ownsRow w.heap.size 3 1 (.slice (some ⟨w.heap.size,0,none⟩) 0 0) 0 []):=Lib.hid (World.ownsRow_lit w #[] 0 (Nat.le_refl _) (Nat.zero_le _) rfl).drew
 have O2:=Lib.hid (((World.ownsRow_lit (base:=w.heap.size) (e:=3) (size:=1) w #[] 0 (Nat.le_refl _) (Nat.zero_le _) rfl).alloc (.cells #[.int .i64 n] 3)).drew)
 have O3:Hid (((w.alloc (.cells #[.int .i64 n] 3)).alloc (.cells #[] 3)).drew.ownsRow w.heap.size 3 1 (.slice (some ⟨w.heap.size+1,0,none⟩) 0 0) 0 []):=Lib.hid (by
  have:=World.ownsRow_lit (base:=w.heap.size) (e:=3) (size:=1) (w.alloc (.cells #[.int .i64 n] 3)) #[] 0 (by simp) (Nat.zero_le _) rfl
  exact World.ownsRow.drew (by simpa using this))
 have N2:Hid (At ((w.alloc (.cells #[] 3)).alloc (.cells #[.int .i64 n] 3)).drew (some ⟨w.heap.size+1,0,none⟩) [.int .i64 n]):=Lib.hid (by
  have:=(at_one (w.alloc (.cells #[] 3)) n 3).below (Below.refl _ _).drew
  simpa using this)
 have N3:Hid (At ((w.alloc (.cells #[.int .i64 n] 3)).alloc (.cells #[] 3)).drew (some ⟨w.heap.size,0,none⟩) [.int .i64 n]):=Lib.hid ((at_one w n 3).below ((Below.refl _ _).alloc (Nat.le_refl _) _).drew)
 have B1:Hid (∀k,(Value.slice (some ⟨w.heap.size,0,none⟩) 0 0).ownBlock=some k→w.heap.size≤k):=Lib.hid (fun k e=>by simp only[Value.ownBlock,Option.some.injEq]at e;omega)
 have B3:Hid (∀k,(Value.slice (some ⟨w.heap.size+1,0,none⟩) 0 0).ownBlock=some k→w.heap.size≤k):=Lib.hid (fun k e=>by simp only[Value.ownBlock,Option.some.injEq]at e;omega)
 have E2:Hid (some (w.heap.size+1)≠(Value.slice (some ⟨w.heap.size,0,none⟩) 0 0).ownBlock):=Lib.hid (fun e=>by simp only[Value.ownBlock,Option.some.injEq]at e;omega)
 have E3:Hid (some w.heap.size≠(Value.slice (some ⟨w.heap.size+1,0,none⟩) 0 0).ownBlock):=Lib.hid (fun e=>by simp only[Value.ownBlock,Option.some.injEq]at e;omega)
 have hSz:w.heap.size≤w.heap.size+1+1:=by omega
 go_region_held3 (fun u=>u.cell? ⟨tb,0,none⟩=some (.slice (some ⟨g,0,none⟩) T.nodes.length cap))
  (first|exact c0|exact non_cell K1.out c0|exact non_cell K2.out c0|exact non_cell K3.out c0|exact non_cell K4.out c0|exact non_cell K26.out c0|exact non_cell (K26.out.alloc _) c0|exact non_cell K29.out c0|exact non_cell K33.out c0|exact non_set K33.out c0 hne)
  (first
    |(refine step_append_slice (by rfl) (.tmp 22) (.tmp 25) _ (by rfl) w.heap.size 3 i0 _ 1 8 Tryz.underlying75 hi0 hz0 hz1 hz2 rfl (by decide) _ 0 [] (by rfl) (by first|exact O1.out|exact O2.out|exact O3.out) none 0 0 [] (by rfl) (by rfl) (fun _=>rfl) (At.nil _ _) (fun u hu=>by cases hu) (by decide) (by decide) (by first|exact K1.out.size|exact K2.out.size|exact K3.out.size) ?_
      intro v26 w26 hown26 hgr26
      simp only[Nat.zero_add,List.nil_append]at hown26
      have K26:Hid (Keeps Non w w26):=Lib.hid (by first|exact keeps_grown K1.out hgr26 B1.out|exact keeps_grown K2.out hgr26 B1.out|exact keeps_grown K3.out hgr26 B3.out)
      first|have N26:=Lib.hid (at_grown N2.out hgr26 E2.out)|have N26:=Lib.hid (at_grown N3.out hgr26 E3.out)|skip
      obtain⟨a26,c26,rfl,_,_,_,_⟩:=own_at hown26
      have O26:=Lib.hid hown26
      clear hown26 hgr26)
    |(refine step_append_slice (by rfl) (.tmp 26) (.tmp 28) _ (by rfl) w.heap.size 3 i0 _ 1 8 Tryz.underlying75 hi0 hz0 hz1 hz2 rfl (by decide) _ 0 [] (by rfl) (by first|exact O26.out|exact O26.out.alloc _) (some ⟨_,0,none⟩) 1 1 [.int .i64 n] (by rfl) (by rfl) (fun e=>by cases e) (by first|exact N26.out|exact at_one _ _ _) (intsV_one [_]) (by decide) (by decide) (by first|exact K26.out.size|exact(K26.out.alloc _).size) ?_
      intro v29 w29 hown29 hgr29
      simp only[Nat.zero_add,List.nil_append]at hown29
      have K29:Hid (Keeps Non w w29):=Lib.hid (by first|exact keeps_grown K26.out hgr29 (own_base O26.out)|exact keeps_grown (K26.out.alloc _) hgr29 (own_base O26.out))
      obtain⟨a29,c29,rfl,_,_,_,_⟩:=own_at hown29
      have O29:=Lib.hid hown29
      clear hown29 hgr29)
    |(refine step_append_slice (by rfl) (.tmp 29) (.tmp 32) _ (by rfl) w.heap.size 3 i0 _ 1 8 Tryz.underlying75 hi0 hz0 hz1 hz2 rfl (by decide) _ 1 _ (by rfl) O29.out none 0 0 [] (by rfl) (by rfl) (fun _=>rfl) (At.nil _ _) (fun u hu=>by cases hu) (by decide) (by decide) K29.out.size ?_
      intro v33 w33 hown33 hgr33
      simp only[Nat.add_zero,List.append_nil]at hown33
      have K33:Hid (Keeps Non w w33):=Lib.hid (keeps_grown K29.out hgr33 (own_base O29.out))
      have c33:=non_cell K33.out d6
      have f33:=(non_frozen (p:=⟨g,a*7+6,none⟩) K33.out ht2).trans f6
      obtain⟨a33,c33',rfl,_,_,_,_⟩:=own_at hown33
      have O33:=Lib.hid hown33
      clear hown33 hgr33))
 all_goals
  have hT34:=tree_kids (HT.out.below (non_below K33.out)) ha (l:= [(n:Int)]) O33.out ht1 ht2 (fun k hk=>(HT.out.far_lt k hk).1)
  obtain⟨⟨cap4,k1,k2,e0⟩,e5,e5'⟩:=tree_cells hT34 (n:=n) (by rw[modN_len];exact hn)
  have hT35:=tree_parent hT34 (n:=n) (by rw[modN_len];exact hn) a
  have hK34:=((non_any (F:=Two tb g) K33.out).set (p:=⟨g,a*7+6,none⟩) (.inl (.inr rfl)) (.slice a33 1 c33')).set (p:=⟨g,n*7+5,none⟩) (.inl (.inr rfl)) (.int .i64 a)
  rw[modN_len]at k1 e0
  have HT35:=Lib.hid hT35
  have HK34:=Lib.hid hK34
  unfold maxLen at k2
  clear hT34 hT35 hK34
  go_wp2_with fail
  all_goals
   go_end0
   exact⟨rfl,HF.out▸HT35.out,HK34.out⟩
theorem insert_any (T:TreeD) (tb g:Nat) (w:World) (a i n:Nat) (ha:a<T.nodes.length) (hn:n<T.nodes.length) (hi:i≤(kidsF T a).length) (hk:(kidsF T a).length≤2097152) (h:TreeO w tb g T) :
 Calls Tryz.prog 202 #[.pointer (some ⟨tb,0,none⟩),.int .i64 a,.int .i64 i,.int .i64 n] w fun e w'=>e= .returned (.tuple #[])∧TreeO w' tb g (insertF T a i n)∧Keeps (Two tb g) w w':=by
 rw[kidsF_of T a ha]at hi hk
 obtain⟨aa,ac,ka,kc,_,_,_,hk1,hk2,hk3,_,hkat,hc,hf⟩:=h.node ha
 rcases hk3 with⟨rfl,rfl⟩|⟨kb,rfl⟩
 ·have hl:T.nodes[a].kids= []:=List.eq_nil_of_length_eq_zero (by omega)
  rw[hl]at hi
  obtain rfl:i=0:=by simpa using hi
  exact insert_none T tb g w a n ha hn hl h aa ac hc hf
 ·exact insert_some T tb g w a i n ha hn _ rfl hi hk h aa ac kb kc hk1 hk2 hkat hc hf
end Go.Proofs.YtgepobccoffnaaaGreatDoor
end
section
namespace Go.Proofs.YtgepobccoffnaaaGreatDoor
open Go.RowKit Mem
def takeE (T:TreeD) (n:Int):TreeD×Int:=if isF T n then(takeF T n,0)else(T,47)
theorem node5 {w:World} {tb g:Nat} {T:TreeD} (h:TreeO w tb g T) {n:Nat} (hn:n<T.nodes.length):w.cell? ⟨g,n*7+5,none⟩=some (.int .i64 (parentF T n)):=by
 rw[parentF_of T n hn]
 exact(tree_cells h hn).2.1
theorem take_kid (T:TreeD) (tb g:Nat) (w:World) (n a k:Nat) (hn1:1≤n) (hn:n<T.nodes.length) (ha:a<T.nodes.length) (hp:parentF T n=a) (l:List Int) (hl:l=T.nodes[a].kids) (hk:k<l.length) (hkl:l.length≤2097152)
 (hpl:placeF T a n=k) (hE:l.take k++l.drop (k+1)=l.filter (· !=(n:Int))) (h:TreeO w tb g T)
 (aa:Option Addr) (ac kb kc:Nat) (hk1:l.length≤kc) (hk2:kc≤maxLen) (hkat:AtF (Dat T.far tb g) w (some ⟨kb,0,none⟩) (intsV l))
 (hc: ∀f v,(cells7 T.nodes[a] aa ac (some ⟨kb,0,none⟩) kc)[f]?=some v→w.cell? ⟨g,a*7+f,none⟩=some v) (hf: ∀j,w.frozen? ⟨g,j,none⟩=false) :
 Calls Tryz.prog 204 #[.pointer (some ⟨tb,0,none⟩),.int .i64 n] w fun e w'=>e= .returned (.int .i64 0)∧TreeO w' tb g (takeF T n)∧Keeps (Two tb g) w w':=by
 obtain⟨cap,h1,h2,c0,_,_,_⟩:=h.head
 obtain⟨_,Cs,hne,_⟩:=h.open_
 obtain⟨ht1,ht2⟩:=h.lt
 have HI:=Lib.hid (is_any T tb g w n h)
 have his:isF T n=true:=by simp[isF];omega
 rw[his]at HI
 have HP:=Lib.hid (place_any T tb g w a n ha h)
 rw[hpl]at HP
 have d5:=node5 h hn
 rw[hp]at d5
 have d6:=hc 6 _ rfl
 rw[←hl]at d6
 have HF:Hid (modN (modN T a (setKids (l.filter (· !=(n:Int))))) n (setParent (-1))=takeF T n):=Lib.hid (by rw[takeF,kidsOff,hp,if_pos (by omega),kidsF_of T a ha,←hl])
 have HEE:=Lib.hid hE
 have HT:=Lib.hid h
 have HKA:=Lib.hid (hkat.other (G:=Non) (fun b _ hb=>hb.elim))
 have f6:=hf (a*7+6)
 unfold maxLen at h2 hk2
 have hi':(k:Int)≤(l.length:Int):=by omega
 have hi'':(k:Int)≤(kc:Int):=by omega
 have hw1:IntKind.i64.wrap ((k:Int)+1)=(k:Int)+1:=by rw[IntKind.wrap_i64];omega
 have hi3:(k:Int)+1≤(l.length:Int):=by omega
 have hi4:(k:Int)+1≤(kc:Int):=by omega
 have hi5:(0:Int)≤(k:Int)+1:=by omega
 obtain⟨i0,hi0,hz0,hz1,hz2⟩:=info_parts info_int
 clear h hc hf hkat hl hE hpl his
 go_enter Tryz.func204,Tryz.ntmps204
 go_wp2_with (first|(go_at_call 48;go_must (refine HI.out.mono ?_;rintro e w1 ⟨rfl,rfl⟩))|(go_at_call 200;go_must (refine HP.out.mono ?_;rintro e w1 ⟨rfl,rfl⟩)))
 have K1:=Lib.hid ((Keeps.refl Non w).alloc (.cells #[] 3)).drew
 have O1:Hid ((w.alloc (.cells #[] 3)).drew.ownsRow w.heap.size 3 1 (.slice (some ⟨w.heap.size,0,none⟩) 0 0) 0 []):=Lib.hid (World.ownsRow_lit w #[] 0 (Nat.le_refl _) (Nat.zero_le _) rfl).drew
 have b0:0+k≤maxLen:=by unfold maxLen;omega
 have b1:(0+k)*8≤140737488355328:=by omega
 have b4:k+(l.length-(k+1))≤maxLen:=by unfold maxLen;omega
 have b5:(k+(l.length-(k+1)))*8≤140737488355328:=by omega
 have L1:Hid ((intsV (l.take k)).length=k*1):=Lib.hid (by rw[intsV_length,List.length_take];omega)
 have L2:Hid ((intsV (l.drop (k+1))).length=(l.length-(k+1))*1):=Lib.hid (by rw[intsV_length,List.length_drop];omega)
 have B1:Hid (∀j,(Value.slice (some ⟨w.heap.size,0,none⟩) 0 0).ownBlock=some j→w.heap.size≤j):=Lib.hid (fun j e=>by simp only[Value.ownBlock,Option.some.injEq]at e;omega)
 have HLL:Hid (intsV (l.take k)++intsV (l.drop (k+1))=intsV (l.filter (· !=(n:Int)))):=Lib.hid (by rw[←intsV_append,HEE.out])
 go_region_held3 (fun u=>u.cell? ⟨tb,0,none⟩=some (.slice (some ⟨g,0,none⟩) T.nodes.length cap))
  (first|exact c0|exact non_cell K1.out c0|exact non_cell K26.out c0|exact non_cell K33.out c0|exact non_set K33.out c0 hne)
  (first
    |(refine step_append_slice (by rfl) (.tmp 39) (.tmp 42) _ (by rfl) w.heap.size 3 i0 _ 1 8 Tryz.underlying75 hi0 hz0 hz1 hz2 rfl (by decide) _ 0 [] (by rfl) O1.out (some ⟨kb,0,none⟩) k kc (intsV (l.take k)) (by rfl) L1.out (fun e=>by cases e) (at_take (at_later HKA.out K1.out) k) (intsV_one _) b0 b1 K1.out.size ?_
      intro v26 w26 hown26 hgr26
      simp only[Nat.zero_add,List.nil_append]at hown26
      have K26:Hid (Keeps Non w w26):=Lib.hid (keeps_grown K1.out hgr26 B1.out)
      obtain⟨a26,c26,rfl,_,_,_,_⟩:=own_at hown26
      have O26:=Lib.hid hown26
      clear hown26 hgr26)
    |(refine step_append_slice (by rfl) (.tmp 43) (.tmp 47) _ (by rfl) w.heap.size 3 i0 _ 1 8 Tryz.underlying75 hi0 hz0 hz1 hz2 rfl (by decide) _ k _ (by rfl) O26.out (if kc=k+1 then some ⟨kb,0,none⟩else some ⟨kb,k+1,none⟩) (l.length-(k+1)) (kc-(k+1)) (intsV (l.drop (k+1))) (by rfl) L2.out if_some (at_if (at_later HKA.out K26.out) (k+1) kc hk1) (intsV_one _) b4 b5 K26.out.size ?_
      intro v33 w33 hown33 hgr33
      have K33:Hid (Keeps Non w w33):=Lib.hid (keeps_grown K26.out hgr33 (own_base O26.out))
      have c33:=non_cell K33.out d6
      have f33:=(non_frozen (p:=⟨g,a*7+6,none⟩) K33.out ht2).trans f6
      obtain⟨a33,c33',rfl,_,_,_,_⟩:=own_at hown33
      have O33:=Lib.hid hown33
      clear hown33 hgr33))
 all_goals
  have hT34:=tree_kids (HT.out.below (non_below K33.out)) ha (by rw[←HLL.out];exact O33.out) ht1 ht2 (fun k hk=>(HT.out.far_lt k hk).1)
  obtain⟨⟨cap4,k1,k2,e0⟩,e5,e5'⟩:=tree_cells hT34 (n:=n) (by rw[modN_len];exact hn)
  have hT35:=tree_parent hT34 (n:=n) (by rw[modN_len];exact hn) (-1)
  have hK34:=((non_any (F:=Two tb g) K33.out).set (p:=⟨g,a*7+6,none⟩) (.inl (.inr rfl)) (.slice a33 (k+(l.length-(k+1))) c33')).set (p:=⟨g,n*7+5,none⟩) (.inl (.inr rfl)) (.int .i64 (-1))
  rw[modN_len]at k1 e0
  have HT35:=Lib.hid hT35
  have HK34:=Lib.hid hK34
  unfold maxLen at k2
  clear hT34 hT35 hK34
  go_wp2_with fail
  all_goals
   go_ret
   exact⟨rfl,HF.out▸HT35.out,HK34.out⟩
end Go.Proofs.YtgepobccoffnaaaGreatDoor
namespace Go.Proofs.YtgepobccoffnaaaGreatDoor
open Go.RowKit Mem
theorem take_none (T:TreeD) (tb g:Nat) (w:World) (n:Nat) (hn1:1≤n) (hn:n<T.nodes.length) (hp:parentF T n= -1) (h:TreeO w tb g T) :
 Calls Tryz.prog 204 #[.pointer (some ⟨tb,0,none⟩),.int .i64 n] w fun e w'=>e= .returned (.int .i64 0)∧TreeO w' tb g (takeF T n)∧Keeps (Two tb g) w w':=by
 obtain⟨cap,h1,h2,c0,_,_,_⟩:=h.head
 have HI:=Lib.hid (is_any T tb g w n h)
 have his:isF T n=true:=by simp[isF];omega
 rw[his]at HI
 have d5:=node5 h hn
 rw[hp]at d5
 have f5:=(tree_cells h hn).2.2
 have HT:=Lib.hid (tree_parent h hn (-1))
 have HF:Hid (modN T n (setParent (-1))=takeF T n):=Lib.hid (by rw[takeF,kidsOff,hp,if_neg (by omega)])
 have HK:=Lib.hid ((Keeps.refl (Two tb g) w).set (p:=⟨g,n*7+5,none⟩) (.inl (.inr rfl)) (.int .i64 (-1)))
 unfold maxLen at h2
 clear h his
 go_enter Tryz.func204,Tryz.ntmps204
 go_wp2_with (first|(go_at_call 48;go_must (refine HI.out.mono ?_;rintro e w1 ⟨rfl,rfl⟩)))
 go_ret
 exact⟨rfl,HF.out▸HT.out,HK.out⟩
theorem take_no (T:TreeD) (tb g:Nat) (w:World) (n:Int) (hn:isF T n=false) (h:TreeO w tb g T) :
 Calls Tryz.prog 204 #[.pointer (some ⟨tb,0,none⟩),.int .i64 n] w fun e w'=>e= .returned (.int .i64 47)∧w=w':=by
 have HI:=Lib.hid (is_any T tb g w n h)
 rw[hn]at HI
 clear h
 go_enter Tryz.func204,Tryz.ntmps204
 go_wp2_with (first|(go_at_call 48;go_must (refine HI.out.mono ?_;rintro e w1 ⟨rfl,rfl⟩)))
 go_ret
 exact⟨rfl,rfl⟩
theorem take_yes (T:TreeD) (tb g:Nat) (w:World) (n:Nat) (hn1:1≤n) (hn:n<T.nodes.length) (hw:WF T) (hlen:T.nodes.length≤2097152) (h:TreeO w tb g T) :
 Calls Tryz.prog 204 #[.pointer (some ⟨tb,0,none⟩),.int .i64 n] w fun e w'=>e= .returned (.int .i64 0)∧TreeO w' tb g (takeF T n)∧Keeps (Two tb g) w w':=by
 have hpar:=hw.par n hn
 by_cases hp:0≤parentF T n
 ·obtain⟨a,ha⟩:=Int.eq_ofNat_of_zero_le hp
  have ha':a<T.nodes.length:=by omega
  have hm:=hw.mem n hn hp
  rw[ha]at hm
  obtain⟨k,k1,k2,k3,_⟩:=idxF_found (kidsF T a) n 0 hm
  have hk:=kids_short hw a ha'
  have hnd:=hw.nodup a ha'
  have hpl:placeF T a n=k:=by
   rw[placeF,if_neg (by omega),show(0:Int)=((0:Nat):Int)from rfl,k2]
   simp
  rw[kidsF_of T a ha']at k1 k3 hk hnd
  obtain⟨aa,ac,ka,kc,_,_,_,hk1,hk2,hk3,_,hkat,hc,hf⟩:=h.node ha'
  rcases hk3 with⟨rfl,rfl⟩|⟨kb,rfl⟩
  ·omega
  ·exact take_kid T tb g w n a k hn1 hn ha' ha _ rfl k1 (by omega) hpl (filter_take_drop _ _ k hnd k3).symm h aa ac kb kc hk1 hk2 hkat hc hf
 ·exact take_none T tb g w n hn1 hn (by omega) h
theorem Take_any (T:TreeD) (tb g:Nat) (w:World) (n:Int) (hw:WF T) (hlen:T.nodes.length≤2097152) (h:TreeO w tb g T) :
 Calls Tryz.prog 204 #[.pointer (some ⟨tb,0,none⟩),.int .i64 n] w fun e w'=>e= .returned (.int .i64 (takeE T n).2)∧TreeO w' tb g (takeE T n).1∧Keeps (Two tb g) w w':=by
 cases hi:isF T n
 ·have he:takeE T n=(T,47):=by rw[takeE,hi];rfl
  rw[he]
  exact(take_no T tb g w n hi h).mono fun e w' ⟨h1,h2⟩=>by
   subst h2
   exact⟨h1,h,Keeps.refl _ _⟩
 ·have he:takeE T n=(takeF T n,0):=by rw[takeE,hi];rfl
  have hb:=isF_lt hi
  obtain⟨i,rfl⟩:=Int.eq_ofNat_of_zero_le (by omega:0≤n)
  rw[he]
  exact take_yes T tb g w i (by omega) (by omega) hw hlen h
theorem idxF_mem: ∀(l:List Int) (x z:Int),0≤idxF l x z→x∈l
 | [],_,_,h=>by simp[idxF]at h
 |y::r,x,z,h=>by
  unfold idxF at h
  split at h
  ·rename_i e;rw[e];exact List.mem_cons_self
  ·exact List.mem_cons_of_mem _ (idxF_mem r x _ h)
theorem placeF_nat (T:TreeD) (a b:Int) (h:0≤placeF T a b): ∃k:Nat,placeF T a b=k∧k≤(kidsF T a).length:=by
 obtain⟨k,hk⟩:=Int.eq_ofNat_of_zero_le h
 refine⟨k,hk,?_⟩
 have:placeF T a b≤(kidsF T a).length:=by
  unfold placeF
  split
  ·exact Int.le_refl _
  ·have:=idxF_lt (kidsF T a) b 0 (by omega)
   omega
 omega
theorem placeF_iff (T:TreeD) (a b:Int):0≤placeF T a b↔b=0∨b∈kidsF T a:=by
 unfold placeF
 split
 ·rename_i e
  simp[e]
 ·rename_i e
  constructor
  ·exact fun h=> .inr (idxF_mem _ _ _ h)
  ·rintro(h|h)
   ·exact absurd h e
   ·obtain⟨k,_,h2,_⟩:=idxF_found (kidsF T a) b 0 h
    rw[show(0:Int)=((0:Nat):Int)from rfl,h2]
    omega
theorem place_take {T:TreeD} (hw:WF T) {n a:Nat} {b:Int} (hn:n<T.nodes.length) (ha:a<T.nodes.length) (hb:b≠n) (h:0≤placeF T a b):0≤placeF (takeF T n) a b:=by
 rw[placeF_iff]at h ⊢
 rcases h with h|h
 ·exact .inl h
 ·right
  rw[takeF_kids hw hn a ha]
  split
  ·simp only[List.mem_filter,bne_iff_ne];exact⟨h,hb⟩
  ·exact h
end Go.Proofs.YtgepobccoffnaaaGreatDoor
namespace Go.Proofs.YtgepobccoffnaaaGreatDoor
open Go.RowKit Mem
noncomputable def putE (T:TreeD) (a b n:Int):TreeD×Int:=if putOk T a b n then(putF T a b n,0)else(T,47)
theorem put_no (T:TreeD) (tb g:Nat) (w:World) (a b n:Int) (hw:WF T) (h:TreeO w tb g T) (hno:putOk T a b n=false) :
 Calls Tryz.prog 155 #[.pointer (some ⟨tb,0,none⟩),.int .i64 a,.int .i64 b,.int .i64 n] w fun e w'=>e= .returned (.int .i64 47)∧w=w':=by
 have H1:=Lib.hid (holds_any T tb g w a h)
 cases h1:holdsF T a
 ·rw[h1]at H1
  clear h hno
  go_enter Tryz.func155,Tryz.ntmps155
  go_wp2_with (first|(go_at_call 199;go_must (refine H1.out.mono ?_;rintro e w1 ⟨rfl,rfl⟩))|(go_at_call 48;go_must (refine H2.out.mono ?_;rintro e w1 ⟨rfl,rfl⟩))|(go_at_call 200;go_must (refine H4.out.mono ?_;rintro e w1 ⟨rfl,rfl⟩))|(go_at_call 203;go_must (refine H5.out.mono ?_;rintro e w1 ⟨rfl,rfl⟩)))
  go_ret
  exact⟨rfl,rfl⟩
 have H2:=Lib.hid (is_any T tb g w n h)
 rw[h1]at H1
 cases h2:isF T n
 ·rw[h2]at H2
  clear h hno
  go_enter Tryz.func155,Tryz.ntmps155
  go_wp2_with (first|(go_at_call 199;go_must (refine H1.out.mono ?_;rintro e w1 ⟨rfl,rfl⟩))|(go_at_call 48;go_must (refine H2.out.mono ?_;rintro e w1 ⟨rfl,rfl⟩))|(go_at_call 200;go_must (refine H4.out.mono ?_;rintro e w1 ⟨rfl,rfl⟩))|(go_at_call 203;go_must (refine H5.out.mono ?_;rintro e w1 ⟨rfl,rfl⟩)))
  go_ret
  exact⟨rfl,rfl⟩
 rw[h2]at H2
 cases h3:(b==n)
 rotate_left
 ·clear h hno
  go_enter Tryz.func155,Tryz.ntmps155
  go_wp2_with (first|(go_at_call 199;go_must (refine H1.out.mono ?_;rintro e w1 ⟨rfl,rfl⟩))|(go_at_call 48;go_must (refine H2.out.mono ?_;rintro e w1 ⟨rfl,rfl⟩))|(go_at_call 200;go_must (refine H4.out.mono ?_;rintro e w1 ⟨rfl,rfl⟩))|(go_at_call 203;go_must (refine H5.out.mono ?_;rintro e w1 ⟨rfl,rfl⟩)))
  go_ret
  exact⟨rfl,rfl⟩
 have ha:=holdsF_lt hw.pos h1
 obtain⟨a,rfl⟩:=Int.eq_ofNat_of_zero_le ha.1
 have H4:=Lib.hid (place_any T tb g w a b (by omega) h)
 cases h4:decide (placeF T a b<0)
 rotate_left
 ·clear h hno
  go_enter Tryz.func155,Tryz.ntmps155
  go_wp2_with (first|(go_at_call 199;go_must (refine H1.out.mono ?_;rintro e w1 ⟨rfl,rfl⟩))|(go_at_call 48;go_must (refine H2.out.mono ?_;rintro e w1 ⟨rfl,rfl⟩))|(go_at_call 200;go_must (refine H4.out.mono ?_;rintro e w1 ⟨rfl,rfl⟩))|(go_at_call 203;go_must (refine H5.out.mono ?_;rintro e w1 ⟨rfl,rfl⟩)))
  go_ret
  exact⟨rfl,rfl⟩
 have H5:=Lib.hid (below_any T tb g w a n (by omega) hw h)
 cases h5:belowF T a n
 ·exfalso
  have:putOk T a b n=true:=by
   simp only[putOk,Bool.and_eq_true,h1,h2,h5,Bool.not_false,decide_eq_true_eq,true_and,and_true,bne,h3]
   have:=of_decide_eq_false h4
   omega
  rw[this]at hno
  cases hno
 ·rw[h5]at H5
  clear h hno
  go_enter Tryz.func155,Tryz.ntmps155
  go_wp2_with (first|(go_at_call 199;go_must (refine H1.out.mono ?_;rintro e w1 ⟨rfl,rfl⟩))|(go_at_call 48;go_must (refine H2.out.mono ?_;rintro e w1 ⟨rfl,rfl⟩))|(go_at_call 200;go_must (refine H4.out.mono ?_;rintro e w1 ⟨rfl,rfl⟩))|(go_at_call 203;go_must (refine H5.out.mono ?_;rintro e w1 ⟨rfl,rfl⟩)))
  go_ret
  exact⟨rfl,rfl⟩
theorem put_yes (T:TreeD) (tb g:Nat) (w:World) (a b n:Int) (hw:WF T) (hlen:T.nodes.length≤2097152) (h:TreeO w tb g T) (hok:putOk T a b n=true) :
 Calls Tryz.prog 155 #[.pointer (some ⟨tb,0,none⟩),.int .i64 a,.int .i64 b,.int .i64 n] w fun e w'=>e= .returned (.int .i64 0)∧TreeO w' tb g (putF T a b n)∧Keeps (Two tb g) w w':=by
 have hok':=hok
 simp only[putOk,Bool.and_eq_true,Bool.not_eq_true',decide_eq_true_eq]at hok'
 obtain⟨⟨⟨⟨h1,h2⟩,h3⟩,h4⟩,h5⟩:=hok'
 have h3':(b==n)=false:=by simpa[bne] using h3
 have hbn:b≠n:=by simpa using h3
 have ha:=holdsF_lt hw.pos h1
 have hn:=isF_lt h2
 obtain⟨a,rfl⟩:=Int.eq_ofNat_of_zero_le ha.1
 obtain⟨n,rfl⟩:=Int.eq_ofNat_of_zero_le (by omega:0≤n)
 have ha':a<T.nodes.length:=by omega
 have hn':n<T.nodes.length:=by omega
 have H1:=Lib.hid (holds_any T tb g w a h)
 have H2:=Lib.hid (is_any T tb g w n h)
 have H4:=Lib.hid (place_any T tb g w a b ha' h)
 have H5:=Lib.hid (below_any T tb g w a n (by omega) hw h)
 rw[h1]at H1
 rw[h2]at H2
 rw[h5]at H5
 have H6:=Lib.hid (take_yes T tb g w n (by omega) hn' hw hlen h)
 have hk:=kids_short (takeF_wf hw hn' (by omega)) a (by rw[takeF_len];exact ha')
 rw[takeF_len]at hk
 obtain⟨j,hj,hjk⟩:=placeF_nat (takeF T n) a b (place_take hw hn' ha' hbn h4)
 have HF:Hid (insertF (takeF T n) a j n=putF T a b n):=Lib.hid (by rw[putF,hj];rfl)
 have HJ:=Lib.hid hj
 have h4': ¬(placeF T a b<0):=by omega
 clear h hok h3 h4 hbn
 go_enter Tryz.func155,Tryz.ntmps155
 go_wp2_with (first|(go_at_call 199;go_must (refine H1.out.mono ?_;rintro e w1 ⟨rfl,rfl⟩))|(go_at_call 48;go_must (refine H2.out.mono ?_;rintro e w1 ⟨rfl,rfl⟩))|(go_at_call 200;go_must (refine H4.out.mono ?_;rintro e w1 ⟨rfl,rfl⟩))|(go_at_call 203;go_must (refine H5.out.mono ?_;rintro e w1 ⟨rfl,rfl⟩)))
 refine H6.out.mono ?_
 rintro e w2 ⟨rfl,hT2,hK2⟩
 have HT2:=Lib.hid hT2
 have HK2:=Lib.hid hK2
 have H7:=Lib.hid (place_any (takeF T n) tb g w2 a b (by rw[takeF_len];exact ha') hT2)
 rw[HJ.out]at H7
 have H8:=Lib.hid (insert_any (takeF T n) tb g w2 a j n (by rw[takeF_len];exact ha') (by rw[takeF_len];exact hn') hjk (by omega) hT2)
 rw[HF.out]at H8
 clear hT2 hK2 H4 HJ
 go_wp2_with (first|(go_at_call 200;go_must (refine H7.out.mono ?_;rintro e w1 ⟨rfl,rfl⟩)))
 refine H8.out.mono ?_
 rintro e w3 ⟨rfl,hT3,hK3⟩
 have HT3:=Lib.hid hT3
 have HK3:=Lib.hid (HK2.out.trans hK3)
 clear hT3 hK3
 go_wp2_with fail
 go_ret
 exact⟨rfl,HT3.out,HK3.out⟩
theorem Put_any (T:TreeD) (tb g:Nat) (w:World) (a b n:Int) (hw:WF T) (hlen:T.nodes.length≤2097152) (h:TreeO w tb g T) :
 Calls Tryz.prog 155 #[.pointer (some ⟨tb,0,none⟩),.int .i64 a,.int .i64 b,.int .i64 n] w fun e w'=>e= .returned (.int .i64 (putE T a b n).2)∧TreeO w' tb g (putE T a b n).1∧Keeps (Two tb g) w w':=by
 cases hok:putOk T a b n
 ·have he:putE T a b n=(T,47):=by rw[putE,hok];rfl
  rw[he]
  exact(put_no T tb g w a b n hw h hok).mono fun e w' ⟨h1,h2⟩=>by
   subst h2
   exact⟨h1,h,Keeps.refl _ _⟩
 ·have he:putE T a b n=(putF T a b n,0):=by rw[putE,hok];rfl
  rw[he]
  exact put_yes T tb g w a b n hw hlen h hok
theorem putE_wf {T:TreeD} (hw:WF T) (a b n:Int):WF (putE T a b n).1∧(putE T a b n).1.nodes.length=T.nodes.length∧(putE T a b n).1.most=T.most:=by
 cases hok:putOk T a b n
 ·have he:putE T a b n=(T,47):=by rw[putE,hok];rfl
  rw[he]
  exact⟨hw,rfl,rfl⟩
 ·have he:putE T a b n=(putF T a b n,0):=by rw[putE,hok];rfl
  rw[he]
  exact⟨putF_wf hw hok,putF_len _ _ _ _,putF_most _ _ _ _⟩
end Go.Proofs.YtgepobccoffnaaaGreatDoor
end
