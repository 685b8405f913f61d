/- Texts joined for a claim: OpenH: plain laws and contracts. No conditions beyond those that each lemma types. -/
import Derived.Test.YtpnagbgpbajfeaaGreatDoorQ06
set_option linter.unusedVariables false
set_option linter.unusedSimpArgs false
set_option maxRecDepth 100000
set_option maxHeartbeats 8000000
namespace Go.Proofs.YtpnagbgpbajfeaaGreatDoor
open Go.RowKit Mem
def Non:Nat→Prop:=fun _=>False
theorem keeps_grown {F:Nat→Prop} {W u u':World} {row:Option Nat} (h:Keeps F W u) (hg:u.grownBy u' row) (hr: ∀k,row=some k→W.heap.size≤k):Keeps F W u' :=
 ⟨hg.os.trans h.os,hg.tape.trans h.tape,hg.output.trans h.output,Nat.le_trans h.size hg.size,fun k hk hF=>(hg.block k (Nat.lt_of_lt_of_le hk h.size) fun e=>by have:=hr k e.symm;omega).trans (h.block k hk hF)⟩
theorem non_cell {W u:World} {p:Addr} {v:Value} (hk:Keeps Non W u) (hc:W.cell? p=some v):u.cell? p=some v:=by
 rw[World.cell?_of_block (w:=W) (hk.block p.block (lt_of_cell hc) (fun h=>h))];exact hc
theorem non_frozen {W u:World} {p:Addr} (hk:Keeps Non W u) (hc:p.block<W.heap.size):u.frozen? p=W.frozen? p :=
 World.frozen?_of_block (w:=W) (hk.block p.block hc (fun h=>h))
theorem non_set {W u:World} {p q:Addr} {v x:Value} (hk:Keeps Non W u) (hc:W.cell? p=some v) (hne:p.block≠q.block):(u.setCell q x).cell? p=some v:=by
 rw[World.cell?_of_block (w:=u) (Below.heap_setCell u q x p.block hne)]
 exact non_cell hk hc
theorem non_any {F:Nat→Prop} {W u:World} (hk:Keeps Non W u):Keeps F W u:=hk.mono fun _ _ h=>h.elim
theorem own_base {w:World} {base:Nat} {e:TypeId} {size:Nat} {v:Value} {n:Nat} {xs:List Value} (h:w.ownsRow base e size v n xs): ∀k,v.ownBlock=some k→base≤k:=fun k hk=>(h.lt k hk).1
theorem at_drop {w:World} {b:Nat} {l:List Int} (h:At w (some ⟨b,0,none⟩) (intsV l)) (i:Nat):At w (some ⟨b,i,none⟩) (intsV (l.drop i)):=by
 intro j u hj
 have:(intsV l)[i+j]?=some u:=by
  rw[←hj]
  simp[intsV,List.getElem?_drop]
 obtain⟨b',o,he,hc⟩:=h (i+j) u this
 cases he
 exact⟨b,i,rfl,by rw[show i+j=0+(i+j)from by omega];exact hc⟩
theorem at_take {w:World} {a:Option Addr} {l:List Int} (h:At w a (intsV l)) (i:Nat):At w a (intsV (l.take i)):=by
 refine At.left (ys:=intsV (l.drop i)) ?_
 rw[←intsV_append,List.take_append_drop]
 exact h
theorem at_if {w:World} {b:Nat} {l:List Int} (h:At w (some ⟨b,0,none⟩) (intsV l)) (i c:Nat) (hi:l.length≤c):At w (if c=i then some ⟨b,0,none⟩else some ⟨b,i,none⟩) (intsV (l.drop i)):=by
 split
 ·rename_i e
  have:l.drop i= []:=List.drop_of_length_le (by omega)
  rw[this]
  intro j u hj
  simp[intsV]at hj
 ·exact at_drop h i
theorem if_some {c i:Nat} {x y:Addr} {k:Nat}:(if c=i then some x else some y)=none→k=0:=by
 split <;>intro h <;>cases h
theorem at_one (w:World) (n:Int) (t:TypeId):At (w.alloc (.cells #[.int .i64 n] t)) (some ⟨w.heap.size,0,none⟩) [.int .i64 n]:=by
 intro j u hj
 refine⟨_,_,rfl,?_⟩
 rw[cell_of_row _ _ _ _ _ _ (heap_alloc_new w _)]
 simpa using hj
theorem at_grown {w w':World} {row:Option Nat} {b o:Nat} {xs:List Value} (h:At w (some ⟨b,o,none⟩) xs) (hg:w.grownBy w' row) (hne:some b≠row):At w' (some ⟨b,o,none⟩) xs:=by
 intro j u hj
 obtain⟨b',o',he,hc⟩:=h j u hj
 cases he
 exact⟨b,o,rfl,cell_grown hc hg hne⟩
theorem at_later {F:Nat→Prop} {w u:World} {a:Option Addr} {xs:List Value} (h:AtF F w a xs) (hk:Keeps F w u):At u a xs:=(h.kept hk).at
theorem non_below {W u:World} (h:Keeps Non W u):Below W.heap.size W u:=h.below (fun _ _ h=>h) (Nat.le_refl _)
theorem tree_kids {w:World} {tb g:Nat} {T:TreeD} (h:TreeO w tb g T) {a:Nat} (ha:a<T.nodes.length) {base:Nat} {v:Value} {l:List Int} {m:Nat} (ho:w.ownsRow base 3 1 v m (intsV l)) (hb1:tb<base) (hb2:g<base) (hb3: ∀k,T.far k→k<base) :
 TreeO (w.setCell ⟨g,a*7+6,none⟩ v) tb g (modN T a (setKids l)):=by
 have hm:m=l.length:=by
  have:=ho.1
  rw[intsV_length]at this
  omega
 subst hm
 rw[modN_of T a _ ha]
 refine TreeAt.write h ha 6 (by decide) v _ fun cs hcs=> ?_
 obtain⟨aa,ac,ka,kc,rfl,h2,h3,h4,h5,h6,h7,h8,h9⟩:=hcs
 obtain⟨a',c',rfl,k1,k2,k3,k4⟩:=own_atF (F:=Dat T.far tb g) ho (fun k hk=>by
  rcases hk with(rfl|rfl)|hk
  ·assumption
  ·assumption
  ·exact hb3 k hk)
 exact⟨aa,ac,a',c',rfl,h2,h3,h4,k1,k2,k3,h8,k4⟩
theorem tree_parent {w:World} {tb g:Nat} {T:TreeD} (h:TreeO w tb g T) {n:Nat} (hn:n<T.nodes.length) (p:Int):TreeO (w.setCell ⟨g,n*7+5,none⟩ (.int .i64 p)) tb g (modN T n (setParent p)):=by
 rw[modN_of T n _ hn]
 refine TreeAt.write h hn 5 (by decide) _ _ fun cs hcs=> ?_
 obtain⟨aa,ac,ka,kc,rfl,h2,h3,h4,h5,h6,h7,h8,h9⟩:=hcs
 exact⟨aa,ac,ka,kc,rfl,h2,h3,h4,h5,h6,h7,h8,h9⟩
theorem tree_text {w:World} {tb g:Nat} {T:TreeD} (h:TreeO w tb g T) {n:Nat} (hn:n<T.nodes.length) (s:ByteArray):TreeO (w.setCell ⟨g,n*7+4,none⟩ (.string (T.nodes[n].text++s))) tb g (modN T n (addText s)):=by
 rw[modN_of T n _ hn]
 refine TreeAt.write h hn 4 (by decide) _ _ fun cs hcs=> ?_
 obtain⟨aa,ac,ka,kc,rfl,h2,h3,h4,h5,h6,h7,h8,h9⟩:=hcs
 exact⟨aa,ac,ka,kc,rfl,h2,h3,h4,h5,h6,h7,h8,h9⟩
theorem tree_cells {w:World} {tb g:Nat} {T:TreeD} (h:TreeO w tb g T) {n:Nat} (hn:n<T.nodes.length) :
 (∃cap,T.nodes.length≤cap∧cap≤maxLen∧w.cell? ⟨tb,0,none⟩=some (.slice (some ⟨g,0,none⟩) T.nodes.length cap))∧w.cell? ⟨g,n*7+5,none⟩=some (.int .i64 T.nodes[n].parent)∧w.frozen? ⟨g,n*7+5,none⟩=false:=by
 obtain⟨cap,h1,h2,c0,_⟩:=h.head
 obtain⟨aa,ac,ka,kc,_,_,_,_,_,_,_,_,hc,hf⟩:=h.node hn
 exact⟨⟨cap,h1,h2,c0⟩,hc 5 _ rfl,hf _⟩
theorem insert_some (T:TreeD) (tb g:Nat) (w:World) (a i n:Nat) (ha:a<T.nodes.length) (hn:n<T.nodes.length) (l:List Int) (hl:l=T.nodes[a].kids) (hi:i≤l.length) (hk:l.length≤2097152) (h:TreeO w tb g T)
 (aa:Option Addr) (ac kb kc:Nat) (hk1:l.length≤kc) (hk2:kc≤maxLen) (hkat:AtF (Dat T.far tb g) w (some ⟨kb,0,none⟩) (intsV l))
 (hc: ∀f v,(cells7 T.nodes[a] aa ac (some ⟨kb,0,none⟩) kc)[f]?=some v→w.cell? ⟨g,a*7+f,none⟩=some v) (hf: ∀j,w.frozen? ⟨g,j,none⟩=false) :
 Calls Tryz.prog 197 #[.pointer (some ⟨tb,0,none⟩),.int .i64 a,.int .i64 i,.int .i64 n] w fun e w'=>e= .returned (.tuple #[])∧TreeO w' tb g (insertF T a i n)∧Keeps (Two tb g) w w':=by
 obtain⟨cap,h1,h2,c0,_,_,_⟩:=h.head
 obtain⟨_,Cs,hne,_⟩:=h.open_
 obtain⟨ht1,ht2⟩:=h.lt
 have d6:=hc 6 _ rfl
 rw[←hl]at d6
 have HF:Hid (modN (modN T a (setKids (l.take i++(n:Int)::l.drop i))) n (setParent a)=insertF T a i n):=Lib.hid (by rw[insertF,kidsF_of T a ha,←hl])
 have HT:=Lib.hid h
 have HK:=Lib.hid (hkat.other (G:=(· =g)) fun b _ hb=> .inl (.inr hb))
 have f6:=hf (a*7+6)
 unfold maxLen at h2 hk2
 have hi':(i:Int)≤(l.length:Int):=by omega
 have hi'':(i:Int)≤(kc:Int):=by omega
 obtain⟨i0,hi0,hz0,hz1,hz2⟩:=info_parts info_int
 clear h hc hf hkat hl
 go_enter Tryz.func197,Tryz.ntmps197
 go_wp2_with fail
 have K1:=Lib.hid ((Keeps.refl Non w).alloc (.cells #[] 3)).drew
 have K2:=Lib.hid (((Keeps.refl Non w).alloc (.cells #[] 3)).alloc (.cells #[.int .i64 n] 3)).drew
 have K4:=Lib.hid ((Keeps.refl Non w).alloc (.cells #[.int .i64 n] 3)).drew
 have K3:=Lib.hid (((Keeps.refl Non w).alloc (.cells #[.int .i64 n] 3)).alloc (.cells #[] 3)).drew
 have O1:Hid ((w.alloc (.cells #[] 3)).drew.ownsRow w.heap.size 3 1 (.slice (some ⟨w.heap.size,0,none⟩) 0 0) 0 []):=Lib.hid (World.ownsRow_lit w #[] 0 (Nat.le_refl _) (Nat.zero_le _) rfl).drew
 have O2:=Lib.hid (((World.ownsRow_lit (base:=w.heap.size) (e:=3) (size:=1) w #[] 0 (Nat.le_refl _) (Nat.zero_le _) rfl).alloc (.cells #[.int .i64 n] 3)).drew)
 have O3:Hid (((w.alloc (.cells #[.int .i64 n] 3)).alloc (.cells #[] 3)).drew.ownsRow w.heap.size 3 1 (.slice (some ⟨w.heap.size+1,0,none⟩) 0 0) 0 []):=Lib.hid (by
  have:=World.ownsRow_lit (base:=w.heap.size) (e:=3) (size:=1) (w.alloc (.cells #[.int .i64 n] 3)) #[] 0 (by simp) (Nat.zero_le _) rfl
  exact World.ownsRow.drew (by simpa using this))
 have N2:Hid (At ((w.alloc (.cells #[] 3)).alloc (.cells #[.int .i64 n] 3)).drew (some ⟨w.heap.size+1,0,none⟩) [.int .i64 n]):=Lib.hid (by
  have:=(at_one (w.alloc (.cells #[] 3)) n 3).below (Below.refl _ _).drew
  simpa using this)
 have N3:Hid (At ((w.alloc (.cells #[.int .i64 n] 3)).alloc (.cells #[] 3)).drew (some ⟨w.heap.size,0,none⟩) [.int .i64 n]):=Lib.hid ((at_one w n 3).below ((Below.refl _ _).alloc (Nat.le_refl _) _).drew)
 have b0:0+i≤maxLen:=by unfold maxLen;omega
 have b1:(0+i)*8≤140737488355328:=by omega
 have b2:i+1≤maxLen:=by unfold maxLen;omega
 have b3:(i+1)*8≤140737488355328:=by omega
 have b4:i+1+(l.length-i)≤maxLen:=by unfold maxLen;omega
 have b5:(i+1+(l.length-i))*8≤140737488355328:=by omega
 have L1:Hid ((intsV (l.take i)).length=i*1):=Lib.hid (by rw[intsV_length,List.length_take];omega)
 have L2:Hid ((intsV (l.drop i)).length=(l.length-i)*1):=Lib.hid (by rw[intsV_length,List.length_drop];omega)
 have hkc:l.length≤kc:=hk1
 have B1:Hid (∀k,(Value.slice (some ⟨w.heap.size,0,none⟩) 0 0).ownBlock=some k→w.heap.size≤k):=Lib.hid (fun k e=>by simp only[Value.ownBlock,Option.some.injEq]at e;omega)
 have B3:Hid (∀k,(Value.slice (some ⟨w.heap.size+1,0,none⟩) 0 0).ownBlock=some k→w.heap.size≤k):=Lib.hid (fun k e=>by simp only[Value.ownBlock,Option.some.injEq]at e;omega)
 have E2:Hid (some (w.heap.size+1)≠(Value.slice (some ⟨w.heap.size,0,none⟩) 0 0).ownBlock):=Lib.hid (fun e=>by simp only[Value.ownBlock,Option.some.injEq]at e;omega)
 have E3:Hid (some w.heap.size≠(Value.slice (some ⟨w.heap.size+1,0,none⟩) 0 0).ownBlock):=Lib.hid (fun e=>by simp only[Value.ownBlock,Option.some.injEq]at e;omega)
 have HLL:Hid (intsV (l.take i)++ [.int .i64 n]++intsV (l.drop i)=intsV (l.take i++(n:Int)::l.drop i)):=Lib.hid (by rw[intsV_append,List.append_assoc];rfl)
 have HKA:=Lib.hid (HK.out.other (G:=Non) (fun b _ hb=>hb.elim))
 have hSz:w.heap.size≤w.heap.size+1+1:=by omega
 go_region_held3 (fun u=>u.cell? ⟨tb,0,none⟩=some (.slice (some ⟨g,0,none⟩) T.nodes.length cap))
  (first|exact c0|exact non_cell K1.out c0|exact non_cell K2.out c0|exact non_cell K3.out c0|exact non_cell K4.out c0|exact non_cell K26.out c0|exact non_cell (K26.out.alloc _) c0|exact non_cell K29.out c0|exact non_cell K33.out c0|exact non_set K33.out c0 hne)
  (first
    |(refine step_append_slice (by rfl) (.tmp 22) (.tmp 25) _ (by rfl) w.heap.size 3 i0 _ 1 8 Tryz.underlying66 hi0 hz0 hz1 hz2 rfl (by decide) _ 0 [] (by rfl) (by first|exact O1.out|exact O2.out|exact O3.out) (some ⟨kb,0,none⟩) i kc (intsV (l.take i)) (by rfl) L1.out (fun e=>by cases e) (by first|exact at_take (at_later HKA.out K1.out) i|exact at_take (at_later HKA.out K2.out) i|exact at_take (at_later HKA.out K3.out) i) (intsV_one _) b0 b1 (by first|exact K1.out.size|exact K2.out.size|exact K3.out.size) ?_
      intro v26 w26 hown26 hgr26
      simp only[Nat.zero_add,List.nil_append]at hown26
      have K26:Hid (Keeps Non w w26):=Lib.hid (by first|exact keeps_grown K1.out hgr26 B1.out|exact keeps_grown K2.out hgr26 B1.out|exact keeps_grown K3.out hgr26 B3.out)
      first|have N26:=Lib.hid (at_grown N2.out hgr26 E2.out)|have N26:=Lib.hid (at_grown N3.out hgr26 E3.out)|skip
      obtain⟨a26,c26,rfl,_,_,_,_⟩:=own_at hown26
      have O26:=Lib.hid hown26
      clear hown26 hgr26)
    |(refine step_append_slice (by rfl) (.tmp 26) (.tmp 28) _ (by rfl) w.heap.size 3 i0 _ 1 8 Tryz.underlying66 hi0 hz0 hz1 hz2 rfl (by decide) _ i (intsV (l.take i)) (by rfl) (by first|exact O26.out|exact O26.out.alloc _) (some ⟨_,0,none⟩) 1 1 [.int .i64 n] (by rfl) (by rfl) (fun e=>by cases e) (by first|exact N26.out|exact at_one _ _ _) (intsV_one [_]) b2 b3 (by first|exact K26.out.size|exact(K26.out.alloc _).size) ?_
      intro v29 w29 hown29 hgr29
      have K29:Hid (Keeps Non w w29):=Lib.hid (by first|exact keeps_grown K26.out hgr29 (own_base O26.out)|exact keeps_grown (K26.out.alloc _) hgr29 (own_base O26.out))
      obtain⟨a29,c29,rfl,_,_,_,_⟩:=own_at hown29
      have O29:=Lib.hid hown29
      clear hown29 hgr29)
    |(refine step_append_slice (by rfl) (.tmp 29) (.tmp 32) _ (by rfl) w.heap.size 3 i0 _ 1 8 Tryz.underlying66 hi0 hz0 hz1 hz2 rfl (by decide) _ (i+1) _ (by rfl) O29.out (if kc=i then some ⟨kb,0,none⟩else some ⟨kb,i,none⟩) (l.length-i) (kc-i) (intsV (l.drop i)) (by rfl) L2.out if_some (at_if (at_later HKA.out K29.out) i kc hkc) (intsV_one _) b4 b5 K29.out.size ?_
      intro v33 w33 hown33 hgr33
      have K33:Hid (Keeps Non w w33):=Lib.hid (keeps_grown K29.out hgr33 (own_base O29.out))
      have c33:=non_cell K33.out d6
      have f33:=(non_frozen (p:=⟨g,a*7+6,none⟩) K33.out ht2).trans f6
      obtain⟨a33,c33',rfl,_,_,_,_⟩:=own_at hown33
      have O33:=Lib.hid hown33
      clear hown33 hgr33))
 all_goals
  have hT34:=tree_kids (HT.out.below (non_below K33.out)) ha (by rw[←HLL.out];exact O33.out) ht1 ht2 (fun k hk=>(HT.out.far_lt k hk).1)
  obtain⟨⟨cap4,k1,k2,e0⟩,e5,e5'⟩:=tree_cells hT34 (n:=n) (by rw[modN_len];exact hn)
  have hT35:=tree_parent hT34 (n:=n) (by rw[modN_len];exact hn) a
  have hK34:=((non_any (F:=Two tb g) K33.out).set (p:=⟨g,a*7+6,none⟩) (.inl (.inr rfl)) (.slice a33 (i+1+(l.length-i)) c33')).set (p:=⟨g,n*7+5,none⟩) (.inl (.inr rfl)) (.int .i64 a)
  rw[modN_len]at k1 e0
  have HT35:=Lib.hid hT35
  have HK34:=Lib.hid hK34
  unfold maxLen at k2
  clear hT34 hT35 hK34
  go_wp2_with fail
  all_goals
   go_end0
   exact⟨rfl,HF.out▸HT35.out,HK34.out⟩
theorem insert_none (T:TreeD) (tb g:Nat) (w:World) (a n:Nat) (ha:a<T.nodes.length) (hn:n<T.nodes.length) (hl:T.nodes[a].kids= []) (h:TreeO w tb g T)
 (aa:Option Addr) (ac:Nat)
 (hc: ∀f v,(cells7 T.nodes[a] aa ac none 0)[f]?=some v→w.cell? ⟨g,a*7+f,none⟩=some v) (hf: ∀j,w.frozen? ⟨g,j,none⟩=false) :
 Calls Tryz.prog 197 #[.pointer (some ⟨tb,0,none⟩),.int .i64 a,.int .i64 0,.int .i64 n] w fun e w'=>e= .returned (.tuple #[])∧TreeO w' tb g (insertF T a 0 n)∧Keeps (Two tb g) w w':=by
 obtain⟨cap,h1,h2,c0,_,_,_⟩:=h.head
 obtain⟨_,Cs,hne,_⟩:=h.open_
 obtain⟨ht1,ht2⟩:=h.lt
 have d6:=hc 6 _ rfl
 rw[hl]at d6
 have HF:Hid (modN (modN T a (setKids [(n:Int)])) n (setParent a)=insertF T a 0 n):=Lib.hid (by rw[insertF,kidsF_of T a ha,hl];rfl)
 have HT:=Lib.hid h
 have f6:=hf (a*7+6)
 unfold maxLen at h2
 obtain⟨i0,hi0,hz0,hz1,hz2⟩:=info_parts info_int
 clear h hc hf hl
 go_enter Tryz.func197,Tryz.ntmps197
 go_wp2_with fail
 have K1:=Lib.hid ((Keeps.refl Non w).alloc (.cells #[] 3)).drew
 have K2:=Lib.hid (((Keeps.refl Non w).alloc (.cells #[] 3)).alloc (.cells #[.int .i64 n] 3)).drew
 have K4:=Lib.hid ((Keeps.refl Non w).alloc (.cells #[.int .i64 n] 3)).drew
 have K3:=Lib.hid (((Keeps.refl Non w).alloc (.cells #[.int .i64 n] 3)).alloc (.cells #[] 3)).drew
 have O1:Hid ((w.alloc (.cells #[] 3)).drew.ownsRow w.heap.size 3 1 (.slice (some ⟨w.heap.size,0,none⟩) 0 0) 0 []):=Lib.hid (World.ownsRow_lit w #[] 0 (Nat.le_refl _) (Nat.zero_le _) rfl).drew
 have O2:=Lib.hid (((World.ownsRow_lit (base:=w.heap.size) (e:=3) (size:=1) w #[] 0 (Nat.le_refl _) (Nat.zero_le _) rfl).alloc (.cells #[.int .i64 n] 3)).drew)
 have O3:Hid (((w.alloc (.cells #[.int .i64 n] 3)).alloc (.cells #[] 3)).drew.ownsRow w.heap.size 3 1 (.slice (some ⟨w.heap.size+1,0,none⟩) 0 0) 0 []):=Lib.hid (by
  have:=World.ownsRow_lit (base:=w.heap.size) (e:=3) (size:=1) (w.alloc (.cells #[.int .i64 n] 3)) #[] 0 (by simp) (Nat.zero_le _) rfl
  exact World.ownsRow.drew (by simpa using this))
 have N2:Hid (At ((w.alloc (.cells #[] 3)).alloc (.cells #[.int .i64 n] 3)).drew (some ⟨w.heap.size+1,0,none⟩) [.int .i64 n]):=Lib.hid (by
  have:=(at_one (w.alloc (.cells #[] 3)) n 3).below (Below.refl _ _).drew
  simpa using this)
 have N3:Hid (At ((w.alloc (.cells #[.int .i64 n] 3)).alloc (.cells #[] 3)).drew (some ⟨w.heap.size,0,none⟩) [.int .i64 n]):=Lib.hid ((at_one w n 3).below ((Below.refl _ _).alloc (Nat.le_refl _) _).drew)
 have B1:Hid (∀k,(Value.slice (some ⟨w.heap.size,0,none⟩) 0 0).ownBlock=some k→w.heap.size≤k):=Lib.hid (fun k e=>by simp only[Value.ownBlock,Option.some.injEq]at e;omega)
 have B3:Hid (∀k,(Value.slice (some ⟨w.heap.size+1,0,none⟩) 0 0).ownBlock=some k→w.heap.size≤k):=Lib.hid (fun k e=>by simp only[Value.ownBlock,Option.some.injEq]at e;omega)
 have E2:Hid (some (w.heap.size+1)≠(Value.slice (some ⟨w.heap.size,0,none⟩) 0 0).ownBlock):=Lib.hid (fun e=>by simp only[Value.ownBlock,Option.some.injEq]at e;omega)
 have E3:Hid (some w.heap.size≠(Value.slice (some ⟨w.heap.size+1,0,none⟩) 0 0).ownBlock):=Lib.hid (fun e=>by simp only[Value.ownBlock,Option.some.injEq]at e;omega)
 have hSz:w.heap.size≤w.heap.size+1+1:=by omega
 go_region_held3 (fun u=>u.cell? ⟨tb,0,none⟩=some (.slice (some ⟨g,0,none⟩) T.nodes.length cap))
  (first|exact c0|exact non_cell K1.out c0|exact non_cell K2.out c0|exact non_cell K3.out c0|exact non_cell K4.out c0|exact non_cell K26.out c0|exact non_cell (K26.out.alloc _) c0|exact non_cell K29.out c0|exact non_cell K33.out c0|exact non_set K33.out c0 hne)
  (first
    |(refine step_append_slice (by rfl) (.tmp 22) (.tmp 25) _ (by rfl) w.heap.size 3 i0 _ 1 8 Tryz.underlying66 hi0 hz0 hz1 hz2 rfl (by decide) _ 0 [] (by rfl) (by first|exact O1.out|exact O2.out|exact O3.out) none 0 0 [] (by rfl) (by rfl) (fun _=>rfl) (At.nil _ _) (fun u hu=>by cases hu) (by decide) (by decide) (by first|exact K1.out.size|exact K2.out.size|exact K3.out.size) ?_
      intro v26 w26 hown26 hgr26
      simp only[Nat.zero_add,List.nil_append]at hown26
      have K26:Hid (Keeps Non w w26):=Lib.hid (by first|exact keeps_grown K1.out hgr26 B1.out|exact keeps_grown K2.out hgr26 B1.out|exact keeps_grown K3.out hgr26 B3.out)
      first|have N26:=Lib.hid (at_grown N2.out hgr26 E2.out)|have N26:=Lib.hid (at_grown N3.out hgr26 E3.out)|skip
      obtain⟨a26,c26,rfl,_,_,_,_⟩:=own_at hown26
      have O26:=Lib.hid hown26
      clear hown26 hgr26)
    |(refine step_append_slice (by rfl) (.tmp 26) (.tmp 28) _ (by rfl) w.heap.size 3 i0 _ 1 8 Tryz.underlying66 hi0 hz0 hz1 hz2 rfl (by decide) _ 0 [] (by rfl) (by first|exact O26.out|exact O26.out.alloc _) (some ⟨_,0,none⟩) 1 1 [.int .i64 n] (by rfl) (by rfl) (fun e=>by cases e) (by first|exact N26.out|exact at_one _ _ _) (intsV_one [_]) (by decide) (by decide) (by first|exact K26.out.size|exact(K26.out.alloc _).size) ?_
      intro v29 w29 hown29 hgr29
      simp only[Nat.zero_add,List.nil_append]at hown29
      have K29:Hid (Keeps Non w w29):=Lib.hid (by first|exact keeps_grown K26.out hgr29 (own_base O26.out)|exact keeps_grown (K26.out.alloc _) hgr29 (own_base O26.out))
      obtain⟨a29,c29,rfl,_,_,_,_⟩:=own_at hown29
      have O29:=Lib.hid hown29
      clear hown29 hgr29)
    |(refine step_append_slice (by rfl) (.tmp 29) (.tmp 32) _ (by rfl) w.heap.size 3 i0 _ 1 8 Tryz.underlying66 hi0 hz0 hz1 hz2 rfl (by decide) _ 1 _ (by rfl) O29.out none 0 0 [] (by rfl) (by rfl) (fun _=>rfl) (At.nil _ _) (fun u hu=>by cases hu) (by decide) (by decide) K29.out.size ?_
      intro v33 w33 hown33 hgr33
      simp only[Nat.add_zero,List.append_nil]at hown33
      have K33:Hid (Keeps Non w w33):=Lib.hid (keeps_grown K29.out hgr33 (own_base O29.out))
      have c33:=non_cell K33.out d6
      have f33:=(non_frozen (p:=⟨g,a*7+6,none⟩) K33.out ht2).trans f6
      obtain⟨a33,c33',rfl,_,_,_,_⟩:=own_at hown33
      have O33:=Lib.hid hown33
      clear hown33 hgr33))
 all_goals
  have hT34:=tree_kids (HT.out.below (non_below K33.out)) ha (l:= [(n:Int)]) O33.out ht1 ht2 (fun k hk=>(HT.out.far_lt k hk).1)
  obtain⟨⟨cap4,k1,k2,e0⟩,e5,e5'⟩:=tree_cells hT34 (n:=n) (by rw[modN_len];exact hn)
  have hT35:=tree_parent hT34 (n:=n) (by rw[modN_len];exact hn) a
  have hK34:=((non_any (F:=Two tb g) K33.out).set (p:=⟨g,a*7+6,none⟩) (.inl (.inr rfl)) (.slice a33 1 c33')).set (p:=⟨g,n*7+5,none⟩) (.inl (.inr rfl)) (.int .i64 a)
  rw[modN_len]at k1 e0
  have HT35:=Lib.hid hT35
  have HK34:=Lib.hid hK34
  unfold maxLen at k2
  clear hT34 hT35 hK34
  go_wp2_with fail
  all_goals
   go_end0
   exact⟨rfl,HF.out▸HT35.out,HK34.out⟩
theorem insert_any (T:TreeD) (tb g:Nat) (w:World) (a i n:Nat) (ha:a<T.nodes.length) (hn:n<T.nodes.length) (hi:i≤(kidsF T a).length) (hk:(kidsF T a).length≤2097152) (h:TreeO w tb g T) :
 Calls Tryz.prog 197 #[.pointer (some ⟨tb,0,none⟩),.int .i64 a,.int .i64 i,.int .i64 n] w fun e w'=>e= .returned (.tuple #[])∧TreeO w' tb g (insertF T a i n)∧Keeps (Two tb g) w w':=by
 rw[kidsF_of T a ha]at hi hk
 obtain⟨aa,ac,ka,kc,_,_,_,hk1,hk2,hk3,_,hkat,hc,hf⟩:=h.node ha
 rcases hk3 with⟨rfl,rfl⟩|⟨kb,rfl⟩
 ·have hl:T.nodes[a].kids= []:=List.eq_nil_of_length_eq_zero (by omega)
  rw[hl]at hi
  obtain rfl:i=0:=by simpa using hi
  exact insert_none T tb g w a n ha hn hl h aa ac hc hf
 ·exact insert_some T tb g w a i n ha hn _ rfl hi hk h aa ac kb kc hk1 hk2 hkat hc hf
end Go.Proofs.YtpnagbgpbajfeaaGreatDoor
