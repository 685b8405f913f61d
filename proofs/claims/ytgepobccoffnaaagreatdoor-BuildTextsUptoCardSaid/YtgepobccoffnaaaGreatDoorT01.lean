/- Texts joined for a claim: Mem, MemBC, TreeAll: plain laws and contracts. No conditions beyond those that each lemma types. -/
import Derived.BigQuiet
import Derived.Deep.QuietTactic
import Derived.Deep.RegionWith
import Derived.Laws.AppendOwnNone
import Derived.Lib.ConvBytes
import Derived.Lib.Hide
import Derived.WalkKit
import Derived.WalkLawsBesides
import Derived.WalkSpells
import Derived.Deep.AppendLies
import Derived.Laws.ResultCell
import Derived.Lib.BufferMore
set_option linter.unusedVariables false
set_option linter.unusedSimpArgs false
section
namespace Go.Proofs.YtgepobccoffnaaaGreatDoor.Mem
open Go Go.RowKit
abbrev Str:=List UInt8
theorem lt_of_cell {w:World} {a:Addr} {v:Value} (h:w.cell? a=some v):a.block<w.heap.size:=World.block_lt_of_cell? w a h
def At (w:World) (a:Option Addr) (xs:List Value):Prop :=
 ∀j u,xs[j]?=some u→ ∃b o,a=some ⟨b,o,none⟩∧w.cell? ⟨b,o+j,none⟩=some u
theorem At.below {w w':World} {a:Option Addr} {xs:List Value} (h:At w a xs) (hb:Below w.heap.size w w'):At w' a xs:=by
 intro j u hj
 obtain⟨b,o,ha,hc⟩:=h j u hj
 exact⟨b,o,ha,cell_later hb hc⟩
theorem At.nil (w:World) (a:Option Addr):At w a []:=by
 intro j u h
 simp at h
theorem At.get {w:World} {b o:Nat} {xs:List Value} (h:At w (some ⟨b,o,none⟩) xs) {j:Nat} {u:Value} (hj:xs[j]?=some u):w.cell? ⟨b,o+j,none⟩=some u:=by
 obtain⟨b',o',ha,hc⟩:=h j u hj
 cases ha
 exact hc
theorem At.some_of {w:World} {a:Option Addr} {xs:List Value} (h:At w a xs) (hx:xs≠ []): ∃b o,a=some ⟨b,o,none⟩:=by
 cases xs with
 |nil=>exact absurd rfl hx
 |cons u r =>
  obtain⟨b,o,ha,_⟩:=h 0 u rfl
  exact⟨b,o,ha⟩
theorem belowCall {w wr w1:World} (h:Below w.heap.size w wr) (h1:Below wr.heap.size wr w1):Below w.heap.size w w1:=h.trans (h1.mono h.size)
def Row (w:World) (g:Nat) (xs:List Value):Prop :=
 ∃cur e lo hi,w.heap[g]?=some (.cells cur e (lo,hi))∧cur.toList.take xs.length=xs∧(xs.length≤lo∨hi=0)
theorem Row.cell {w:World} {g:Nat} {xs:List Value} (h:Row w g xs) {j:Nat} {u:Value} (hj:xs[j]?=some u):w.cell? ⟨g,j,none⟩=some u:=by
 obtain⟨cur,e,lo,hi,hg,ht,_⟩:=h
 have hlt:j<xs.length:=by
  rcases Nat.lt_or_ge j xs.length with h|h
  ·exact h
  ·simp[List.getElem?_eq_none h]at hj
 simp only[World.cell?,hg]
 rw[←ht,List.getElem?_take_of_lt hlt]at hj
 simpa using hj
theorem Row.frozen {w:World} {g:Nat} {xs:List Value} (h:Row w g xs) {j:Nat} (hj:j<xs.length):w.frozen? ⟨g,j,none⟩=false:=by
 obtain⟨cur,e,lo,hi,hg,ht,hf⟩:=h
 simp only[World.frozen?,hg]
 rcases hf with hf|hf
 ·simp;omega
 ·subst hf;simp
theorem Row.lt {w:World} {g:Nat} {xs:List Value} (h:Row w g xs):g<w.heap.size:=by
 obtain⟨cur,e,lo,hi,hg,_⟩:=h
 rcases Nat.lt_or_ge g w.heap.size with h|h
 ·exact h
 ·simp[Array.getElem?_eq_none h]at hg
theorem Row.set {w:World} {g:Nat} {xs:List Value} (h:Row w g xs) (j:Nat) (v:Value):Row (w.setCell ⟨g,j,none⟩ v) g (xs.set j v):=by
 obtain⟨cur,e,lo,hi,hg,ht,hf⟩:=h
 have hlt:=Row.lt ⟨cur,e,lo,hi,hg,ht,hf⟩
 refine⟨cur.setIfInBounds j v,e,lo,hi,?_,?_,?_⟩
 ·simp[World.setCell,Array.getElem?_modify,hg]
 ·rw[List.length_set,Array.toList_setIfInBounds,List.take_set,ht]
 ·rw[List.length_set];exact hf
theorem Row.kept {w w':World} {g:Nat} {xs:List Value} (h:Row w g xs) (hg:w'.heap[g]?=w.heap[g]?):Row w' g xs:=by
 obtain⟨cur,e,lo,hi,h1,h2⟩:=h
 exact⟨cur,e,lo,hi,hg.trans h1,h2⟩
theorem Row.below {w w':World} {g B:Nat} {xs:List Value} (h:Row w g xs) (hb:Below B w w') (hg:g<B):Row w' g xs:=h.kept (hb.block g hg)
theorem Row.at {w:World} {g:Nat} {xs:List Value} (h:Row w g xs):At w (some ⟨g,0,none⟩) xs:=by
 intro j u hj
 exact⟨g,0,rfl,by rw[Nat.zero_add];exact h.cell hj⟩
theorem Row.alloc (w:World) (cur:Array Value) (e:TypeId):Row (w.alloc (.cells cur e)) w.heap.size cur.toList :=
 ⟨cur,e,0,0,heap_alloc_new w _,List.take_of_length_le (Nat.le_refl _),.inr rfl⟩
theorem at_alloc {w:World} {cur:Array Value} {e:TypeId} {g:Nat} {xs:List Value} (hg:g=w.heap.size) (hc:cur.toList=xs):At (w.alloc (.cells cur e)) (some ⟨g,0,none⟩) xs:=by
 subst hg hc
 exact(Row.alloc w cur e).at
def bytesV (l:Str):List Value:=l.map fun b=>Value.int .u8 b.toNat
theorem bytesV_length (l:Str):(bytesV l).length=l.length:=by simp[bytesV]
theorem size_toList (s:ByteArray):s.toList.length=s.size:=by rw[ByteArray.toList_eq,Array.length_toList];rfl
theorem mk_toList (s:ByteArray):(ByteArray.mk s.toList.toArray)=s:=by rw[ByteArray.toList_eq]
theorem toList_inj {a b:ByteArray} (h:a.toList=b.toList):a=b:=by rw[←mk_toList a,←mk_toList b,h]
theorem beqT {a b:ByteArray} (h:(a.toList==b.toList)=true):a=b:=toList_inj (by simpa using h)
theorem beqF {a b:ByteArray} (h:(a.toList==b.toList)=false):a≠b:=fun e=>by subst e;simp at h
theorem beqL {a b:Str} (h:(a==b)=true):a=b:=by simpa using h
theorem beqLF {a b:Str} (h:(a==b)=false):a≠b:=by simpa using h
theorem bytesWorld_row (w:World) (e:TypeId) (s:ByteArray):Row (Lib.bytesWorld w e s) w.heap.size (bytesV s.toList):=by
 refine⟨_,_,_,_,Lib.bytesWorld_at_new w e s,?_,.inl ?_⟩
 ·rw[bytesV_length,size_toList]
  simp only[Lib.bytesCells,bytesV,ByteArray.toList_eq,Array.toList_append,Array.toList_map]
  rw[List.take_left']
  simp
 ·rw[bytesV_length,size_toList]
  simp[Lib.bytesCells]
theorem bytesWorld_below (w:World) (e:TypeId) (s:ByteArray):Below w.heap.size w (Lib.bytesWorld w e s):=by
 refine⟨?_,?_,?_,by rw[Lib.bytesWorld_size];omega,fun k hk=>Lib.bytesWorld_at_old w e s k hk⟩
 all_goals (unfold Lib.bytesWorld World.freeze;split <;>rfl)
theorem run_bytes_of {P:Program} (w:World) (src dst e:TypeId) (s:ByteArray) {u:TypeDesc}
 (hs:P.underlying src=some u) (hd:P.underlying dst=some (.slice e)) (he:P.underlying e=some (.int .u8)) :
 ∃c W,(convert src dst (.string s)).run P w= .ok (.slice (some ⟨w.heap.size,0,none⟩) s.size c) W∧Below w.heap.size w W∧W.heap.size=w.heap.size+1∧Row W w.heap.size (bytesV s.toList)∧s.size≤c :=
 ⟨_,_,Lib.run_convert_string_bytes w src dst e s hs hd he,bytesWorld_below w e s,Lib.bytesWorld_size w e s,bytesWorld_row w e s,grownCap_ge w s.size 0 e⟩
theorem foldl_push (l:Str): ∀s:ByteArray,(l.map fun b=>((b.toNat:Nat):Int)).foldl (fun r n=>r.push (UInt8.ofNat n.toNat)) s=⟨(s.toList++l).toArray⟩:=by
 induction l with
 |nil=>intro s;simp[ByteArray.toList_eq]
 |cons b r ih =>
  intro s
  simp only[List.map_cons,List.foldl_cons]
  rw[ih]
  congr 2
  rw[ByteArray.toList_eq,ByteArray.toList_eq]
  simp[ByteArray.push]
theorem run_string_of {P:Program} (w:World) (src dst e:TypeId) (g c:Nat) (l:Str) (n:Nat) (hn:n=l.length)
 (hs:P.underlying src=some (.slice e)) (he:P.underlying e=some (.int .u8)) (hd:P.underlying dst=some .string) (hr:Row w g (bytesV l)) :
 (convert src dst (.slice (some ⟨g,0,none⟩) n c)).run P w= .ok (.string ⟨l.toArray⟩) w:=by
 subst hn
 rw[run_convert_bytes_string w src dst e _ _ _ hs he hd]
 have h:=run_loadCells_list (P:=P) (w:=w) ⟨g,0,none⟩ (bytesV l) (by
  intro j v hj
  rw[Addr.add]
  split
  ·rename_i h0;subst h0;exact hr.cell hj
  ·have:=hr.cell hj;simpa using this)
 rw[bytesV_length]at h
 have h2:=run_bytesToString (P:=P) w ⟨g,0,none⟩ l.length c (l.map fun b=>((b.toNat:Nat):Int)) (by
  rw[h];simp[bytesV,Function.comp_def])
 rw[h2,foldl_push]
 simp[ByteArray.toList_eq]
def strsV (l:List ByteArray):List Value:=l.map Value.string
theorem strsV_get (l:List ByteArray) (k:Nat) (h:k<l.length):(strsV l)[k]?=some (.string l[k]):=by simp[strsV,h]
abbrev Pair:=ByteArray×ByteArray
def pairsV:List Pair→List Value
 | []=> []
 |p::r=> .string p.1:: .string p.2::pairsV r
theorem pairsV_length (l:List Pair):(pairsV l).length=l.length*2:=by
 induction l with
 |nil=>rfl
 |cons p r ih=>simp only[pairsV,List.length_cons,ih];omega
theorem pairsV_get0: ∀(l:List Pair) (k:Nat) (h:k<l.length),(pairsV l)[k*2]?=some (.string l[k].1)
 | [],_,h=>by simp at h
 |p::r,0,_=>rfl
 |p::r,k+1,h=>by
  have:=pairsV_get0 r k (by simpa using h)
  rw[show(k+1)*2=k*2+1+1 from by omega]
  simpa[pairsV] using this
theorem pairsV_get1: ∀(l:List Pair) (k:Nat) (h:k<l.length),(pairsV l)[k*2+1]?=some (.string l[k].2)
 | [],_,h=>by simp at h
 |p::r,0,_=>rfl
 |p::r,k+1,h=>by
  have:=pairsV_get1 r k (by simpa using h)
  rw[show(k+1)*2+1=k*2+1+1+1 from by omega]
  simpa[pairsV] using this
theorem pair_cells {w:World} {a:Option Addr} {l:List Pair} (h:At w a (pairsV l)) {k:Nat} (hk:k<l.length) :
 ∃b o,a=some ⟨b,o,none⟩∧b<w.heap.size∧w.cell? ⟨b,o+k*2,none⟩=some (.string l[k].1)∧w.cell? ⟨b,o+k*2+1,none⟩=some (.string l[k].2):=by
 obtain⟨b,o,rfl,h1⟩:=h _ _ (pairsV_get0 l k hk)
 exact⟨b,o,rfl,lt_of_cell h1,h1,by rw[Nat.add_assoc];exact h.get (pairsV_get1 l k hk)⟩
theorem str_cell {w:World} {a:Option Addr} {l:List ByteArray} (h:At w a (strsV l)) {k:Nat} (hk:k<l.length) :
 ∃b o,a=some ⟨b,o,none⟩∧b<w.heap.size∧w.cell? ⟨b,o+k,none⟩=some (.string l[k]):=by
 obtain⟨b,o,rfl,h1⟩:=h _ _ (strsV_get l k hk)
 exact⟨b,o,rfl,lt_of_cell h1,h1⟩
theorem pairsV_one (l:List Pair): ∀u∈pairsV l,u.oneCell'=true:=by
 induction l with
 |nil=>intro u h;cases h
 |cons p r ih =>
  intro u h
  simp only[pairsV,List.mem_cons]at h
  rcases h with rfl|rfl|h
  ·rfl
  ·rfl
  ·exact ih u h
theorem ret_int {k:IntKind} {a b:Int} (h:a=b):Ending.returned (.int k a)= .returned (.int k b):=by rw[h]
theorem ret_bool {a b:Bool} (h:a=b):Ending.returned (.bool a)= .returned (.bool b):=by rw[h]
theorem ret_string {a b:ByteArray} (h:a=b):Ending.returned (.string a)= .returned (.string b):=by rw[h]
theorem ret_eq {v v':Value} (h:v=v'):Ending.returned v= .returned v':=by rw[h]
end Go.Proofs.YtgepobccoffnaaaGreatDoor.Mem
end
section
namespace Go.Proofs.YtgepobccoffnaaaGreatDoor.Mem
open Go Go.RowKit
theorem own_kept {w w':World} {base:Nat} {e:TypeId} {size:Nat} {v:Value} {n:Nat} {xs:List Value} (h:w.ownsRow base e size v n xs) (hb: ∀g,v.ownBlock=some g→w'.heap[g]?=w.heap[g]?):w'.ownsRow base e size v n xs:=by
 obtain⟨h1,h2⟩:=h
 refine⟨h1,?_⟩
 rcases h2 with h2|⟨g,cap,cur,rfl,hg,hh,r⟩
 ·exact .inl h2
 ·exact .inr ⟨g,cap,cur,rfl,hg,(hb g rfl).trans hh,r⟩
theorem own_below {w w':World} {base:Nat} {e:TypeId} {size:Nat} {v:Value} {n:Nat} {xs:List Value} (h:w.ownsRow base e size v n xs) (hb:Below w.heap.size w w'):w'.ownsRow base e size v n xs :=
 own_kept h fun g hg=>hb.block g (h.lt g hg).2
theorem own_row {w:World} {base:Nat} {e:TypeId} {size g:Nat} {n c:Nat} {xs:List Value} (h:w.ownsRow base e size (.slice (some ⟨g,0,none⟩) n c) n xs):Row w g xs:=by
 rcases h.2 with⟨h',_⟩|⟨g',cap,cur,h',_,hg,_,_,_,ht⟩
 ·cases h'
 ·cases h'
  exact⟨cur,e,0,0,hg,by rw[h.1];exact ht,.inr rfl⟩
theorem own_at {w:World} {base:Nat} {e:TypeId} {size:Nat} {v:Value} {n:Nat} {xs:List Value} (h:w.ownsRow base e size v n xs) :
 ∃a c,v= .slice a n c∧n≤c∧c≤maxLen∧(a=none→c=0)∧At w a xs:=by
 obtain⟨h1,h2⟩:=h
 rcases h2 with⟨rfl,rfl⟩|⟨g,cap,cur,rfl,hg,hh,r1,r2,r3,r4⟩
 ·have:xs= []:=List.eq_nil_of_length_eq_zero (by simpa using h1)
  subst this
  exact⟨none,0,rfl,Nat.le_refl _,Nat.zero_le _,fun _=>rfl,At.nil _ _⟩
 ·exact⟨some ⟨g,0,none⟩,cap,rfl,r1,r2,(fun h=>by cases h),(own_row (base:=base) (e:=e) (size:=size) ⟨h1,.inr ⟨g,cap,cur,rfl,hg,hh,r1,r2,r3,r4⟩⟩).at⟩
def blanks (n:Nat):List Pair:=List.replicate n (⟨#[]⟩,⟨#[]⟩)
theorem made_pairs (n:Nat):(madeCells #[.string ⟨#[]⟩,.string ⟨#[]⟩] (n*2)).toList=pairsV (blanks n):=by
 apply List.ext_getElem?
 intro j
 have hl:(pairsV (blanks n)).length=n*2:=by rw[pairsV_length];simp[blanks]
 by_cases hj:j<n*2
 ·have hk:j/2<(blanks n).length:=by simp[blanks];omega
  have h0:=pairsV_get0 (blanks n) (j/2) hk
  have h1:=pairsV_get1 (blanks n) (j/2) hk
  rcases Nat.mod_two_eq_zero_or_one j with h|h
  ·rw[show j/2*2=j from by omega]at h0
   rw[h0]
   simp[madeCells,hj,h,blanks]
  ·rw[show j/2*2+1=j from by omega]at h1
   rw[h1]
   simp[madeCells,hj,h,blanks]
 ·rw[List.getElem?_eq_none (by simp[madeCells];omega),List.getElem?_eq_none (by omega)]
theorem pairsV_set: ∀(l:List Pair) (k:Nat) (p:Pair),((pairsV l).set (k*2) (.string p.1)).set (k*2+1) (.string p.2)=pairsV (l.set k p)
 | [],_,_=>by simp[pairsV]
 |q::r,0,p=>rfl
 |q::r,k+1,p=>by
  rw[show(k+1)*2=k*2+1+1 from by omega,show k*2+1+1+1=(k*2+1)+1+1 from rfl]
  simp only[pairsV,List.set_cons_succ,pairsV_set r k p]
end Go.Proofs.YtgepobccoffnaaaGreatDoor.Mem
namespace Go.Proofs.YtgepobccoffnaaaGreatDoor.Mem
open Go Go.RowKit
theorem At.left {w:World} {a:Option Addr} {xs ys:List Value} (h:At w a (xs++ys)):At w a xs:=by
 intro j u hj
 refine h j u ?_
 rw[List.getElem?_append_left (by
  rcases Nat.lt_or_ge j xs.length with h'|h'
  ·exact h'
  ·simp[List.getElem?_eq_none h']at hj)]
 exact hj
theorem At.news {w:World} {ad:Addr} {xs:List Value} (h:At w (some ad) xs): ∀j u,xs[j]?=some u→w.cell? (ad.add j)=some u:=by
 intro j u hj
 obtain⟨b,o,ha,hc⟩:=h j u hj
 cases ha
 unfold Addr.add
 split
 ·rename_i h0;subst h0;exact hc
 ·exact hc
theorem own_some {w:World} {base:Nat} {e:TypeId} {size:Nat} {v:Value} {n:Nat} {xs:List Value} (h:w.ownsRow base e size v n xs) (hn:0<n): ∃g cap,v= .slice (some ⟨g,0,none⟩) n cap∧base≤g∧n≤cap∧cap≤maxLen:=by
 rcases h.2 with⟨_,h0⟩|⟨g,cap,cur,rfl,hg,_,hc,hm,_⟩
 ·omega
 ·exact⟨g,cap,rfl,hg,hc,hm⟩
theorem wpList_append_slice {P:Program} (w:World) {ops:Array Oper} {rest:List Oper} {o:Oper} {a:Act} {Q:Exit→Act→World→Prop} (hgd:o.guard=none) (s x:Operand) (t:TypeId)
 (ho:o.op= .call {callee:= .builtin .append,args:= #[s,x],argTypes:= #[t,t]})
 (base:Nat) (e:TypeId) (i:TypeInfo) (z:Value) (size bytes:Nat) (ht:P.underlying t=some (.slice e)) (hi:P.info? e=some i) (hz:i.zero=some z)
 (hsize:i.size=size) (hby:i.bytes=bytes) (hzs:z.cells.size=size) (hsz:0<size)
 (v:Value) (n:Nat) (xs:List Value) (hs:a.eval s=v) (hown:w.ownsRow base e size v n xs)
 (ao:Option Addr) (m c:Nat) (news:List Value) (hx:a.eval x= .slice ao m c) (hl:news.length=m*size) (hnil:ao=none→c=0) (hat:At w ao news) (h1: ∀u∈news,u.oneCell'=true)
 (h63:n+m≤maxLen) (hbytes:(n+m)*bytes≤140737488355328) (hbase:base≤w.heap.size)
 (h: ∀v' w',w'.ownsRow base e size v' (n+m) (xs++news)→w.grownBy w' v.ownBlock→wpList P ops Q rest (a.put o.dst v') w'):wpList P ops Q (o::rest) a w:=by
 cases ao with
 |some ad=>exact wpList_append_own w hgd s x t ho base e i z size bytes ht hi hz hsize hby hzs hsz v n xs hs hown ad m c news hx hl hat.news h1 h63 hbytes hbase fun v' w' h2 h3 _=>h v' w' h2 h3
 |none =>
  obtain rfl:c=0:=hnil rfl
  have hn:news= []:=by
   cases news with
   |nil=>rfl
   |cons u r=>obtain⟨b,q,he,_⟩:=hat 0 u rfl;cases he
  subst hn
  obtain rfl:m=0:=by
   have:m*size=0:=by simpa using hl.symm
   rcases Nat.mul_eq_zero.1 this with h|h
   ·exact h
   ·omega
  exact wpList_append_own_none hgd s x t ho base e i size ht hi v n xs hs hown hx (h v w (by simpa using hown) (World.grownBy.refl _ _))
end Go.Proofs.YtgepobccoffnaaaGreatDoor.Mem
end
section
namespace Go.Proofs.YtgepobccoffnaaaGreatDoor.Mem
open Go Go.RowKit
def intsV (l:List Int):List Value:=l.map (Value.int .i64)
theorem intsV_length (l:List Int):(intsV l).length=l.length:=by simp[intsV]
theorem intsV_get (l:List Int) (k:Nat) (h:k<l.length):(intsV l)[k]?=some (.int .i64 l[k]):=by simp[intsV,h]
theorem intsV_append (l r:List Int):intsV (l++r)=intsV l++intsV r:=by simp[intsV]
theorem intsV_one (l:List Int): ∀u∈intsV l,u.oneCell'=true:=by
 intro u h
 obtain⟨n,_,rfl⟩:=List.mem_map.1 h
 rfl
structure Keeps (F:Nat→Prop) (w w':World):Prop where
 os:w'.os=w.os
 tape:w'.tape=w.tape
 output:w'.output=w.output
 size:w.heap.size≤w'.heap.size
 block: ∀k,k<w.heap.size→ ¬F k→w'.heap[k]?=w.heap[k]?
theorem Keeps.refl (F:Nat→Prop) (w:World):Keeps F w w:=⟨rfl,rfl,rfl,Nat.le_refl _,fun _ _ _=>rfl⟩
theorem Keeps.trans {F:Nat→Prop} {a b c:World} (h:Keeps F a b) (k:Keeps F b c):Keeps F a c :=
 ⟨k.os.trans h.os,k.tape.trans h.tape,k.output.trans h.output,Nat.le_trans h.size k.size,fun i hi hF=>(k.block i (Nat.lt_of_lt_of_le hi h.size) hF).trans (h.block i hi hF)⟩
theorem Keeps.ofBelow {F:Nat→Prop} {w w':World} (h:Below w.heap.size w w'):Keeps F w w':=⟨h.os,h.tape,h.output,h.size,fun k hk _=>h.block k hk⟩
theorem Keeps.mono {F G:Nat→Prop} {w w':World} (h:Keeps F w w') (hFG: ∀k,k<w.heap.size→F k→G k):Keeps G w w':=⟨h.os,h.tape,h.output,h.size,fun k hk hG=>h.block k hk fun hF=>hG (hFG k hk hF)⟩
theorem Keeps.set {F:Nat→Prop} {a w:World} (h:Keeps F a w) {p:Addr} (hp:F p.block∨a.heap.size≤p.block) (u:Value):Keeps F a (w.setCell p u) :=
 ⟨h.os,h.tape,h.output,by rw[World.size_setCell];exact h.size,fun k hk hF=>by
  have hne:k≠p.block:=by
   intro e
   rcases hp with hp|hp
   ·exact hF (e▸hp)
   ·omega
  rw[heap_setCell_other _ _ _ _ hne];exact h.block k hk hF⟩
theorem Keeps.alloc {F:Nat→Prop} {a w:World} (h:Keeps F a w) (o:Obj):Keeps F a (w.alloc o) :=
 ⟨h.os,h.tape,h.output,by rw[World.size_alloc];have:=h.size;omega,fun k hk hF=>(Below.heap_alloc w o k (Nat.lt_of_lt_of_le hk h.size)).trans (h.block k hk hF)⟩
theorem Keeps.drew {F:Nat→Prop} {a w:World} (h:Keeps F a w):Keeps F a w.drew:=⟨h.os,h.tape,h.output,h.size,h.block⟩
theorem Keeps.below {F:Nat→Prop} {w w':World} {B:Nat} (h:Keeps F w w') (hF: ∀k,k<B→ ¬F k) (hB:B≤w.heap.size):Below B w w' :=
 ⟨h.os,h.tape,h.output,h.size,fun k hk=>h.block k (Nat.lt_of_lt_of_le hk hB) (hF k hk)⟩
def AtF (F:Nat→Prop) (w:World) (a:Option Addr) (xs:List Value):Prop :=
 ∀j u,xs[j]?=some u→ ∃b o,a=some ⟨b,o,none⟩∧ ¬F b∧w.cell? ⟨b,o+j,none⟩=some u
theorem AtF.at {F:Nat→Prop} {w:World} {a:Option Addr} {xs:List Value} (h:AtF F w a xs):At w a xs:=fun j u hj =>
 let⟨b,o,ha,_,hc⟩:=h j u hj;⟨b,o,ha,hc⟩
theorem AtF.kept {F:Nat→Prop} {w w':World} {a:Option Addr} {xs:List Value} (h:AtF F w a xs) (hk:Keeps F w w'):AtF F w' a xs:=by
 intro j u hj
 obtain⟨b,o,ha,hF,hc⟩:=h j u hj
 refine⟨b,o,ha,hF,?_⟩
 rw[World.cell?_of_block (w:=w) (hk.block b (lt_of_cell hc) hF)]
 exact hc
theorem AtF.of_new {F:Nat→Prop} {w':World} {a:Option Addr} {xs:List Value} (h:At w' a xs) (hF: ∀b o s,a=some ⟨b,o,s⟩→ ¬F b):AtF F w' a xs:=fun j u hj =>
 let⟨b,o,ha,hc⟩:=h j u hj;⟨b,o,ha,hF b o _ ha,hc⟩
theorem AtF.other {F G:Nat→Prop} {w:World} {a:Option Addr} {xs:List Value} (h:AtF F w a xs) (hFG: ∀b,b<w.heap.size→G b→F b):AtF G w a xs:=fun j u hj =>
 let⟨b,o,ha,hF,hc⟩:=h j u hj;⟨b,o,ha,fun hG=>hF (hFG b (lt_of_cell hc) hG),hc⟩
structure ND where
 elem:Bool
 space:Int
 name:ByteArray
 attrs:List Pair
 text:ByteArray
 parent:Int
 kids:List Int
def cells7 (d:ND) (aa:Option Addr) (ac:Nat) (ka:Option Addr) (kc:Nat):List Value :=
 [.bool d.elem,.int .i64 d.space,.string d.name,.slice aa d.attrs.length ac,.string d.text,.int .i64 d.parent,.slice ka d.kids.length kc]
def RowForm (a:Option Addr) (c:Nat):Prop:=(a=none∧c=0)∨ ∃b,a=some ⟨b,0,none⟩
theorem RowForm.nil {a:Option Addr} {c:Nat} (h:RowForm a c):a=none→c=0:=by
 rcases h with⟨_,h⟩|⟨b,h⟩
 ·exact fun _=>h
 ·intro e;rw[h]at e;cases e
theorem own_form {w:World} {base:Nat} {e:TypeId} {size:Nat} {a:Option Addr} {n m c:Nat} {xs:List Value} (h:w.ownsRow base e size (.slice a m c) n xs):RowForm a c:=by
 rcases h.2 with⟨hv,_⟩|⟨g,cap,cur,hv,_⟩
 ·cases hv;exact .inl ⟨rfl,rfl⟩
 ·cases hv;exact .inr ⟨g,rfl⟩
def NodeAt (F:Nat→Prop) (w:World) (cs:List Value) (d:ND):Prop :=
 ∃aa ac ka kc,cs=cells7 d aa ac ka kc∧d.attrs.length≤ac∧ac≤maxLen∧(aa=none→ac=0)∧d.kids.length≤kc∧kc≤maxLen∧RowForm ka kc∧AtF F w aa (pairsV d.attrs)∧AtF F w ka (intsV d.kids)
theorem NodeAt.kept {F:Nat→Prop} {w w':World} {cs:List Value} {d:ND} (h:NodeAt F w cs d) (hk:Keeps F w w'):NodeAt F w' cs d:=by
 obtain⟨aa,ac,ka,kc,h1,h2,h3,h4,h5,h6,h7,h8,h9⟩:=h
 exact⟨aa,ac,ka,kc,h1,h2,h3,h4,h5,h6,h7,h8.kept hk,h9.kept hk⟩
theorem NodeAt.other {F G:Nat→Prop} {w:World} {cs:List Value} {d:ND} (h:NodeAt F w cs d) (hFG: ∀b,b<w.heap.size→G b→F b):NodeAt G w cs d:=by
 obtain⟨aa,ac,ka,kc,h1,h2,h3,h4,h5,h6,h7,h8,h9⟩:=h
 exact⟨aa,ac,ka,kc,h1,h2,h3,h4,h5,h6,h7,h8.other hFG,h9.other hFG⟩
theorem NodeAt.len {F:Nat→Prop} {w:World} {cs:List Value} {d:ND} (h:NodeAt F w cs d):cs.length=7:=by
 obtain⟨aa,ac,ka,kc,rfl,_⟩:=h
 rfl
theorem flat7_get: ∀(Cs:List (List Value)) (i f:Nat) (hi:i<Cs.length),(∀c∈Cs,c.length=7)→f<7→Cs.flatten[i*7+f]?=Cs[i][f]?
 | [],_,_,hi,_,_=>by simp at hi
 |c::r,0,f,_,h,hf=>by
  rw[List.flatten_cons,List.getElem?_append_left (by rw[h c List.mem_cons_self];omega)]
  simp
 |c::r,i+1,f,hi,h,hf=>by
  have h7:=h c List.mem_cons_self
  rw[List.flatten_cons,List.getElem?_append_right (by rw[h7];omega),h7,show(i+1)*7+f-7=i*7+f from by omega]
  rw[flat7_get r i f (by simpa using hi) (fun x hx=>h x (List.mem_cons_of_mem _ hx)) hf]
  simp
theorem flat7_set: ∀(Cs:List (List Value)) (i f:Nat) (v:Value) (hi:i<Cs.length),(∀c∈Cs,c.length=7)→f<7→Cs.flatten.set (i*7+f) v=(Cs.set i (Cs[i].set f v)).flatten
 | [],_,_,_,hi,_,_=>by simp at hi
 |c::r,0,f,v,_,h,hf=>by
  rw[List.flatten_cons,List.set_append_left _ _ (by rw[h c List.mem_cons_self];omega)]
  simp
 |c::r,i+1,f,v,hi,h,hf=>by
  have h7:=h c List.mem_cons_self
  rw[List.flatten_cons,List.set_append_right _ _ (by rw[h7];omega),h7,show(i+1)*7+f-7=i*7+f from by omega]
  rw[flat7_set r i f v (by simpa using hi) (fun x hx=>h x (List.mem_cons_of_mem _ hx)) hf]
  simp
structure TreeD where
 nodes:List ND
 most:Int
 /--blocks that its data avoid -/
 far:Nat→Prop
def noFar:Nat→Prop:=fun _=>False
def Two (tb g:Nat):Nat→Prop:=fun k=>k=tb∨k=g
def Dat (far:Nat→Prop) (tb g:Nat):Nat→Prop:=fun k=>Two tb g k∨far k
def TreeAt (tT tN:TypeId) (w:World) (tb g:Nat) (T:TreeD):Prop :=
 ∃cap Cs,tb≠g∧w.heap[tb]?=some (.cells #[.slice (some ⟨g,0,none⟩) T.nodes.length cap,.int .i64 T.most] tT (0,0)) ∧
  w.ownsRow 0 tN 7 (.slice (some ⟨g,0,none⟩) T.nodes.length cap) T.nodes.length (List.flatten Cs)∧Cs.length=T.nodes.length ∧
  (∀i (h:i<Cs.length) (h':i<T.nodes.length),NodeAt (Dat T.far tb g) w Cs[i] T.nodes[i])∧ ∀k,T.far k→k<w.heap.size∧k≠tb∧k≠g
section
variable {tT tN:TypeId} {w w':World} {tb g:Nat} {T:TreeD}
theorem TreeAt.lt (h:TreeAt tT tN w tb g T):tb<w.heap.size∧g<w.heap.size:=by
 obtain⟨cap,Cs,hne,ht,ho,hl,hn,hfar⟩:=h
 refine⟨?_,(ho.lt g rfl).2⟩
 rcases Nat.lt_or_ge tb w.heap.size with h|h
 ·exact h
 ·simp[Array.getElem?_eq_none h]at ht
theorem TreeAt.far_lt (h:TreeAt tT tN w tb g T): ∀k,T.far k→k<w.heap.size∧k≠tb∧k≠g:=by
 obtain⟨cap,Cs,hne,ht,ho,hl,hn,hfar⟩:=h
 exact hfar
theorem TreeAt.below (h:TreeAt tT tN w tb g T) (hb:Below w.heap.size w w'):TreeAt tT tN w' tb g T:=by
 have hlt:=h.lt
 obtain⟨cap,Cs,hne,ht,ho,hl,hn,hfar⟩:=h
 exact⟨cap,Cs,hne,(hb.block tb hlt.1).trans ht,own_below ho hb,hl,fun i h h'=>(hn i h h').kept (Keeps.ofBelow hb),fun k hk=>⟨Nat.lt_of_lt_of_le (hfar k hk).1 hb.size,(hfar k hk).2⟩⟩
theorem TreeAt.head (h:TreeAt tT tN w tb g T): ∃cap,T.nodes.length≤cap∧cap≤maxLen∧w.cell? ⟨tb,0,none⟩=some (.slice (some ⟨g,0,none⟩) T.nodes.length cap)∧w.cell? ⟨tb,1,none⟩=some (.int .i64 T.most) ∧
 w.frozen? ⟨tb,0,none⟩=false∧w.frozen? ⟨tb,1,none⟩=false:=by
 obtain⟨cap,Cs,hne,ht,ho,hl,hn,hfar⟩:=h
 obtain⟨a,c,hv,h1,h2,_⟩:=own_at ho
 simp only[Value.slice.injEq]at hv
 obtain⟨_,_,rfl⟩:=hv
 exact⟨cap,h1,h2,by simp[World.cell?,ht],by simp[World.cell?,ht],frozen_of_row _ _ _ _ _ ht,frozen_of_row _ _ _ _ _ ht⟩
theorem nodes_len {Cs:List (List Value)} (hl:Cs.length=T.nodes.length) (hn: ∀i (h:i<Cs.length) (h':i<T.nodes.length),NodeAt (Dat T.far tb g) w Cs[i] T.nodes[i]): ∀c∈Cs,c.length=7:=by
 intro c hc
 obtain⟨i,hi,rfl⟩:=List.getElem_of_mem hc
 exact(hn i hi (by omega)).len
theorem TreeAt.node (h:TreeAt tT tN w tb g T) {i:Nat} (hi:i<T.nodes.length) :
 ∃aa ac ka kc,T.nodes[i].attrs.length≤ac∧ac≤maxLen∧(aa=none→ac=0)∧T.nodes[i].kids.length≤kc∧kc≤maxLen∧RowForm ka kc ∧
  AtF (Dat T.far tb g) w aa (pairsV T.nodes[i].attrs)∧AtF (Dat T.far tb g) w ka (intsV T.nodes[i].kids) ∧
  (∀f v,(cells7 T.nodes[i] aa ac ka kc)[f]?=some v→w.cell? ⟨g,i*7+f,none⟩=some v)∧ ∀j,w.frozen? ⟨g,j,none⟩=false:=by
 obtain⟨cap,Cs,hne,ht,ho,hl,hn,hfar⟩:=h
 have h7:=nodes_len hl hn
 obtain⟨aa,ac,ka,kc,h1,h2,h3,h4,h5,h6,h7',h8,h9⟩:=hn i (by omega) hi
 refine⟨aa,ac,ka,kc,h2,h3,h4,h5,h6,h7',h8,h9,?_,ho.frozenAt⟩
 intro f v hf
 have hf7:f<7:=by
  have:=(List.getElem?_eq_some_iff.1 hf).1
  simpa[cells7] using this
 refine(own_row ho).cell ?_
 rw[flat7_get Cs i f (by omega) h7 hf7,h1]
 exact hf
theorem TreeAt.write (h:TreeAt tT tN w tb g T) {i:Nat} (hi:i<T.nodes.length) (f:Nat) (hf:f<7) (v:Value) (d:ND)
 (hd: ∀cs,NodeAt (Dat T.far tb g) w cs T.nodes[i]→NodeAt (Dat T.far tb g) w (cs.set f v) d) :
 TreeAt tT tN (w.setCell ⟨g,i*7+f,none⟩ v) tb g {T with nodes:=T.nodes.set i d}:=by
 obtain⟨cap,Cs,hne,ht,ho,hl,hn,hfar⟩:=h
 have h7:=nodes_len hl hn
 have hk:Keeps (Dat T.far tb g) w (w.setCell ⟨g,i*7+f,none⟩ v):=(Keeps.refl _ _).set (.inl (.inl (.inr rfl))) v
 refine⟨cap,Cs.set i (Cs[i].set f v),hne,?_,?_,by simpa using hl,?_,fun k hk=>by rw[World.size_setCell];exact hfar k hk⟩
 ·rw[heap_setCell_other _ _ _ _ hne];simpa using ht
 ·rw[←flat7_set Cs i f v (by omega) h7 hf]
  simpa using (ho.stored (i*7+f) v).1
 ·intro j hj hj'
  simp only[List.length_set]at hj hj'
  simp only[List.getElem_set]
  split
  ·rename_i e
   subst e
   exact(hd _ (hn i hj hj')).kept hk
  ·exact(hn j hj hj').kept hk
end
end Go.Proofs.YtgepobccoffnaaaGreatDoor.Mem
namespace Go.Proofs.YtgepobccoffnaaaGreatDoor.Mem
open Go Go.RowKit
section
variable {tT tN:TypeId} {w w':World} {tb g:Nat} {T:TreeD}
theorem TreeAt.open_ (h:TreeAt tT tN w tb g T): ∃cap Cs,tb≠g∧w.heap[tb]?=some (.cells #[.slice (some ⟨g,0,none⟩) T.nodes.length cap,.int .i64 T.most] tT (0,0)) ∧
 w.ownsRow 0 tN 7 (.slice (some ⟨g,0,none⟩) T.nodes.length cap) T.nodes.length (List.flatten Cs)∧Cs.length=T.nodes.length ∧
 (∀i (h:i<Cs.length) (h':i<T.nodes.length),NodeAt (Dat T.far tb g) w Cs[i] T.nodes[i])∧ ∀k,T.far k→k<w.heap.size∧k≠tb∧k≠g:=h
theorem tree_push {cap cap' g':Nat} {Cs:List (List Value)} {cs:List Value} {d:ND} (hne:tb≠g) (ht:w.heap[tb]?=some (.cells #[.slice (some ⟨g,0,none⟩) T.nodes.length cap,.int .i64 T.most] tT (0,0)))
 (hl:Cs.length=T.nodes.length) (hn: ∀i (h:i<Cs.length) (h':i<T.nodes.length),NodeAt (Dat T.far tb g) w Cs[i] T.nodes[i]) (hfar: ∀k,T.far k→k<w.heap.size∧k≠tb∧k≠g)
 (hk:Keeps (· =g) w w') (ho:w'.ownsRow 0 tN 7 (.slice (some ⟨g',0,none⟩) (T.nodes.length+1) cap') (T.nodes.length+1) (List.flatten Cs++cs))
 (hg:g'=g∨w.heap.size≤g') (hd:NodeAt (Dat T.far tb g') w' cs d) :
 TreeAt tT tN (w'.setCell ⟨tb,0,none⟩ (.slice (some ⟨g',0,none⟩) (T.nodes.length+1) cap')) tb g' ⟨T.nodes++ [d],T.most,T.far⟩:=by
 have htb:tb<w.heap.size:=by
  rcases Nat.lt_or_ge tb w.heap.size with h|h
  ·exact h
  ·simp[Array.getElem?_eq_none h]at ht
 have hne':tb≠g':=by
  rcases hg with rfl|hg
  ·exact hne
  ·omega
 have ht':w'.heap[tb]?=some (.cells #[.slice (some ⟨g,0,none⟩) T.nodes.length cap,.int .i64 T.most] tT (0,0)):=(hk.block tb htb hne).trans ht
 have hs:Keeps (Dat T.far tb g') w' (w'.setCell ⟨tb,0,none⟩ (.slice (some ⟨g',0,none⟩) (T.nodes.length+1) cap')):=(Keeps.refl _ _).set (.inl (.inl (.inl rfl))) _
 refine⟨cap',Cs++ [cs],hne',?_,?_,by simp[hl],?_,fun k hk'=> ?_⟩
 ·rw[Lib.heap_setCell_same (i:=0) ht']
  simp
 ·have:(Cs++ [cs]).flatten=Cs.flatten++cs:=by simp
  rw[this]
  simp only[List.length_append,List.length_singleton]
  refine own_kept ho fun k hk'=> ?_
  simp only[Value.ownBlock,Option.some.injEq]at hk'
  subst hk'
  exact heap_setCell_other _ _ _ _ (Ne.symm hne')
 ·intro i hi hi'
  by_cases hlt:i<Cs.length
  ·have h1:(Cs++ [cs])[i]=Cs[i]:=List.getElem_append_left hlt
   have h2:(T.nodes++ [d])[i]'hi'=T.nodes[i]'(by omega):=List.getElem_append_left (by omega)
   rw[h1]
   show NodeAt _ _ _ ((T.nodes++ [d])[i]'hi')
   rw[h2]
   have h3:=hn i hlt (by omega)
   have h4:NodeAt (Dat T.far tb g) w' Cs[i] (T.nodes[i]'(by omega)):=h3.kept (hk.mono fun k _ h=> .inl (.inr h))
   --what the node holds lies where it lay in w
   have h5:NodeAt (Dat T.far tb g') w Cs[i] (T.nodes[i]'(by omega)):=h3.other fun b hb hh=>by
    rcases hh with(hh|hh)|hh
    ·exact .inl (.inl hh)
    ·rcases hg with rfl|hg
     ·exact .inl (.inr hh)
     ·omega
    ·exact .inr hh
   have h6:NodeAt (Dat T.far tb g') w' Cs[i] (T.nodes[i]'(by omega)):=by
    obtain⟨aa,ac,ka,kc,q1,q2,q3,q4,q5,q6,q7,q8,q9⟩:=h5
    obtain⟨aa',ac',ka',kc',r1,r2,r3,r4,r5,r6,r7,r8,r9⟩:=h3
    rw[q1]at r1
    simp only[cells7,List.cons.injEq,Value.slice.injEq,and_true,true_and]at r1
    obtain⟨⟨rfl,rfl⟩,⟨rfl,rfl⟩⟩:=r1
    refine⟨aa,ac,ka,kc,q1,q2,q3,q4,q5,q6,q7,?_,?_⟩
    ·intro j u hj
     obtain⟨b,o,rfl,hF,hc⟩:=q8 j u hj
     obtain⟨b',o',he,hF',hc'⟩:=r8 j u hj
     cases he
     refine⟨b,o,rfl,hF,?_⟩
     rw[World.cell?_of_block (w:=w) (hk.block b (lt_of_cell hc) fun e=>hF' (.inl (.inr e)))]
     exact hc
    ·intro j u hj
     obtain⟨b,o,rfl,hF,hc⟩:=q9 j u hj
     obtain⟨b',o',he,hF',hc'⟩:=r9 j u hj
     cases he
     refine⟨b,o,rfl,hF,?_⟩
     rw[World.cell?_of_block (w:=w) (hk.block b (lt_of_cell hc) fun e=>hF' (.inl (.inr e)))]
     exact hc
   exact h6.kept hs
  ·have he:i=Cs.length:=by simp at hi;omega
   subst he
   have h1:(Cs++ [cs])[Cs.length]'hi=cs:=by simp
   have h2:(T.nodes++ [d])[Cs.length]'hi'=d:=by simp[hl]
   rw[h1]
   show NodeAt _ _ _ ((T.nodes++ [d])[Cs.length]'hi')
   rw[h2]
   exact hd.kept hs
 ·obtain⟨k1,k2,k3⟩:=hfar k hk'
  have:=hk.size
  refine⟨by rw[World.size_setCell];omega,k2,?_⟩
  rcases hg with rfl|hg
  ·exact k3
  ·omega
end
end Go.Proofs.YtgepobccoffnaaaGreatDoor.Mem
namespace Go.Proofs.YtgepobccoffnaaaGreatDoor.Mem
open Go Go.RowKit
theorem row_lt {w:World} {b:Nat} {o:Obj} (h:w.heap[b]?=some o):b<w.heap.size:=by
 rcases Nat.lt_or_ge b w.heap.size with h'|h'
 ·exact h'
 ·simp[Array.getElem?_eq_none h']at h
theorem own_atF {F:Nat→Prop} {w:World} {base:Nat} {e:TypeId} {size:Nat} {v:Value} {n:Nat} {xs:List Value} (h:w.ownsRow base e size v n xs) (hF: ∀k,F k→k<base) :
 ∃a c,v= .slice a n c∧n≤c∧c≤maxLen∧RowForm a c∧AtF F w a xs:=by
 obtain⟨a,c,rfl,h1,h2,h3,h4⟩:=own_at h
 refine⟨a,c,rfl,h1,h2,own_form h,AtF.of_new h4 fun b o s ha hb=> ?_⟩
 subst ha
 have hb':=hF b hb
 rcases h.2 with⟨hv,_⟩|⟨g,cap,cur,hv,hg,_⟩
 ·cases hv
 ·cases hv
  omega
theorem step_append_slice {P:Program} {w:World} {ops:Array Oper} {o:Oper} {a:Act} {K:Act→World→Prop} {Q:Exit→Act→World→Prop} {E:Prop} (hgd:o.guard=none) (s x:Operand) (t:TypeId)
 (ho:o.op= .call {callee:= .builtin .append,args:= #[s,x],argTypes:= #[t,t]})
 (base:Nat) (e:TypeId) (i:TypeInfo) (z:Value) (size bytes:Nat) (ht:P.underlying t=some (.slice e)) (hi:P.info? e=some i) (hz:i.zero=some z)
 (hsize:i.size=size) (hby:i.bytes=bytes) (hzs:z.cells.size=size) (hsz:0<size)
 (v:Value) (n:Nat) (xs:List Value) (hs:a.eval s=v) (hown:w.ownsRow base e size v n xs)
 (ao:Option Addr) (m c:Nat) (news:List Value) (hx:a.eval x= .slice ao m c) (hl:news.length=m*size) (hnil:ao=none→c=0) (hat:At w ao news) (h1: ∀u∈news,u.oneCell'=true)
 (h63:n+m≤maxLen) (hbytes:(n+m)*bytes≤140737488355328) (hbase:base≤w.heap.size)
 (h: ∀v' w',w'.ownsRow base e size v' (n+m) (xs++news)→w.grownBy w' v.ownBlock→K (a.put o.dst v') w') :
 if Region.wanted o (yielded ops a.tmps)=true then Oper.wp P o a w K Q else E:=by
 have hw:Region.wanted o (yielded ops a.tmps)=true:=by simp[Region.wanted,hgd]
 rw[if_pos hw]
 cases ao with
 |some ad=>exact wp_append_own w s x t ho base e i z size bytes ht hi hz hsize hby hzs hsz v n xs hs hown ad m c news hx hl hat.news h1 h63 hbytes hbase fun v' w' h2 h3 _=>h v' w' h2 h3
 |none =>
  obtain rfl:c=0:=hnil rfl
  have hn:news= []:=by
   cases news with
   |nil=>rfl
   |cons u r=>obtain⟨b,q,he,_⟩:=hat 0 u rfl;cases he
  subst hn
  obtain rfl:m=0:=by
   have:m*size=0:=by simpa using hl.symm
   rcases Nat.mul_eq_zero.1 this with h|h
   ·exact h
   ·omega
  have hrun:=run_append_owned_none (P:=P) (w:=w) base t o.type e i size ht hi v n xs hown
  unfold Oper.wp
  simp[execOp,ho,resolve,invoke,builtin,hs,hx,hrun,Result.andThen]
  exact h v w (by simpa using hown) (World.grownBy.refl _ _)
theorem cell_grown {w w':World} {row:Option Nat} {p:Addr} {v:Value} (h:w.cell? p=some v) (hg:w.grownBy w' row) (hne:some p.block≠row):w'.cell? p=some v:=by
 rw[World.cell?_of_block (w:=w) (hg.block p.block (lt_of_cell h) hne)]
 exact h
end Go.Proofs.YtgepobccoffnaaaGreatDoor.Mem
namespace Go.Proofs.YtgepobccoffnaaaGreatDoor.Mem
open Go Go.RowKit
inductive NT where
 |mk (kind space:Int) (name:ByteArray) (attrs:List Pair) (text:ByteArray) (kids:List NT)
def nodeV (kind space:Int) (name:ByteArray) (a:Option Addr) (n c:Nat) (text:ByteArray) (ka:Option Addr) (kn kc:Nat):List Value :=
 [.int .i64 kind,.int .i64 space,.string name,.slice a n c,.string text,.slice ka kn kc]
inductive NodeC (F:Nat→Prop) (w:World):List Value→NT→Prop
 |mk {kind space:Int} {name:ByteArray} {a:Option Addr} {c:Nat} {attrs:List Pair} {text:ByteArray} {ka:Option Addr} {kc:Nat} {kids:List NT} (css:List (List Value))
   (h1:attrs.length≤c) (h2:c≤maxLen) (h3:a=none→c=0) (h4:AtF F w a (pairsV attrs))
   (k1:kids.length≤kc) (k2:kc≤maxLen) (k3:ka=none→kc=0) (k4:AtF F w ka css.flatten) (hl:css.length=kids.length)
   (hk: ∀i (h:i<css.length) (h':i<kids.length),NodeC F w css[i] kids[i]):NodeC F w (nodeV kind space name a attrs.length c text ka kids.length kc) (.mk kind space name attrs text kids)
theorem NodeC.len {F:Nat→Prop} {w:World} {cs:List Value} {n:NT} (h:NodeC F w cs n):cs.length=6:=by
 cases h;rfl
theorem NodeC.kept {F:Nat→Prop} {w w':World} {cs:List Value} {n:NT} (h:NodeC F w cs n) (hk:Keeps F w w'):NodeC F w' cs n:=by
 induction h with
 |mk css h1 h2 h3 h4 k1 k2 k3 k4 hl _ ih=>exact .mk css h1 h2 h3 (h4.kept hk) k1 k2 k3 (k4.kept hk) hl fun i h h'=>ih i h h'
theorem NodeC.other {F G:Nat→Prop} {w:World} {cs:List Value} {n:NT} (h:NodeC F w cs n) (hFG: ∀b,b<w.heap.size→G b→F b):NodeC G w cs n:=by
 induction h with
 |mk css h1 h2 h3 h4 k1 k2 k3 k4 hl _ ih=>exact .mk css h1 h2 h3 (h4.other hFG) k1 k2 k3 (k4.other hFG) hl fun i h h'=>ih i h h'
theorem flat6: ∀(Cs:List (List Value)),(∀c∈Cs,c.length=6)→Cs.flatten.length=Cs.length*6
 | [],_=>rfl
 |c::r,h=>by
  rw[List.flatten_cons,List.length_append,flat6 r fun x hx=>h x (List.mem_cons_of_mem _ hx),h c List.mem_cons_self,List.length_cons]
  omega
theorem flat6_get: ∀(Cs:List (List Value)) (i f:Nat) (hi:i<Cs.length),(∀c∈Cs,c.length=6)→f<6→Cs.flatten[i*6+f]?=Cs[i][f]?
 | [],_,_,hi,_,_=>by simp at hi
 |c::r,0,f,_,h,hf=>by
  rw[List.flatten_cons,List.getElem?_append_left (by rw[h c List.mem_cons_self];omega)]
  simp
 |c::r,i+1,f,hi,h,hf=>by
  have h6:=h c List.mem_cons_self
  rw[List.flatten_cons,List.getElem?_append_right (by rw[h6];omega),h6,show(i+1)*6+f-6=i*6+f from by omega]
  rw[flat6_get r i f (by simpa using hi) (fun x hx=>h x (List.mem_cons_of_mem _ hx)) hf]
  simp
theorem ret_node {P:Program} {fn:Func} {p q:Tmp} {ty:TypeId} (h:fn.results= #[.cell p ty,.tmp q]) (tmps:Array Value) (w:World) (g:Nat) (t:TypeId) (cs:Array Value) (fr:Nat×Nat) (d:TypeDesc) (u:Value)
 (hp:tmps.getD p undef= .pointer (some ⟨g,0,none⟩)) (hq:tmps.getD q undef=u) (hg:w.heap[g]?=some (.cells cs t fr))
 (hu:P.underlying ty=some d) (hd:(match d with| .struct _| .array _ _=>true|_=>false)=true) (hi:(P.info? ty).map (·.size)=some cs.size) :
 (results fn tmps).run P w= .ok (.tuple #[.agg cs,u]) w:=by
 have hp':tmps.getD p undef= .pointer (some ⟨g,0,none⟩):=hp
 rw[results_cell_tmp h,hp',hq]
 simp[asAddr,Result.andThen,run_loadVar_row w g t ty cs fr d hg hu hd hi]
end Go.Proofs.YtgepobccoffnaaaGreatDoor.Mem
namespace Go.Proofs.YtgepobccoffnaaaGreatDoor.Mem
open Go Go.RowKit
section
variable {tT tN:TypeId} {w w':World} {tb g:Nat} {T:TreeD}
theorem TreeAt.foreign {F far':Nat→Prop} (h:TreeAt tT tN w tb g T) (hk:Keeps F w w') (hF: ∀k,F k→T.far k) (hf: ∀k,far' k→(T.far k∨w.heap.size≤k)∧k<w'.heap.size):TreeAt tT tN w' tb g {T with far:=far'}:=by
 have hlt:=h.lt
 obtain⟨cap,Cs,hne,ht,ho,hl,hn,hfar⟩:=h
 have hFt: ∀k,F k→k≠tb∧k≠g:=fun k hk=>(hfar k (hF k hk)).2
 refine⟨cap,Cs,hne,(hk.block tb hlt.1 fun e=>(hFt tb e).1 rfl).trans ht,?_,hl,?_,?_⟩
 ·refine own_kept ho fun k hk'=> ?_
  simp only[Value.ownBlock,Option.some.injEq]at hk'
  subst hk'
  exact hk.block g hlt.2 fun e=>(hFt g e).2 rfl
 ·intro i h1 h2
  have h3:NodeAt (fun k=>Dat T.far tb g k∨Dat far' tb g k) w Cs[i] T.nodes[i]:=(hn i h1 h2).other fun b hb hh=>by
   rcases hh with hh|hh|hh
   ·exact hh
   ·exact .inl hh
   ·rcases(hf b hh).1 with h|h
    ·exact .inr h
    ·omega
  exact(h3.kept (hk.mono fun k _ h=> .inl (.inr (hF k h)))).other fun b _ hh=> .inr hh
 ·intro k hk'
  obtain⟨h1,h2⟩:=hf k hk'
  refine⟨h2,?_⟩
  rcases h1 with h1|h1
  ·exact(hfar k h1).2
  ·omega
end
end Go.Proofs.YtgepobccoffnaaaGreatDoor.Mem
end
