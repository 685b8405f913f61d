/- Texts joined for a claim: Mem, MemBC: plain laws and contracts. No conditions beyond those that each lemma types. -/
import Derived.WalkKit
import Derived.WalkSpells
import Derived.WalkLawsBesides
import Derived.Lib.Hide
import Derived.Lib.ConvBytes
import Derived.Laws.AppendOwnNone
import Derived.Deep.QuietTactic
import Derived.BigQuiet
import Derived.Deep.RegionWith
set_option linter.unusedVariables false
set_option linter.unusedSimpArgs false
section
namespace Go.Proofs.YtpnagbgpbajfeaaGreatDoor.Mem
open Go Go.RowKit
abbrev Str:=List UInt8
theorem lt_of_cell {w:World} {a:Addr} {v:Value} (h:w.cell? a=some v):a.block<w.heap.size:=World.block_lt_of_cell? w a h
def At (w:World) (a:Option Addr) (xs:List Value):Prop :=
 ∀j u,xs[j]?=some u→ ∃b o,a=some ⟨b,o,none⟩∧w.cell? ⟨b,o+j,none⟩=some u
theorem At.below {w w':World} {a:Option Addr} {xs:List Value} (h:At w a xs) (hb:Below w.heap.size w w'):At w' a xs:=by
 intro j u hj
 obtain⟨b,o,ha,hc⟩:=h j u hj
 exact⟨b,o,ha,cell_later hb hc⟩
theorem At.nil (w:World) (a:Option Addr):At w a []:=by
 intro j u h
 simp at h
theorem At.get {w:World} {b o:Nat} {xs:List Value} (h:At w (some ⟨b,o,none⟩) xs) {j:Nat} {u:Value} (hj:xs[j]?=some u):w.cell? ⟨b,o+j,none⟩=some u:=by
 obtain⟨b',o',ha,hc⟩:=h j u hj
 cases ha
 exact hc
theorem At.some_of {w:World} {a:Option Addr} {xs:List Value} (h:At w a xs) (hx:xs≠ []): ∃b o,a=some ⟨b,o,none⟩:=by
 cases xs with
 |nil=>exact absurd rfl hx
 |cons u r =>
  obtain⟨b,o,ha,_⟩:=h 0 u rfl
  exact⟨b,o,ha⟩
theorem belowCall {w wr w1:World} (h:Below w.heap.size w wr) (h1:Below wr.heap.size wr w1):Below w.heap.size w w1:=h.trans (h1.mono h.size)
def Row (w:World) (g:Nat) (xs:List Value):Prop :=
 ∃cur e lo hi,w.heap[g]?=some (.cells cur e (lo,hi))∧cur.toList.take xs.length=xs∧(xs.length≤lo∨hi=0)
theorem Row.cell {w:World} {g:Nat} {xs:List Value} (h:Row w g xs) {j:Nat} {u:Value} (hj:xs[j]?=some u):w.cell? ⟨g,j,none⟩=some u:=by
 obtain⟨cur,e,lo,hi,hg,ht,_⟩:=h
 have hlt:j<xs.length:=by
  rcases Nat.lt_or_ge j xs.length with h|h
  ·exact h
  ·simp[List.getElem?_eq_none h]at hj
 simp only[World.cell?,hg]
 rw[←ht,List.getElem?_take_of_lt hlt]at hj
 simpa using hj
theorem Row.frozen {w:World} {g:Nat} {xs:List Value} (h:Row w g xs) {j:Nat} (hj:j<xs.length):w.frozen? ⟨g,j,none⟩=false:=by
 obtain⟨cur,e,lo,hi,hg,ht,hf⟩:=h
 simp only[World.frozen?,hg]
 rcases hf with hf|hf
 ·simp;omega
 ·subst hf;simp
theorem Row.lt {w:World} {g:Nat} {xs:List Value} (h:Row w g xs):g<w.heap.size:=by
 obtain⟨cur,e,lo,hi,hg,_⟩:=h
 rcases Nat.lt_or_ge g w.heap.size with h|h
 ·exact h
 ·simp[Array.getElem?_eq_none h]at hg
theorem Row.set {w:World} {g:Nat} {xs:List Value} (h:Row w g xs) (j:Nat) (v:Value):Row (w.setCell ⟨g,j,none⟩ v) g (xs.set j v):=by
 obtain⟨cur,e,lo,hi,hg,ht,hf⟩:=h
 have hlt:=Row.lt ⟨cur,e,lo,hi,hg,ht,hf⟩
 refine⟨cur.setIfInBounds j v,e,lo,hi,?_,?_,?_⟩
 ·simp[World.setCell,Array.getElem?_modify,hg]
 ·rw[List.length_set,Array.toList_setIfInBounds,List.take_set,ht]
 ·rw[List.length_set];exact hf
theorem Row.kept {w w':World} {g:Nat} {xs:List Value} (h:Row w g xs) (hg:w'.heap[g]?=w.heap[g]?):Row w' g xs:=by
 obtain⟨cur,e,lo,hi,h1,h2⟩:=h
 exact⟨cur,e,lo,hi,hg.trans h1,h2⟩
theorem Row.below {w w':World} {g B:Nat} {xs:List Value} (h:Row w g xs) (hb:Below B w w') (hg:g<B):Row w' g xs:=h.kept (hb.block g hg)
theorem Row.at {w:World} {g:Nat} {xs:List Value} (h:Row w g xs):At w (some ⟨g,0,none⟩) xs:=by
 intro j u hj
 exact⟨g,0,rfl,by rw[Nat.zero_add];exact h.cell hj⟩
theorem Row.alloc (w:World) (cur:Array Value) (e:TypeId):Row (w.alloc (.cells cur e)) w.heap.size cur.toList :=
 ⟨cur,e,0,0,heap_alloc_new w _,List.take_of_length_le (Nat.le_refl _),.inr rfl⟩
theorem at_alloc {w:World} {cur:Array Value} {e:TypeId} {g:Nat} {xs:List Value} (hg:g=w.heap.size) (hc:cur.toList=xs):At (w.alloc (.cells cur e)) (some ⟨g,0,none⟩) xs:=by
 subst hg hc
 exact(Row.alloc w cur e).at
def bytesV (l:Str):List Value:=l.map fun b=>Value.int .u8 b.toNat
theorem bytesV_length (l:Str):(bytesV l).length=l.length:=by simp[bytesV]
theorem size_toList (s:ByteArray):s.toList.length=s.size:=by rw[ByteArray.toList_eq,Array.length_toList];rfl
theorem mk_toList (s:ByteArray):(ByteArray.mk s.toList.toArray)=s:=by rw[ByteArray.toList_eq]
theorem toList_inj {a b:ByteArray} (h:a.toList=b.toList):a=b:=by rw[←mk_toList a,←mk_toList b,h]
theorem beqT {a b:ByteArray} (h:(a.toList==b.toList)=true):a=b:=toList_inj (by simpa using h)
theorem beqF {a b:ByteArray} (h:(a.toList==b.toList)=false):a≠b:=fun e=>by subst e;simp at h
theorem beqL {a b:Str} (h:(a==b)=true):a=b:=by simpa using h
theorem beqLF {a b:Str} (h:(a==b)=false):a≠b:=by simpa using h
theorem bytesWorld_row (w:World) (e:TypeId) (s:ByteArray):Row (Lib.bytesWorld w e s) w.heap.size (bytesV s.toList):=by
 refine⟨_,_,_,_,Lib.bytesWorld_at_new w e s,?_,.inl ?_⟩
 ·rw[bytesV_length,size_toList]
  simp only[Lib.bytesCells,bytesV,ByteArray.toList_eq,Array.toList_append,Array.toList_map]
  rw[List.take_left']
  simp
 ·rw[bytesV_length,size_toList]
  simp[Lib.bytesCells]
theorem bytesWorld_below (w:World) (e:TypeId) (s:ByteArray):Below w.heap.size w (Lib.bytesWorld w e s):=by
 refine⟨?_,?_,?_,by rw[Lib.bytesWorld_size];omega,fun k hk=>Lib.bytesWorld_at_old w e s k hk⟩
 all_goals (unfold Lib.bytesWorld World.freeze;split <;>rfl)
theorem run_bytes_of {P:Program} (w:World) (src dst e:TypeId) (s:ByteArray) {u:TypeDesc}
 (hs:P.underlying src=some u) (hd:P.underlying dst=some (.slice e)) (he:P.underlying e=some (.int .u8)) :
 ∃c W,(convert src dst (.string s)).run P w= .ok (.slice (some ⟨w.heap.size,0,none⟩) s.size c) W∧Below w.heap.size w W∧W.heap.size=w.heap.size+1∧Row W w.heap.size (bytesV s.toList)∧s.size≤c :=
 ⟨_,_,Lib.run_convert_string_bytes w src dst e s hs hd he,bytesWorld_below w e s,Lib.bytesWorld_size w e s,bytesWorld_row w e s,grownCap_ge w s.size 0 e⟩
theorem foldl_push (l:Str): ∀s:ByteArray,(l.map fun b=>((b.toNat:Nat):Int)).foldl (fun r n=>r.push (UInt8.ofNat n.toNat)) s=⟨(s.toList++l).toArray⟩:=by
 induction l with
 |nil=>intro s;simp[ByteArray.toList_eq]
 |cons b r ih =>
  intro s
  simp only[List.map_cons,List.foldl_cons]
  rw[ih]
  congr 2
  rw[ByteArray.toList_eq,ByteArray.toList_eq]
  simp[ByteArray.push]
theorem run_string_of {P:Program} (w:World) (src dst e:TypeId) (g c:Nat) (l:Str) (n:Nat) (hn:n=l.length)
 (hs:P.underlying src=some (.slice e)) (he:P.underlying e=some (.int .u8)) (hd:P.underlying dst=some .string) (hr:Row w g (bytesV l)) :
 (convert src dst (.slice (some ⟨g,0,none⟩) n c)).run P w= .ok (.string ⟨l.toArray⟩) w:=by
 subst hn
 rw[run_convert_bytes_string w src dst e _ _ _ hs he hd]
 have h:=run_loadCells_list (P:=P) (w:=w) ⟨g,0,none⟩ (bytesV l) (by
  intro j v hj
  rw[Addr.add]
  split
  ·rename_i h0;subst h0;exact hr.cell hj
  ·have:=hr.cell hj;simpa using this)
 rw[bytesV_length]at h
 have h2:=run_bytesToString (P:=P) w ⟨g,0,none⟩ l.length c (l.map fun b=>((b.toNat:Nat):Int)) (by
  rw[h];simp[bytesV,Function.comp_def])
 rw[h2,foldl_push]
 simp[ByteArray.toList_eq]
def strsV (l:List ByteArray):List Value:=l.map Value.string
theorem strsV_get (l:List ByteArray) (k:Nat) (h:k<l.length):(strsV l)[k]?=some (.string l[k]):=by simp[strsV,h]
abbrev Pair:=ByteArray×ByteArray
def pairsV:List Pair→List Value
 | []=> []
 |p::r=> .string p.1:: .string p.2::pairsV r
theorem pairsV_length (l:List Pair):(pairsV l).length=l.length*2:=by
 induction l with
 |nil=>rfl
 |cons p r ih=>simp only[pairsV,List.length_cons,ih];omega
theorem pairsV_get0: ∀(l:List Pair) (k:Nat) (h:k<l.length),(pairsV l)[k*2]?=some (.string l[k].1)
 | [],_,h=>by simp at h
 |p::r,0,_=>rfl
 |p::r,k+1,h=>by
  have:=pairsV_get0 r k (by simpa using h)
  rw[show(k+1)*2=k*2+1+1 from by omega]
  simpa[pairsV] using this
theorem pairsV_get1: ∀(l:List Pair) (k:Nat) (h:k<l.length),(pairsV l)[k*2+1]?=some (.string l[k].2)
 | [],_,h=>by simp at h
 |p::r,0,_=>rfl
 |p::r,k+1,h=>by
  have:=pairsV_get1 r k (by simpa using h)
  rw[show(k+1)*2+1=k*2+1+1+1 from by omega]
  simpa[pairsV] using this
theorem pair_cells {w:World} {a:Option Addr} {l:List Pair} (h:At w a (pairsV l)) {k:Nat} (hk:k<l.length) :
 ∃b o,a=some ⟨b,o,none⟩∧b<w.heap.size∧w.cell? ⟨b,o+k*2,none⟩=some (.string l[k].1)∧w.cell? ⟨b,o+k*2+1,none⟩=some (.string l[k].2):=by
 obtain⟨b,o,rfl,h1⟩:=h _ _ (pairsV_get0 l k hk)
 exact⟨b,o,rfl,lt_of_cell h1,h1,by rw[Nat.add_assoc];exact h.get (pairsV_get1 l k hk)⟩
theorem str_cell {w:World} {a:Option Addr} {l:List ByteArray} (h:At w a (strsV l)) {k:Nat} (hk:k<l.length) :
 ∃b o,a=some ⟨b,o,none⟩∧b<w.heap.size∧w.cell? ⟨b,o+k,none⟩=some (.string l[k]):=by
 obtain⟨b,o,rfl,h1⟩:=h _ _ (strsV_get l k hk)
 exact⟨b,o,rfl,lt_of_cell h1,h1⟩
theorem pairsV_one (l:List Pair): ∀u∈pairsV l,u.oneCell'=true:=by
 induction l with
 |nil=>intro u h;cases h
 |cons p r ih =>
  intro u h
  simp only[pairsV,List.mem_cons]at h
  rcases h with rfl|rfl|h
  ·rfl
  ·rfl
  ·exact ih u h
theorem ret_int {k:IntKind} {a b:Int} (h:a=b):Ending.returned (.int k a)= .returned (.int k b):=by rw[h]
theorem ret_bool {a b:Bool} (h:a=b):Ending.returned (.bool a)= .returned (.bool b):=by rw[h]
theorem ret_string {a b:ByteArray} (h:a=b):Ending.returned (.string a)= .returned (.string b):=by rw[h]
theorem ret_eq {v v':Value} (h:v=v'):Ending.returned v= .returned v':=by rw[h]
end Go.Proofs.YtpnagbgpbajfeaaGreatDoor.Mem
end
section
namespace Go.Proofs.YtpnagbgpbajfeaaGreatDoor.Mem
open Go Go.RowKit
theorem own_kept {w w':World} {base:Nat} {e:TypeId} {size:Nat} {v:Value} {n:Nat} {xs:List Value} (h:w.ownsRow base e size v n xs) (hb: ∀g,v.ownBlock=some g→w'.heap[g]?=w.heap[g]?):w'.ownsRow base e size v n xs:=by
 obtain⟨h1,h2⟩:=h
 refine⟨h1,?_⟩
 rcases h2 with h2|⟨g,cap,cur,rfl,hg,hh,r⟩
 ·exact .inl h2
 ·exact .inr ⟨g,cap,cur,rfl,hg,(hb g rfl).trans hh,r⟩
theorem own_below {w w':World} {base:Nat} {e:TypeId} {size:Nat} {v:Value} {n:Nat} {xs:List Value} (h:w.ownsRow base e size v n xs) (hb:Below w.heap.size w w'):w'.ownsRow base e size v n xs :=
 own_kept h fun g hg=>hb.block g (h.lt g hg).2
theorem own_row {w:World} {base:Nat} {e:TypeId} {size g:Nat} {n c:Nat} {xs:List Value} (h:w.ownsRow base e size (.slice (some ⟨g,0,none⟩) n c) n xs):Row w g xs:=by
 rcases h.2 with⟨h',_⟩|⟨g',cap,cur,h',_,hg,_,_,_,ht⟩
 ·cases h'
 ·cases h'
  exact⟨cur,e,0,0,hg,by rw[h.1];exact ht,.inr rfl⟩
theorem own_at {w:World} {base:Nat} {e:TypeId} {size:Nat} {v:Value} {n:Nat} {xs:List Value} (h:w.ownsRow base e size v n xs) :
 ∃a c,v= .slice a n c∧n≤c∧c≤maxLen∧(a=none→c=0)∧At w a xs:=by
 obtain⟨h1,h2⟩:=h
 rcases h2 with⟨rfl,rfl⟩|⟨g,cap,cur,rfl,hg,hh,r1,r2,r3,r4⟩
 ·have:xs= []:=List.eq_nil_of_length_eq_zero (by simpa using h1)
  subst this
  exact⟨none,0,rfl,Nat.le_refl _,Nat.zero_le _,fun _=>rfl,At.nil _ _⟩
 ·exact⟨some ⟨g,0,none⟩,cap,rfl,r1,r2,(fun h=>by cases h),(own_row (base:=base) (e:=e) (size:=size) ⟨h1,.inr ⟨g,cap,cur,rfl,hg,hh,r1,r2,r3,r4⟩⟩).at⟩
def blanks (n:Nat):List Pair:=List.replicate n (⟨#[]⟩,⟨#[]⟩)
theorem made_pairs (n:Nat):(madeCells #[.string ⟨#[]⟩,.string ⟨#[]⟩] (n*2)).toList=pairsV (blanks n):=by
 apply List.ext_getElem?
 intro j
 have hl:(pairsV (blanks n)).length=n*2:=by rw[pairsV_length];simp[blanks]
 by_cases hj:j<n*2
 ·have hk:j/2<(blanks n).length:=by simp[blanks];omega
  have h0:=pairsV_get0 (blanks n) (j/2) hk
  have h1:=pairsV_get1 (blanks n) (j/2) hk
  rcases Nat.mod_two_eq_zero_or_one j with h|h
  ·rw[show j/2*2=j from by omega]at h0
   rw[h0]
   simp[madeCells,hj,h,blanks]
  ·rw[show j/2*2+1=j from by omega]at h1
   rw[h1]
   simp[madeCells,hj,h,blanks]
 ·rw[List.getElem?_eq_none (by simp[madeCells];omega),List.getElem?_eq_none (by omega)]
theorem pairsV_set: ∀(l:List Pair) (k:Nat) (p:Pair),((pairsV l).set (k*2) (.string p.1)).set (k*2+1) (.string p.2)=pairsV (l.set k p)
 | [],_,_=>by simp[pairsV]
 |q::r,0,p=>rfl
 |q::r,k+1,p=>by
  rw[show(k+1)*2=k*2+1+1 from by omega,show k*2+1+1+1=(k*2+1)+1+1 from rfl]
  simp only[pairsV,List.set_cons_succ,pairsV_set r k p]
end Go.Proofs.YtpnagbgpbajfeaaGreatDoor.Mem
namespace Go.Proofs.YtpnagbgpbajfeaaGreatDoor.Mem
open Go Go.RowKit
theorem At.left {w:World} {a:Option Addr} {xs ys:List Value} (h:At w a (xs++ys)):At w a xs:=by
 intro j u hj
 refine h j u ?_
 rw[List.getElem?_append_left (by
  rcases Nat.lt_or_ge j xs.length with h'|h'
  ·exact h'
  ·simp[List.getElem?_eq_none h']at hj)]
 exact hj
theorem At.news {w:World} {ad:Addr} {xs:List Value} (h:At w (some ad) xs): ∀j u,xs[j]?=some u→w.cell? (ad.add j)=some u:=by
 intro j u hj
 obtain⟨b,o,ha,hc⟩:=h j u hj
 cases ha
 unfold Addr.add
 split
 ·rename_i h0;subst h0;exact hc
 ·exact hc
theorem own_some {w:World} {base:Nat} {e:TypeId} {size:Nat} {v:Value} {n:Nat} {xs:List Value} (h:w.ownsRow base e size v n xs) (hn:0<n): ∃g cap,v= .slice (some ⟨g,0,none⟩) n cap∧base≤g∧n≤cap∧cap≤maxLen:=by
 rcases h.2 with⟨_,h0⟩|⟨g,cap,cur,rfl,hg,_,hc,hm,_⟩
 ·omega
 ·exact⟨g,cap,rfl,hg,hc,hm⟩
theorem wpList_append_slice {P:Program} (w:World) {ops:Array Oper} {rest:List Oper} {o:Oper} {a:Act} {Q:Exit→Act→World→Prop} (hgd:o.guard=none) (s x:Operand) (t:TypeId)
 (ho:o.op= .call {callee:= .builtin .append,args:= #[s,x],argTypes:= #[t,t]})
 (base:Nat) (e:TypeId) (i:TypeInfo) (z:Value) (size bytes:Nat) (ht:P.underlying t=some (.slice e)) (hi:P.info? e=some i) (hz:i.zero=some z)
 (hsize:i.size=size) (hby:i.bytes=bytes) (hzs:z.cells.size=size) (hsz:0<size)
 (v:Value) (n:Nat) (xs:List Value) (hs:a.eval s=v) (hown:w.ownsRow base e size v n xs)
 (ao:Option Addr) (m c:Nat) (news:List Value) (hx:a.eval x= .slice ao m c) (hl:news.length=m*size) (hnil:ao=none→c=0) (hat:At w ao news) (h1: ∀u∈news,u.oneCell'=true)
 (h63:n+m≤maxLen) (hbytes:(n+m)*bytes≤140737488355328) (hbase:base≤w.heap.size)
 (h: ∀v' w',w'.ownsRow base e size v' (n+m) (xs++news)→w.grownBy w' v.ownBlock→wpList P ops Q rest (a.put o.dst v') w'):wpList P ops Q (o::rest) a w:=by
 cases ao with
 |some ad=>exact wpList_append_own w hgd s x t ho base e i z size bytes ht hi hz hsize hby hzs hsz v n xs hs hown ad m c news hx hl hat.news h1 h63 hbytes hbase fun v' w' h2 h3 _=>h v' w' h2 h3
 |none =>
  obtain rfl:c=0:=hnil rfl
  have hn:news= []:=by
   cases news with
   |nil=>rfl
   |cons u r=>obtain⟨b,q,he,_⟩:=hat 0 u rfl;cases he
  subst hn
  obtain rfl:m=0:=by
   have:m*size=0:=by simpa using hl.symm
   rcases Nat.mul_eq_zero.1 this with h|h
   ·exact h
   ·omega
  exact wpList_append_own_none hgd s x t ho base e i size ht hi v n xs hs hown hx (h v w (by simpa using hown) (World.grownBy.refl _ _))
end Go.Proofs.YtpnagbgpbajfeaaGreatDoor.Mem
end
