/- Texts joined for a claim: BuOk, BuBase, BuA, CuB, CuC: plain laws and contracts. No conditions beyond those that each lemma types. -/
import Derived.Test.YtgepobccoffnaaaGreatDoorT18
set_option linter.unusedVariables false
set_option linter.unusedSimpArgs false
set_option maxRecDepth 100000
set_option maxHeartbeats 8000000
namespace Go.Proofs.YtgepobccoffnaaaGreatDoor
open Go.RowKit Mem
section
structure Ok (c:Nat) (s:Int) (b:BuD):Prop where
 fi:FI b.S.T b.S.l b.S.ent
 n1:1≤b.S.T.nodes.length
 lm:Lm 1000 b.S.T
 hard:b.S.ent.count (-1)≤c
 soft:b.err=0→(b.S.ent.count (-1):Int)≤b.S.T.nodes.length+s
 at':AtP Fits b.S.T
namespace BuD
theorem keep_S (b:BuD) (e:Int):(b.keep e).S=b.S:=by
 unfold keep fail
 split
 ·rfl
 ·split <;>rfl
theorem keep_err {b:BuD} {e:Int} (h:(b.keep e).err=0):e=0∧b.err=0:=by
 unfold keep fail at h
 split at h
 ·exact⟨‹_›,h⟩
 ·split at h
  ·exact absurd h ‹_›
  ·exact absurd h ‹_›
theorem keep_zero (b:BuD):b.keep 0=b:=by simp[keep]
theorem keep_all (b:BuD) (e:Int):(b.keep e).on=b.on∧(b.keep e).mode=b.mode∧(b.keep e).back=b.back∧(b.keep e).head=b.head∧(b.keep e).wait=b.wait∧(b.keep e).skip=b.skip∧(b.keep e).raw=b.raw∧(b.keep e).name=b.name∧(b.keep e).used=b.used:=by
 unfold keep fail
 split
 ·exact⟨rfl,rfl,rfl,rfl,rfl,rfl,rfl,rfl,rfl⟩
 ·split <;>exact⟨rfl,rfl,rfl,rfl,rfl,rfl,rfl,rfl,rfl⟩
end BuD
section
variable {c:Nat} {s:Int} {b:BuD}
theorem Ok.len (h:Ok c s b):b.S.l.length≤1001∧b.S.ent.length≤c+1001:=by
 have h1:=h.fi.l_len
 have h2:=h.fi.ent_len
 have h3:=h.lm.1
 have h4:=h.hard
 omega
theorem Ok.more {c':Nat} {s':Int} (h:Ok c s b) (hc:c≤c') (hs:s≤s'):Ok c' s' b :=
 ⟨h.fi,h.n1,h.lm,Nat.le_trans h.hard hc,fun he=>by have:=h.soft he;omega,h.at'⟩
theorem Ok.of {b':BuD} (h:Ok c s b) (hS:b'.S=b.S) (he:b'.err=0→b.err=0):Ok c s b' :=
 ⟨hS▸h.fi,hS▸h.n1,hS▸h.lm,hS▸h.hard,fun e=>hS▸h.soft (he e),hS▸h.at'⟩
theorem Ok.keep (h:Ok c s b) (e:Int):Ok c s (b.keep e):=h.of (b.keep_S e) fun he=>(BuD.keep_err he).2
theorem Ok.fresh (h:Ok c 0 b) (he:b.err=0):Ok 1001 0 b:=by
 have h1:=h.soft he
 have h2:=h.lm.1
 exact⟨h.fi,h.n1,h.lm,by omega,h.soft,h.at'⟩
theorem Ok.insSp (h:Ok c s b) (sp:Int) (name:ByteArray) {attrs:List Pair} (ha:Fits name attrs):Ok c (s-1) (b.insSp sp name attrs).1:=by
 have e:(b.insSp sp name attrs).1.S=⟨(insertL b.S.T b.S.l b.on sp name attrs).1,(insertL b.S.T b.S.l b.on sp name attrs).2.1,b.S.ent⟩:=BuD.keep_S _ _
 refine⟨?_,?_,?_,?_,fun he=> ?_,?_⟩
 ·rw[e];exact h.fi.insert h.n1 b.on sp name attrs
 ·rw[e];exact Nat.le_trans h.n1 (insertL_mor b.S.T b.S.l b.on sp name attrs).1
 ·rw[e];exact insertL_lm h.lm _ _ _ _ _
 ·rw[e];exact h.hard
 ·obtain⟨h1,h2⟩:=BuD.keep_err he
  rw[e]
  by_cases hm:(b.S.T.nodes.length:Int)-1<b.S.T.most
  ·have:=h.soft h2
   have h3:=(insertL_yes hm b.S.l b.on sp name attrs).2.2
   show(b.S.ent.count (-1):Int)≤((insertL b.S.T b.S.l b.on sp name attrs).1.nodes.length:Int)+(s-1)
   rw[h3]
   omega
  ·rw[insertL_no hm]at h1
   exact absurd (show(43:Int)=0 from h1) (by decide)
 ·rw[e];exact insertL_at h.at' _ _ _ _ ha
theorem Ok.ins (h:Ok c s b) (name:ByteArray) {attrs:List Pair} (ha:Fits name attrs):Ok c (s-1) (b.ins name attrs):=h.insSp 0 name ha
theorem Ok.putText (h:Ok c s b) (t:ByteArray):Ok c s (b.putText t):=by
 have hm:=textE_mor b.S.T (placeQ b.S.T b.S.l b.on 0).1 (placeQ b.S.T b.S.l b.on 0).2 t
 refine Ok.keep (b:= {b with S:=⟨(textE b.S.T (placeQ b.S.T b.S.l b.on 0).1 (placeQ b.S.T b.S.l b.on 0).2 t).1,b.S.l,b.S.ent⟩,used:=b.used+t.size}) ⟨h.fi.grow hm,Nat.le_trans h.n1 hm.1,textE_lm _ _ _ h.lm,h.hard,fun he=> ?_,textE_at h.at' _ _ _⟩ _
 have:=h.soft he
 have:=hm.1
 show(b.S.ent.count (-1):Int)≤((textE b.S.T (placeQ b.S.T b.S.l b.on 0).1 (placeQ b.S.T b.S.l b.on 0).2 t).1.nodes.length:Int)+s
 omega
theorem Ok.stk (h:Ok c s b) {l:List Int} (hl:l.Sublist b.S.l):Ok c s (b.stk l) :=
 ⟨h.fi.sub hl (List.Sublist.refl _),h.n1,h.lm,h.hard,h.soft,h.at'⟩
theorem Ok.lst (h:Ok c s b) {e:List Int} (hl:e.Sublist b.S.ent):Ok c s (b.lst e) :=
 ⟨h.fi.sub (List.Sublist.refl _) hl,h.n1,h.lm,Nat.le_trans (hl.count_le _) h.hard,fun he=>by
  have:=h.soft he
  have:=hl.count_le (-1)
  show(e.count (-1):Int)≤(b.S.T.nodes.length:Int)+s
  omega,h.at'⟩
theorem rev_sub {l r:List Int} (h:r.Sublist l.reverse):r.reverse.Sublist l:=by
 have:=h.reverse
 rwa [List.reverse_reverse]at this
theorem untilF_sub (T:TreeD) (names:List ByteArray): ∀l:List Int,(untilF T names l).Sublist l
 | []=>List.Sublist.refl _
 |x::r=>by
  rw[untilF]
  split
  ·exact List.sublist_cons_self _ _
  ·exact(untilF_sub T names r).trans (List.sublist_cons_self _ _)
theorem stClear_sub (T:TreeD) (names:List ByteArray): ∀l:List Int,(stClear T names l).Sublist l
 | []=>List.Sublist.refl _
 |x::r=>by
  rw[stClear]
  split
  ·exact List.Sublist.refl _
  ·exact(stClear_sub T names r).trans (List.sublist_cons_self _ _)
theorem stImply_sub (T:TreeD) (but:ByteArray): ∀l:List Int,(stImply T but l).Sublist l
 | []=>List.Sublist.refl _
 |x::r=>by
  rw[stImply]
  split
  ·exact(stImply_sub T but r).trans (List.sublist_cons_self _ _)
  ·exact List.Sublist.refl _
theorem Ok.pop (h:Ok c s b):Ok c s b.pop:=h.stk (List.dropLast_sublist _)
theorem Ok.sremove (h:Ok c s b) (n:Int):Ok c s (b.sremove n):=h.stk (rmF_sub _ _)
theorem Ok.until' (h:Ok c s b) (names:List ByteArray):Ok c s (b.until' names):=h.stk (rev_sub (untilF_sub _ _ _))
theorem Ok.clear' (h:Ok c s b) (names:List ByteArray):Ok c s (b.clear' names):=h.stk (rev_sub (stClear_sub _ _ _))
theorem Ok.imply (h:Ok c s b) (but:ByteArray):Ok c s (b.imply but):=h.stk (rev_sub (stImply_sub _ _ _))
theorem Ok.lclear (h:Ok c s b):Ok c s b.lclear:=h.lst (clearF_sub _)
theorem Ok.lremove (h:Ok c s b) (n:Int):Ok c s (b.lremove n):=h.lst (rmF_sub _ _)
theorem Ok.lmark (h:Ok c s b):Ok (c+1) (s+1) b.lmark:=by
 have hc:(b.S.ent++ [-1]).count (-1)=b.S.ent.count (-1)+1:=by simp
 refine⟨h.fi.mark,h.n1,h.lm,?_,fun he=> ?_,h.at'⟩
 ·show(b.S.ent++ [-1]).count (-1)≤_
  rw[hc];exact Nat.succ_le_succ h.hard
 ·have:=h.soft he
  show((b.S.ent++ [-1]).count (-1):Int)≤(b.S.T.nodes.length:Int)+(s+1)
  rw[hc]
  omega
theorem Ok.restore (h:Ok c s b):Ok c s b.restore:=by
 obtain⟨h1,h2⟩:=restL_fi h.fi h.n1 b.on
 have h3:=restL_cnt b.S b.on
 refine Ok.keep (b:= {b with S:=(restL b.on b.S).1}) ⟨h1,Nat.le_trans h.n1 h2.1,restL_lm h.lm _,Nat.le_trans h3 h.hard,fun he=> ?_,restL_at h.at' _⟩ _
 have:=h.soft he
 have:=h2.1
 show(((restL b.on b.S).1.ent).count (-1):Int)≤((restL b.on b.S).1.T.nodes.length:Int)+s
 omega
theorem Ok.adopt (h:Ok c s b) (name:ByteArray):Ok c s (b.adopt name):=by
 obtain⟨h1,h2⟩:=adoptL_fi h.fi b.on name
 have h3:=adoptL_cnt b.S b.on name
 refine Ok.keep (b:= {b with S:=(adoptL b.on name b.S).1}) ⟨h1,Nat.le_trans h.n1 h2.1,adoptL_lm h.lm _ _,Nat.le_trans h3 h.hard,fun he=> ?_,adoptL_at h.at' _ _⟩ _
 have:=h.soft he
 have:=h2.1
 show(((adoptL b.on name b.S).1.ent).count (-1):Int)≤((adoptL b.on name b.S).1.T.nodes.length:Int)+s
 omega
theorem Ok.lpush (h:Ok c s b) {n:Int} (hel:elemF b.S.T n=true) (hn: ¬n∈b.S.ent):Ok c s (b.lpush n):=by
 have h3:=pushF_cnt b.S.T b.S.ent (n:=n) (by have:=elemF_lt hel;omega)
 refine⟨h.fi.epush hel hn,h.n1,h.lm,Nat.le_trans h3 h.hard,fun he=> ?_,h.at'⟩
 have:=h.soft he
 show((pushF b.S.T b.S.ent n).count (-1):Int)≤(b.S.T.nodes.length:Int)+s
 omega
theorem Ok.insN (h:Ok c s b) (name:ByteArray) (attrs:List Pair):b.insN name attrs=0∨elemF (b.ins name attrs).S.T (b.insN name attrs)=true∧ ¬b.insN name attrs∈(b.ins name attrs).S.ent∧ ¬b.insN name attrs∈b.S.l:=by
 have e:(b.ins name attrs).S=⟨(insertL b.S.T b.S.l b.on 0 name attrs).1,(insertL b.S.T b.S.l b.on 0 name attrs).2.1,b.S.ent⟩:=BuD.keep_S _ _
 by_cases hm:(b.S.T.nodes.length:Int)-1<b.S.T.most
 ·have h2:=(insertL_yes hm b.S.l b.on 0 name attrs).2.1
  have e2:b.insN name attrs=b.S.T.nodes.length:=congrArg Prod.fst h2
  refine .inr ⟨?_,?_,?_⟩
  ·rw[e,e2];exact insertL_new h.n1 hm
  ·rw[e,e2];exact(h.fi.fresh rfl).2
  ·rw[e2];exact(h.fi.fresh rfl).1
 ·left
  show(insertL b.S.T b.S.l b.on 0 name attrs).2.2.1=0
  rw[insertL_no hm]
end
end
section
structure BE where
 w0:World
 tb:Nat
 sb:Nat
 lb:Nat
 bb:Nat
 mb:Nat
 ex:Nat→Prop
 pg:List Value
 a:Option Addr
 ac:Nat
def OM (E:BE):Nat→Prop:=fun k=>Own E.w0 E.ex k∨k=E.bb∨k=E.mb
def buV (E:BE) (b:BuD):List Value :=
 .pointer (some ⟨E.tb,0,none⟩):: .pointer (some ⟨E.sb,0,none⟩):: .pointer (some ⟨E.lb,0,none⟩):: .int .i64 b.mode:: .int .i64 b.back:: .int .i64 b.head:: .string b.wait:: .bool b.skip:: .int .i64 b.raw:: .string b.name:: .int .i64 b.err::E.pg
def bmV (E:BE) (m:BMark):List Value:= [.int .i64 m.kind,.string m.name,.slice E.a m.attrs.length E.ac,.bool m.self,.string m.text]
structure BM (E:BE) (b:BuD) (w:World):Prop where
 li:LI E.w0 b.used E.tb E.sb E.lb E.ex b.S.T b.S.l b.S.ent b.on w
 row:Row w E.bb (buV E b)
 exb:E.ex E.bb
 b0:E.w0.heap.size≤E.bb
structure MO (E:BE) (m:BMark) (w:World):Prop where
 row:Row w E.mb (bmV E m)
 exm:E.ex E.mb
 m0:E.w0.heap.size≤E.mb
 ne:E.bb≠E.mb
 att:AtF (OM E) w E.a (pairsV m.attrs)
 nil:E.a=none→E.ac=0
 alen:m.attrs.length≤1048576
 ash: ∀p∈m.attrs,Shorts p
 tlen:m.text.size≤4611686018427387904
 nlen:m.name.size≤maxLen
structure SX (E:BE) (ws:World) (b:BuD) (m:BMark) (w:World):Prop where
 bm:BM E b w
 mo:MO E m w
 keep:Keeps (OM E) ws w
structure SM (E:BE) (ws:World) (c:Nat) (s:Int) (b:BuD) (m:BMark) (w:World):Prop where
 sx:SX E ws b m w
 ok:Ok c s b
section
variable {E:BE} {ws w w':World} {c:Nat} {s:Int} {b b':BuD} {m m':BMark}
theorem SX.call (h:SX E ws b m w) (hl:LI E.w0 b'.used E.tb E.sb E.lb E.ex b'.S.T b'.S.l b'.S.ent b'.on w') (hk:Keeps (Own E.w0 E.ex) w w') (hv:buV E b'=buV E b):SX E ws b' m w':=by
 obtain⟨⟨h1,h2,h3,h4⟩,⟨k1,k2,k3,k4,k5,k6,k7,k8,k9,kA⟩,h5⟩:=h
 have hb:w'.heap[E.bb]?=w.heap[E.bb]?:=hk.block _ h2.lt fun hx=>hx.2 h3
 have hm:w'.heap[E.mb]?=w.heap[E.mb]?:=hk.block _ k1.lt fun hx=>hx.2 k2
 have hko:Keeps (OM E) w w':=hk.mono fun _ _ hx=> .inl hx
 exact⟨⟨hl,hv▸h2.kept hb,h3,h4⟩,⟨k1.kept hm,k2,k3,k4,k5.kept hko,k6,k7,k8,k9,kA⟩,h5.trans hko⟩
theorem SX.world (h:SX E ws b m w) (hb:Below w.heap.size w w'):SX E ws b m w':=h.call (h.bm.li.world hb) (Keeps.ofBelow hb) rfl
theorem SX.alloc (h:SX E ws b m w) (o:Obj):SX E ws b m (w.alloc o):=h.world ((Below.refl _ w).alloc (Nat.le_refl _) _)
theorem SX.setb (h:SX E ws b m w) (j:Nat) (v:Value) (hv:(buV E b).set j v=buV E b') (hu:b'.used=b.used) (hS:b'.S=b.S) (ho:b'.on=b.on):SX E ws b' m (w.setCell ⟨E.bb,j,none⟩ v):=by
 obtain⟨⟨h1,h2,h3,h4⟩,⟨k1,k2,k3,k4,k5,k6,k7,k8,k9,kA⟩,h5⟩:=h
 have hk1:Keeps (fun k=>k=E.bb) w (w.setCell ⟨E.bb,j,none⟩ v):=Keeps.set (F:=fun k=>k=E.bb) (Keeps.refl _ w) (p:=⟨E.bb,j,none⟩) (.inl rfl) _
 have hko:Keeps (OM E) w (w.setCell ⟨E.bb,j,none⟩ v):=hk1.mono fun _ _ hx=> .inr (.inl hx)
 have hli:=h1.foreign (ex':=E.ex) hk1 (fun k hx=>by subst hx;exact⟨h3,h4⟩) fun k hx=>⟨.inl hx,Nat.lt_of_lt_of_le (h1.exlt k hx) hk1.size⟩
 refine⟨⟨?_,hv▸h2.set j v,h3,h4⟩,⟨k1.kept (heap_setCell_other _ _ _ _ fun e=>k4 e.symm),k2,k3,k4,k5.kept hko,k6,k7,k8,k9,kA⟩,h5.trans hko⟩
 rw[hu,hS,ho]
 exact hli
theorem SX.setm (h:SX E ws b m w) (j:Nat) (v:Value) (hv:(bmV E m).set j v=bmV E m') (ha:m'.attrs=m.attrs) (ht:m'.text.size≤m.text.size) (hn:m'.name.size≤maxLen):SX E ws b m' (w.setCell ⟨E.mb,j,none⟩ v):=by
 obtain⟨⟨h1,h2,h3,h4⟩,⟨k1,k2,k3,k4,k5,k6,k7,k8,k9,kA⟩,h5⟩:=h
 have hk1:Keeps (fun k=>k=E.mb) w (w.setCell ⟨E.mb,j,none⟩ v):=Keeps.set (F:=fun k=>k=E.mb) (Keeps.refl _ w) (p:=⟨E.mb,j,none⟩) (.inl rfl) _
 have hko:Keeps (OM E) w (w.setCell ⟨E.mb,j,none⟩ v):=hk1.mono fun _ _ hx=> .inr (.inr hx)
 have hli:=h1.foreign (ex':=E.ex) hk1 (fun k hx=>by subst hx;exact⟨k2,k3⟩) fun k hx=>⟨.inl hx,Nat.lt_of_lt_of_le (h1.exlt k hx) hk1.size⟩
 refine⟨⟨hli,h2.kept (heap_setCell_other _ _ _ _ fun e=>k4 e),h3,h4⟩,⟨hv▸k1.set j v,k2,k3,k4,?_,k6,?_,?_,Nat.le_trans ht k9,hn⟩,h5.trans hko⟩
 ·rw[ha];exact k5.kept hko
 ·rw[ha];exact k7
 ·rw[ha];exact k8
theorem SX.mode (h:SX E ws b m w) (v:Int):SX E ws (b.goto v) m (w.setCell ⟨E.bb,3,none⟩ (.int .i64 v)):=h.setb 3 _ rfl rfl rfl rfl
theorem SX.back (h:SX E ws b m w) (v:Int):SX E ws {b with back:=v} m (w.setCell ⟨E.bb,4,none⟩ (.int .i64 v)):=h.setb 4 _ rfl rfl rfl rfl
theorem SX.head (h:SX E ws b m w) (v:Int):SX E ws {b with head:=v} m (w.setCell ⟨E.bb,5,none⟩ (.int .i64 v)):=h.setb 5 _ rfl rfl rfl rfl
theorem SX.wait (h:SX E ws b m w) (v:ByteArray):SX E ws {b with wait:=v} m (w.setCell ⟨E.bb,6,none⟩ (.string v)):=h.setb 6 _ rfl rfl rfl rfl
theorem SX.skip (h:SX E ws b m w) (v:Bool):SX E ws {b with skip:=v} m (w.setCell ⟨E.bb,7,none⟩ (.bool v)):=h.setb 7 _ rfl rfl rfl rfl
theorem SX.raw (h:SX E ws b m w) (v:Int):SX E ws {b with raw:=v} m (w.setCell ⟨E.bb,8,none⟩ (.int .i64 v)):=h.setb 8 _ rfl rfl rfl rfl
theorem SX.name (h:SX E ws b m w) (v:ByteArray):SX E ws {b with name:=v} m (w.setCell ⟨E.bb,9,none⟩ (.string v)):=h.setb 9 _ rfl rfl rfl rfl
theorem SX.err (h:SX E ws b m w) (v:Int):SX E ws {b with err:=v} m (w.setCell ⟨E.bb,10,none⟩ (.int .i64 v)):=h.setb 10 _ rfl rfl rfl rfl
theorem SX.text (h:SX E ws b m w) (v:ByteArray) (hv:v.size≤m.text.size):SX E ws b {m with text:=v} (w.setCell ⟨E.mb,4,none⟩ (.string v)):=h.setm 4 _ rfl rfl hv h.mo.nlen
theorem SX.mname (h:SX E ws b m w) (v:ByteArray) (hv:v.size≤maxLen):SX E ws b {m with name:=v} (w.setCell ⟨E.mb,1,none⟩ (.string v)):=h.setm 1 _ rfl rfl (Nat.le_refl _) hv
theorem SX.bc (h:SX E ws b m w):w.cell? ⟨E.bb,0,none⟩=some (.pointer (some ⟨E.tb,0,none⟩))∧w.cell? ⟨E.bb,1,none⟩=some (.pointer (some ⟨E.sb,0,none⟩))∧w.cell? ⟨E.bb,2,none⟩=some (.pointer (some ⟨E.lb,0,none⟩))∧w.cell? ⟨E.bb,3,none⟩=some (.int .i64 b.mode) ∧
 w.cell? ⟨E.bb,4,none⟩=some (.int .i64 b.back)∧w.cell? ⟨E.bb,5,none⟩=some (.int .i64 b.head)∧w.cell? ⟨E.bb,6,none⟩=some (.string b.wait)∧w.cell? ⟨E.bb,7,none⟩=some (.bool b.skip)∧w.cell? ⟨E.bb,8,none⟩=some (.int .i64 b.raw)∧w.cell? ⟨E.bb,9,none⟩=some (.string b.name)∧w.cell? ⟨E.bb,10,none⟩=some (.int .i64 b.err):=by
 have hr:=h.bm.row
 exact⟨hr.cell (j:=0) rfl,hr.cell (j:=1) rfl,hr.cell (j:=2) rfl,hr.cell (j:=3) rfl,hr.cell (j:=4) rfl,hr.cell (j:=5) rfl,hr.cell (j:=6) rfl,hr.cell (j:=7) rfl,hr.cell (j:=8) rfl,hr.cell (j:=9) rfl,hr.cell (j:=10) rfl⟩
theorem SX.bf (h:SX E ws b m w): ∀j,j<11→w.frozen? ⟨E.bb,j,none⟩=false:=fun j hj=>h.bm.row.frozen (by simp[buV];omega)
theorem SX.mc (h:SX E ws b m w):w.cell? ⟨E.mb,0,none⟩=some (.int .i64 m.kind)∧w.cell? ⟨E.mb,1,none⟩=some (.string m.name)∧w.cell? ⟨E.mb,2,none⟩=some (.slice E.a m.attrs.length E.ac)∧w.cell? ⟨E.mb,3,none⟩=some (.bool m.self)∧w.cell? ⟨E.mb,4,none⟩=some (.string m.text):=by
 have hr:=h.mo.row
 exact⟨hr.cell (j:=0) rfl,hr.cell (j:=1) rfl,hr.cell (j:=2) rfl,hr.cell (j:=3) rfl,hr.cell (j:=4) rfl⟩
theorem SX.mf (h:SX E ws b m w):w.frozen? ⟨E.mb,1,none⟩=false∧w.frozen? ⟨E.mb,4,none⟩=false:=⟨h.mo.row.frozen (by simp[bmV]),h.mo.row.frozen (by simp[bmV])⟩
theorem MO.fits {E:BE} {m:BMark} {w:World} (h:MO E m w):Fits m.name m.attrs:=⟨h.nlen,h.ash⟩
theorem SX.at (h:SX E ws b m w):At w E.a (pairsV m.attrs):=h.mo.att.at
theorem SM.world (h:SM E ws c s b m w) (hb:Below w.heap.size w w'):SM E ws c s b m w':=⟨h.sx.world hb,h.ok⟩
theorem SM.alloc (h:SM E ws c s b m w) (o:Obj):SM E ws c s b m (w.alloc o):=⟨h.sx.alloc o,h.ok⟩
theorem SM.more {c':Nat} {s':Int} (h:SM E ws c s b m w) (hc:c≤c') (hs:s≤s'):SM E ws c' s' b m w:=⟨h.sx,h.ok.more hc hs⟩
theorem SM.mode (h:SM E ws c s b m w) (v:Int):SM E ws c s (b.goto v) m (w.setCell ⟨E.bb,3,none⟩ (.int .i64 v)):=⟨h.sx.mode v,h.ok.of rfl id⟩
theorem SM.head (h:SM E ws c s b m w) (v:Int):SM E ws c s {b with head:=v} m (w.setCell ⟨E.bb,5,none⟩ (.int .i64 v)):=⟨h.sx.head v,h.ok.of rfl id⟩
theorem SM.wait (h:SM E ws c s b m w) (v:ByteArray):SM E ws c s {b with wait:=v} m (w.setCell ⟨E.bb,6,none⟩ (.string v)):=⟨h.sx.wait v,h.ok.of rfl id⟩
theorem SM.skip (h:SM E ws c s b m w) (v:Bool):SM E ws c s {b with skip:=v} m (w.setCell ⟨E.bb,7,none⟩ (.bool v)):=⟨h.sx.skip v,h.ok.of rfl id⟩
theorem SM.raw (h:SM E ws c s b m w) (v:Int):SM E ws c s {b with raw:=v} m (w.setCell ⟨E.bb,8,none⟩ (.int .i64 v)):=⟨h.sx.raw v,h.ok.of rfl id⟩
theorem SM.name (h:SM E ws c s b m w) (v:ByteArray):SM E ws c s {b with name:=v} m (w.setCell ⟨E.bb,9,none⟩ (.string v)):=⟨h.sx.name v,h.ok.of rfl id⟩
theorem SM.text (h:SM E ws c s b m w) (v:ByteArray) (hv:v.size≤m.text.size):SM E ws c s b {m with text:=v} (w.setCell ⟨E.mb,4,none⟩ (.string v)):=⟨h.sx.text v hv,h.ok⟩
theorem SM.mname (h:SM E ws c s b m w) (v:ByteArray) (hv:v.size≤maxLen):SM E ws c s b {m with name:=v} (w.setCell ⟨E.mb,1,none⟩ (.string v)):=⟨h.sx.mname v hv,h.ok⟩
theorem LI.lay {w0:World} {B tb sb lb:Nat} {ex:Nat→Prop} {T:TreeD} {l ent:List Int} {on:Bool} (h:LI w0 B tb sb lb ex T l ent on w) (o:Obj):LI w0 B tb sb lb (fun k=>ex k∨k=w.heap.size) T l ent on (w.alloc o):=by
 have hk:Keeps (fun _=>False) w (w.alloc o):=(Keeps.refl _ _).alloc o
 refine h.foreign hk (fun _ hx=>hx.elim) fun k hx=> ?_
 have hs:=World.size_alloc w o
 rcases hx with hx|hx
 ·exact⟨.inl hx,by have:=h.exlt k hx;omega⟩
 ·exact⟨.inr (by omega),by omega⟩
end
def strOf:Value→ByteArray
 | .string s=>s
 |_=>⟨#[]⟩
def namesOf (cur:Array Value):List ByteArray:=cur.toList.map strOf
theorem names_at {w:World} {cur:Array Value} {e:TypeId} (hc:strsV (namesOf cur)=cur.toList):At (w.alloc (.cells cur e)) (some ⟨w.heap.size,0,none⟩) (strsV (namesOf cur)):=at_alloc rfl hc.symm
theorem own_less {w:World} {base base':Nat} {t:TypeId} {size:Nat} {v:Value} {n:Nat} {xs:List Value} (h:w.ownsRow base t size v n xs) (hb:base'≤base):w.ownsRow base' t size v n xs :=
 ⟨h.1,h.2.imp id fun⟨g,cap,cur,h1,h2,r⟩=>⟨g,cap,cur,h1,Nat.le_trans hb h2,r⟩⟩
end
section
section
variable {E:BE} {ws w w':World} {c:Nat} {s:Int} {b b':BuD} {m m':BMark}
theorem fail_sx (h:SX E ws b m w) (e:Int):Calls Tryz.prog 34 #[.pointer (some ⟨E.bb,0,none⟩),.int .i64 e] w fun r w'=>r= .returned (.tuple #[])∧SX E ws (b.fail e) m w':=by
 have HS:=Lib.hid h
 obtain⟨-, -, -, -, -, -, -, -, -, -,d10⟩:=h.bc
 have f10:=h.bf 10 (by omega)
 have HF:Hid (b.fail e=if b.err=0 then {b with err:=e}else b):=Lib.hid rfl
 clear h
 obtain⟨er,her⟩: ∃er,er=b.err:=⟨_,rfl⟩
 rw[←her]at d10 HF
 clear her
 by_cases he:er=0
 ·rw[if_pos he]at HF
  subst he
  go_enter Tryz.func34,Tryz.ntmps34
  go_wp2_with fail
  go_end0
  rw[HF.out]
  exact⟨rfl,HS.out.err e⟩
 ·rw[if_neg he]at HF
  have he':(er==0)=false:=by simpa using he
  clear he
  go_enter Tryz.func34,Tryz.ntmps34
  go_wp2_with fail
  go_end0
  rw[HF.out]
  exact⟨rfl,HS.out⟩
theorem oneF_drop (l:List ByteArray) (x:ByteArray) (k:Nat) (h:k<l.length):oneF (l.drop k) x=(((x.toList==l[k].toList)&& !x.toList.isEmpty)||oneF (l.drop (k+1)) x):=by
 unfold oneF
 rw[isW_drop l x k h]
 cases (x.toList==l[k].toList) <;>cases x.toList.isEmpty <;>simp
theorem one_any (x:ByteArray) (l:List ByteArray) (a:Option Addr) (c:Nat) (w:World) (hl:l.length≤maxLen) (ha:At w a (strsV l)) :
 Calls Tryz.prog 158 #[.string x,.slice a l.length c] w fun e w'=>e= .returned (.bool (oneF l x))∧w=w':=by
 unfold maxLen at hl
 have HA:=Lib.hid ha
 clear ha
 go_enter Tryz.func158,Tryz.ntmps158
 go_wp2
 go_loop [9] (fun i=> ∃k:Nat,k≤l.length∧i= .int .i64 k∧Hid (oneF l x=oneF (l.drop k) x)) (fun i=>l.length-(intOf i).toNat)
 case atStart=>exact⟨0,Nat.zero_le _,rfl,Lib.hid rfl⟩
 case round =>
  obtain⟨k,hk,rfl,HV⟩:=hrel
  by_cases hlt:k<l.length
  ·obtain⟨b,o,rfl,hlb,h1⟩:=str_cell HA.out hlt
   have HD:=Lib.hid (oneF_drop l x k hlt)
   go_wp2
   ·go_ret
    refine⟨ret_bool ?_,rfl⟩
    rw[HV.out,HD.out]
    simp[*]
   ·go_round
    case rel=>exact⟨k+1,by omega,by go_num,Lib.hid (by rw[HV.out,HD.out];simp[*])⟩
    case measure=>simp[intOf];omega
   ·go_round
    case rel=>exact⟨k+1,by omega,by go_num,Lib.hid (by
     have hne: ¬x.toList=l[k].toList:=fun e=>(by assumption: ¬l[k].toList=x.toList) e.symm
     rw[HV.out,HD.out];simp[hne])⟩
    case measure=>simp[intOf];omega
  ·go_wp2
   go_ret
   refine⟨ret_bool ?_,rfl⟩
   rw[HV.out,List.drop_of_length_le (by omega)]
   rfl
end
end
section
structure Lay (g:Nat) (w:World) (cur:Array Value) (n:Nat):Prop where
 hg:g=w.heap.size
 hc:strsV (namesOf cur)=cur.toList
 hn:n=(namesOf cur).length
 hl:(namesOf cur).length≤1048576
def BE.lay (E:BE) (g:Nat):BE:= {E with ex:=fun k=>E.ex k∨k=g}
section
variable {E:BE} {ws w w':World} {c:Nat} {s:Int} {b b':BuD} {m m':BMark}
theorem OM.lay {g:Nat}: ∀k,OM (E.lay g) k→OM E k:=fun _ hx=>hx.imp (fun h=>⟨h.1,fun he=>h.2 (.inl he)⟩) id
theorem SX.lay (h:SX E ws b m w) (o:Obj):SX (E.lay w.heap.size) (w.alloc o) b m (w.alloc o):=by
 have h':=h.alloc o
 obtain⟨⟨h1,h2,h3,h4⟩,⟨k1,k2,k3,k4,k5,k6,k7,k8,k9,kA⟩,h5⟩:=h'
 exact⟨⟨h.bm.li.lay o,h2,.inl h3,h4⟩,⟨k1,.inl k2,k3,k4,k5.other fun k _ hx=>OM.lay k hx,k6,k7,k8,k9,kA⟩,Keeps.refl _ _⟩
theorem SX.less (h0:SX E ws b' m' w) {o:Obj} (h:SX (E.lay w.heap.size) (w.alloc o) b m w') (hm:m.attrs=m'.attrs):SX E ws b m w':=by
 obtain⟨⟨h1,h2,h3,h4⟩,⟨k1,k2,k3,k4,k5,k6,k7,k8,k9,kA⟩,h5⟩:=h
 have hk:Keeps (OM E) w w':=((Keeps.refl _ w).alloc o).trans (h5.mono fun k _ hx=>OM.lay k hx)
 refine⟨⟨h1.less fun k hx=> .inl hx,h2,h0.bm.exb,h4⟩,⟨k1,h0.mo.exm,k3,k4,?_,k6,k7,k8,k9,kA⟩,h0.keep.trans hk⟩
 rw[hm]
 exact h0.mo.att.kept hk
theorem SM.lay (h:SM E ws c s b m w) (o:Obj):SM (E.lay w.heap.size) (w.alloc o) c s b m (w.alloc o):=⟨h.sx.lay o,h.ok⟩
theorem SM.less {c':Nat} {s':Int} (h0:SM E ws c s b' m' w) {o:Obj} (h:SM (E.lay w.heap.size) (w.alloc o) c' s' b m w') (hm:m.attrs=m'.attrs):SM E ws c' s' b m w':=⟨h0.sx.less h.sx hm,h.ok⟩
theorem names_atf {cur:Array Value} {e:TypeId} (hc:strsV (namesOf cur)=cur.toList):AtF (Own E.w0 (E.lay w.heap.size).ex) (w.alloc (.cells cur e)) (some ⟨w.heap.size,0,none⟩) (strsV (namesOf cur)) :=
 AtF.of_new (names_at hc) fun b' o' s' e' hx=>hx.2 (.inr (by cases e';rfl))
theorem pop_sx (h:SX E ws b m w):Calls Tryz.prog 64 #[.pointer (some ⟨E.sb,0,none⟩)] w fun r w'=>r= .returned (.int .i64 b.top)∧SX E ws b.pop m w' :=
 (SPop_li h.bm.li).mono fun _ _ ⟨hr,hl,hk⟩=>⟨hr,h.call (b':=b.pop) hl hk rfl⟩
theorem pop_sm (h:SM E ws c s b m w):Calls Tryz.prog 64 #[.pointer (some ⟨E.sb,0,none⟩)] w fun r w'=>r= .returned (.int .i64 b.top)∧SM E ws c s b.pop m w' :=
 (pop_sx h.sx).mono fun _ _ ⟨hr,hs⟩=>⟨hr,hs,h.ok.pop⟩
theorem push_sx (h:SX E ws b m w) (hl:b.S.l.length<1000000) (n:Int):Calls Tryz.prog 113 #[.pointer (some ⟨E.sb,0,none⟩),.int .i64 n] w fun r w'=>r= .returned (.tuple #[])∧SX E ws (b.push n) m w' :=
 (SPush_li h.bm.li n hl).mono fun _ _ ⟨hr,hl,hk⟩=>⟨hr,h.call (b':=b.push n) hl hk rfl⟩
theorem sremove_sx (h:SX E ws b m w) (n:Int):Calls Tryz.prog 114 #[.pointer (some ⟨E.sb,0,none⟩),.int .i64 n] w fun r w'=>r= .returned (.tuple #[])∧SX E ws (b.sremove n) m w' :=
 (SRemove_li h.bm.li n).mono fun _ _ ⟨hr,hl,hk⟩=>⟨hr,h.call (b':=b.sremove n) hl hk rfl⟩
theorem sremove_sm (h:SM E ws c s b m w) (n:Int):Calls Tryz.prog 114 #[.pointer (some ⟨E.sb,0,none⟩),.int .i64 n] w fun r w'=>r= .returned (.tuple #[])∧SM E ws c s (b.sremove n) m w' :=
 (sremove_sx h.sx n).mono fun _ _ ⟨hr,hs⟩=>⟨hr,hs,h.ok.sremove n⟩
theorem imply_sm (h:SM E ws c s b m w) (but:ByteArray):Calls Tryz.prog 125 #[.pointer (some ⟨E.sb,0,none⟩),.string but] w fun r w'=>r= .returned (.tuple #[])∧SM E ws c s (b.imply but) m w':=by
 obtain⟨ge,h1,h2,h3,h4⟩:=h.sx.bm.li
 exact(Imply_si h2 but).mono fun _ _ ⟨hr,hs,hk⟩=>by
  obtain⟨hl,hk'⟩:=LI.si_step h1 h3 h4 hs hk
  exact⟨hr,h.sx.call (b':=b.imply but) hl hk' rfl,h.ok.imply but⟩
theorem until_at (h:SM E ws c s b m w) (names:List ByteArray) (a:Option Addr) (n ca:Nat) (hn:n=names.length) (ha:AtF (Own E.w0 E.ex) w a (strsV names)) (hl:names.length≤1048576) :
 Calls Tryz.prog 122 #[.pointer (some ⟨E.sb,0,none⟩),.slice a n ca] w fun r w'=>r= .returned (.tuple #[])∧SM E ws c s (b.until' names) m w':=by
 subst hn
 obtain⟨ge,h1,h2,h3,h4⟩:=h.sx.bm.li
 exact(Until_si h2 names a ca (AtF.other ha fun b _ hx=>⟨hx.1,fun hy=>hx.2 (.inl hy)⟩) hl).mono fun _ _ ⟨hr,hs,hk⟩=>by
  obtain⟨hl,hk'⟩:=LI.si_step h1 h3 h4 hs hk
  exact⟨hr,h.sx.call (b':=b.until' names) hl hk' rfl,h.ok.until' names⟩
theorem clear_at (h:SM E ws c s b m w) (names:List ByteArray) (a:Option Addr) (n ca:Nat) (hn:n=names.length) (ha:AtF (Own E.w0 E.ex) w a (strsV names)) (hl:names.length≤1048576) :
 Calls Tryz.prog 119 #[.pointer (some ⟨E.sb,0,none⟩),.slice a n ca] w fun r w'=>r= .returned (.tuple #[])∧SM E ws c s (b.clear' names) m w':=by
 subst hn
 obtain⟨ge,h1,h2,h3,h4⟩:=h.sx.bm.li
 exact(Clear_si h2 names a ca (AtF.other ha fun b _ hx=>⟨hx.1,fun hy=>hx.2 (.inl hy)⟩) hl).mono fun _ _ ⟨hr,hs,hk⟩=>by
  obtain⟨hl,hk'⟩:=LI.si_step h1 h3 h4 hs hk
  exact⟨hr,h.sx.call (b':=b.clear' names) hl hk' rfl,h.ok.clear' names⟩
theorem has_at (h:SX E ws b m w) (scope:Int) (names:List ByteArray) (a:Option Addr) (n ca:Nat) (hn:n=names.length) (ha:At w a (strsV names)) (hl:names.length≤1048576) :
 Calls Tryz.prog 121 #[.pointer (some ⟨E.sb,0,none⟩),.int .i64 scope,.slice a n ca] w fun r w'=>r= .returned (.bool (b.has scope names))∧Below w.heap.size w w':=by
 subst hn
 obtain⟨ge,h1,h2,h3,h4⟩:=h.bm.li
 exact Has_si h2 scope names a ca ha hl
theorem until_sm (h:SM E ws c s b m w) {g:Nat} {cur:Array Value} {e:TypeId} {n ca:Nat} (L:Lay g w cur n) :
 Calls Tryz.prog 122 #[.pointer (some ⟨E.sb,0,none⟩),.slice (some ⟨g,0,none⟩) n ca] (w.alloc (.cells cur e)) fun r w'=>r= .returned (.tuple #[])∧SM E ws c s (b.until' (namesOf cur)) m w':=by
 obtain⟨hg,hc,hn,hl⟩:=L
 subst hg
 exact(until_at (h.lay (.cells cur e)) (namesOf cur) _ n ca hn (names_atf (E:=E) (w:=w) hc) hl).mono fun _ _ ⟨hr,hs⟩=>⟨hr,h.less hs rfl⟩
theorem clear_sm (h:SM E ws c s b m w) {g:Nat} {cur:Array Value} {e:TypeId} {n ca:Nat} (L:Lay g w cur n) :
 Calls Tryz.prog 119 #[.pointer (some ⟨E.sb,0,none⟩),.slice (some ⟨g,0,none⟩) n ca] (w.alloc (.cells cur e)) fun r w'=>r= .returned (.tuple #[])∧SM E ws c s (b.clear' (namesOf cur)) m w':=by
 obtain⟨hg,hc,hn,hl⟩:=L
 subst hg
 exact(clear_at (h.lay (.cells cur e)) (namesOf cur) _ n ca hn (names_atf (E:=E) (w:=w) hc) hl).mono fun _ _ ⟨hr,hs⟩=>⟨hr,h.less hs rfl⟩
theorem has_sm (h:SM E ws c s b m w) {g:Nat} {scope:Int} {cur:Array Value} {e:TypeId} {n ca:Nat} (L:Lay g w cur n) :
 Calls Tryz.prog 121 #[.pointer (some ⟨E.sb,0,none⟩),.int .i64 scope,.slice (some ⟨g,0,none⟩) n ca] (w.alloc (.cells cur e)) fun r w'=>r= .returned (.bool (b.has scope (namesOf cur)))∧SM E ws c s b m w':=by
 obtain⟨hg,hc,hn,hl⟩:=L
 subst hg
 exact(has_at (h.sx.alloc (.cells cur e)) scope (namesOf cur) _ n ca hn (names_at hc) hl).mono fun _ _ ⟨hr,hb⟩=>⟨hr,(h.alloc _).world hb⟩
theorem all_sm (h:SM E ws c s b m w):Calls Tryz.prog 105 #[.pointer (some ⟨E.sb,0,none⟩)] w fun r w'=> ∃v,r= .returned v∧w'.ownsRow w.heap.size 3 1 v b.S.l.length (intsV b.S.l)∧Below w.heap.size w w'∧SM E ws c s b m w' :=
 (SAll_li h.sx.bm.li).mono fun _ _ ⟨v,hr,ho,hb⟩=>⟨v,hr,ho,hb,h.world hb⟩
theorem what_sm (h:SM E ws c s b m w) (n:Int):Calls Tryz.prog 49 #[.pointer (some ⟨E.tb,0,none⟩),.int .i64 n] w fun r w'=> ∃v,r= .returned (.tuple #[.int .i64 (spaceQ b.S.T n),.string (nameQ b.S.T n),v]) ∧
 w'.ownsRow w.heap.size 57 2 v (attrsQ b.S.T n).length (pairsV (attrsQ b.S.T n))∧Below w.heap.size w w'∧SM E ws c s b m w' :=
 (What_li h.sx.bm.li n).mono fun _ _ ⟨v,hr,ho,hb⟩=>⟨v,hr,ho,hb,h.world hb⟩
theorem lmark_sm (h:SM E ws c s b m w) (hc:c≤100000):Calls Tryz.prog 120 #[.pointer (some ⟨E.lb,0,none⟩)] w fun r w'=>r= .returned (.tuple #[])∧SM E ws (c+1) (s+1) b.lmark m w' :=
 (Mark_li h.sx.bm.li (by have:=h.ok.len;omega)).mono fun _ _ ⟨hr,hl,hk⟩=>⟨hr,h.sx.call (b':=b.lmark) hl hk rfl,h.ok.lmark⟩
theorem lclear_sm (h:SM E ws c s b m w):Calls Tryz.prog 126 #[.pointer (some ⟨E.lb,0,none⟩)] w fun r w'=>r= .returned (.tuple #[])∧SM E ws c s b.lclear m w' :=
 (Clear_li h.sx.bm.li).mono fun _ _ ⟨hr,hl,hk⟩=>⟨hr,h.sx.call (b':=b.lclear) hl hk rfl,h.ok.lclear⟩
theorem lpush_sm (h:SM E ws c s b m w) (hc:c≤100000) {n:Int} (hel:elemF b.S.T n=true) (hn: ¬n∈b.S.ent):Calls Tryz.prog 210 #[.pointer (some ⟨E.lb,0,none⟩),.int .i64 n] w fun r w'=>r= .returned (.tuple #[])∧SM E ws c s (b.lpush n) m w' :=
 (Push_li h.sx.bm.li (by have:=h.ok.len;omega) n).mono fun _ _ ⟨hr,hl,hk⟩=>⟨hr,h.sx.call (b':=b.lpush n) hl hk rfl,h.ok.lpush hel hn⟩
theorem lremove_sm (h:SM E ws c s b m w) (n:Int):Calls Tryz.prog 168 #[.pointer (some ⟨E.lb,0,none⟩),.int .i64 n] w fun r w'=>r= .returned (.tuple #[])∧SM E ws c s (b.lremove n) m w' :=
 (Remove_li h.sx.bm.li n).mono fun _ _ ⟨hr,hl,hk⟩=>⟨hr,h.sx.call (b':=b.lremove n) hl hk rfl,h.ok.lremove n⟩
theorem find_sm (h:SM E ws c s b m w) (name:ByteArray):Calls Tryz.prog 166 #[.pointer (some ⟨E.lb,0,none⟩),.string name] w fun r w'=>r= .returned (.int .i64 (b.find name))∧SM E ws c s b m w' :=
 (Find_li h.sx.bm.li name).mono fun _ _ ⟨hr,hb⟩=>⟨hr,h.world hb⟩
theorem foster_sm (h:SM E ws c s b m w) (v:Bool):Calls Tryz.prog 99 #[.pointer (some ⟨E.lb,0,none⟩),.bool v] w fun r w'=>r= .returned (.tuple #[])∧SM E ws c s {b with on:=v} m w' :=
 (Foster_li h.sx.bm.li v).mono fun _ _ ⟨hr,hl,hk⟩=>⟨hr,h.sx.call (b':= {b with on:=v}) hl hk rfl,h.ok.of rfl id⟩
end
end
section
section
variable {E:BE} {ws w w':World} {c:Nat} {s:Int} {b b':BuD} {m m':BMark}
theorem start_any (kind:Int) (name:ByteArray) (mb:Nat) (names:List ByteArray) (a:Option Addr) (ca:Nat) (w:World) (hl:names.length≤1048576) (c0:w.cell? ⟨mb,0,none⟩=some (.int .i64 kind)) (c1:w.cell? ⟨mb,1,none⟩=some (.string name)) (ha:At w a (strsV names)) :
 Calls Tryz.prog 109 #[.pointer (some ⟨mb,0,none⟩),.slice a names.length ca] w fun r w'=>r= .returned (.bool ((kind==2)&&oneF names name))∧w=w':=by
 have HO:=Lib.hid (one_any name names a ca w (by unfold maxLen;omega) ha)
 clear ha
 by_cases hk:kind=2
 ·subst hk
  go_enter Tryz.func109,Tryz.ntmps109
  go_wp2_with (go_at_call 158;go_must (refine HO.out.mono ?_;rintro e w1 ⟨rfl,rfl⟩))
  go_ret
  exact⟨rfl,rfl⟩
 ·have hk':(kind==2)=false:=by simpa using hk
  clear hk
  go_enter Tryz.func109,Tryz.ntmps109
  go_wp2_with fail
  go_ret
  rw[hk']
  exact⟨rfl,rfl⟩
theorem end_any (kind:Int) (name:ByteArray) (mb:Nat) (names:List ByteArray) (a:Option Addr) (ca:Nat) (w:World) (hl:names.length≤1048576) (c0:w.cell? ⟨mb,0,none⟩=some (.int .i64 kind)) (c1:w.cell? ⟨mb,1,none⟩=some (.string name)) (ha:At w a (strsV names)) :
 Calls Tryz.prog 108 #[.pointer (some ⟨mb,0,none⟩),.slice a names.length ca] w fun r w'=>r= .returned (.bool ((kind==3)&&oneF names name))∧w=w':=by
 have HO:=Lib.hid (one_any name names a ca w (by unfold maxLen;omega) ha)
 clear ha
 by_cases hk:kind=3
 ·subst hk
  go_enter Tryz.func108,Tryz.ntmps108
  go_wp2_with (go_at_call 158;go_must (refine HO.out.mono ?_;rintro e w1 ⟨rfl,rfl⟩))
  go_ret
  exact⟨rfl,rfl⟩
 ·have hk':(kind==3)=false:=by simpa using hk
  clear hk
  go_enter Tryz.func108,Tryz.ntmps108
  go_wp2_with fail
  go_ret
  rw[hk']
  exact⟨rfl,rfl⟩
theorem start_sx (h:SX E ws b m w) {g:Nat} {cur:Array Value} {e:TypeId} {n ca:Nat} (L:Lay g w cur n) :
 Calls Tryz.prog 109 #[.pointer (some ⟨E.mb,0,none⟩),.slice (some ⟨g,0,none⟩) n ca] (w.alloc (.cells cur e)) fun r w'=>r= .returned (.bool (startF m (namesOf cur)))∧SX E ws b m w':=by
 obtain⟨hg,hc,hn,hl⟩:=L
 subst hg
 subst hn
 have h':=h.alloc (.cells cur e)
 obtain⟨c0,c1, -⟩:=h'.mc
 exact(start_any m.kind m.name E.mb (namesOf cur) _ ca _ hl c0 c1 (names_at hc)).mono fun _ _ ⟨hr,hw⟩=>⟨hr,hw▸h'⟩
theorem start_sm (h:SM E ws c s b m w) {g:Nat} {cur:Array Value} {e:TypeId} {n ca:Nat} (L:Lay g w cur n) :
 Calls Tryz.prog 109 #[.pointer (some ⟨E.mb,0,none⟩),.slice (some ⟨g,0,none⟩) n ca] (w.alloc (.cells cur e)) fun r w'=>r= .returned (.bool (startF m (namesOf cur)))∧SM E ws c s b m w':=by
 obtain⟨hg,hc,hn,hl⟩:=L
 subst hg
 subst hn
 have h':=h.alloc (.cells cur e)
 obtain⟨c0,c1, -⟩:=h'.sx.mc
 exact(start_any m.kind m.name E.mb (namesOf cur) _ ca _ hl c0 c1 (names_at hc)).mono fun _ _ ⟨hr,hw⟩=>⟨hr,hw▸h'⟩
theorem end_sm (h:SM E ws c s b m w) {g:Nat} {cur:Array Value} {e:TypeId} {n ca:Nat} (L:Lay g w cur n) :
 Calls Tryz.prog 108 #[.pointer (some ⟨E.mb,0,none⟩),.slice (some ⟨g,0,none⟩) n ca] (w.alloc (.cells cur e)) fun r w'=>r= .returned (.bool (endF m (namesOf cur)))∧SM E ws c s b m w':=by
 obtain⟨hg,hc,hn,hl⟩:=L
 subst hg
 subst hn
 have h':=h.alloc (.cells cur e)
 obtain⟨c0,c1, -⟩:=h'.sx.mc
 exact(end_any m.kind m.name E.mb (namesOf cur) _ ca _ hl c0 c1 (names_at hc)).mono fun _ _ ⟨hr,hw⟩=>⟨hr,hw▸h'⟩
theorem one_sm (h:SM E ws c s b m w) {g:Nat} {x:ByteArray} {cur:Array Value} {e:TypeId} {n ca:Nat} (L:Lay g w cur n) :
 Calls Tryz.prog 158 #[.string x,.slice (some ⟨g,0,none⟩) n ca] (w.alloc (.cells cur e)) fun r w'=>r= .returned (.bool (oneF (namesOf cur) x))∧SM E ws c s b m w':=by
 obtain⟨hg,hc,hn,hl⟩:=L
 subst hg
 subst hn
 exact(one_any x (namesOf cur) _ ca _ (by unfold maxLen;omega) (names_at hc)).mono fun _ _ ⟨hr,hw⟩=>⟨hr,hw▸h.alloc _⟩
theorem rowed_sm (h:SM E ws c s b m w):Calls Tryz.prog 124 #[.pointer (some ⟨E.mb,0,none⟩)] w fun r w'=>r= .returned (.bool (rowedF m))∧SM E ws c s b m w':=by
 have H:=Lib.hid h
 clear h
 go_enter Tryz.func124,Tryz.ntmps124
 go_wp2_with (go_at_call 109;go_must (refine(start_sm H.out ⟨rfl,by rfl,by rfl,by decide⟩).mono ?_;rintro e w1 ⟨rfl,h1⟩;have H1:=Lib.hid h1;clear h1))
 go_ret
 exact⟨rfl,H1.out⟩
theorem block_any (x:ByteArray) (w:World):Calls Tryz.prog 163 #[.string x] w fun r w'=>r= .returned (.bool (blockB x))∧Below w.heap.size w w':=by
 go_enter Tryz.func163,Tryz.ntmps163
 go_wp2_with (go_at_call 158;go_must (refine(one_any x blockN _ _ _ (by decide) (at_alloc rfl rfl)).mono ?_;rintro e w1 ⟨rfl,rfl⟩))
 go_ret
 exact⟨rfl,(Below.refl _ _).alloc (Nat.le_refl _) _⟩
theorem heading_any (x:ByteArray) (w:World):Calls Tryz.prog 164 #[.string x] w fun r w'=>r= .returned (.bool (headingB x))∧Below w.heap.size w w':=by
 go_enter Tryz.func164,Tryz.ntmps164
 go_wp2_with (go_at_call 158;go_must (refine(one_any x headN _ _ _ (by decide) (at_alloc rfl rfl)).mono ?_;rintro e w1 ⟨rfl,rfl⟩))
 go_ret
 exact⟨rfl,(Below.refl _ _).alloc (Nat.le_refl _) _⟩
theorem formed_any (x:ByteArray) (w:World):Calls Tryz.prog 170 #[.string x] w fun r w'=>r= .returned (.bool (formedB x))∧Below w.heap.size w w':=by
 go_enter Tryz.func170,Tryz.ntmps170
 go_wp2_with (go_at_call 158;go_must (refine(one_any x formN _ _ _ (by decide) (at_alloc rfl rfl)).mono ?_;rintro e w1 ⟨rfl,rfl⟩))
 go_ret
 exact⟨rfl,(Below.refl _ _).alloc (Nat.le_refl _) _⟩
theorem top_sx (h:SX E ws b m w):Calls Tryz.prog 36 #[.pointer (some ⟨E.bb,0,none⟩)] w fun r w'=> ∃v,r= .returned (.tuple #[.int .i64 b.tops,.string b.topn,v]) ∧
 w'.ownsRow w.heap.size 57 2 v (attrsQ b.S.T b.top).length (pairsV (attrsQ b.S.T b.top))∧Below w.heap.size w w'∧SX E ws b m w':=by
 have HS:=Lib.hid h
 have HSd:=Lib.hid (h.world (Below.refl w.heap.size w).drew)
 have HT:=Lib.hid (STop_li HSd.out.bm.li)
 obtain⟨d0,d1, -⟩:=h.bc
 clear h
 have HX:Hid (b.S.l.getLast?.getD 0=b.top):=Lib.hid rfl
 rw[HX.out]at HT
 obtain⟨x,hx⟩: ∃x,x=b.top:=⟨_,rfl⟩
 have HW:=Lib.hid fun u (hu:Below w.heap.size w u)=>What_li (HS.out.bm.li.world hu) x
 have HTS:Hid (b.tops=spaceQ b.S.T x∧b.topn=nameQ b.S.T x):=Lib.hid (by rw[hx];exact⟨rfl,rfl⟩)
 rw[HTS.out.1,HTS.out.2,←hx]
 rw[←hx]at HT
 clear hx HX HTS
 go_enter Tryz.func36,Tryz.ntmps36
 go_wp2_with fail
 go_region_law (first
  |(go_simp;go_at_call 50;refine HT.out.mono ?_
    rintro e w2 ⟨rfl,q,rfl⟩
    have HB2:=Lib.hid (stk_drewN w (1+q)))
  |(go_simp;go_at_call 49;refine(HW.out _ HB2.out).mono ?_
    rintro e w3 ⟨v,rfl,ho,hb⟩
    have HO:=Lib.hid ho
    have HB3:=Lib.hid (belowCall HB2.out hb)
    clear ho hb))
 all_goals
  simp only[Act.put,List.getElem_toArray,List.getElem_cons_succ,List.getElem_cons_zero,List.setIfInBounds_toArray,List.set_cons_zero,List.set_cons_succ]
  go_wp2_with fail
  go_ret3
  exact⟨_,rfl,own_less HO.out HB2.out.size,HB3.out,HS.out.world HB3.out⟩
end
end
end Go.Proofs.YtgepobccoffnaaaGreatDoor
