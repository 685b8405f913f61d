/- Texts joined for a claim: CuB, CuC, CuD, CuE: plain laws and contracts. No conditions beyond those that each lemma types. -/
import Derived.Test.YtpnagbgpbajfeaaGreatDoorQ22
import Derived.Shelf.Strings.SlTrimAscii
import Derived.Shelf.Strings.Prefix
import Derived.Laws.RangeAny
set_option linter.unusedVariables false
set_option linter.unusedSimpArgs false
set_option maxRecDepth 100000
set_option maxHeartbeats 8000000
namespace Go.Proofs.YtpnagbgpbajfeaaGreatDoor
section
open Go.RowKit Mem
structure Lay (g:Nat) (w:World) (cur:Array Value) (n:Nat):Prop where
 hg:g=w.heap.size
 hc:strsV (namesOf cur)=cur.toList
 hn:n=(namesOf cur).length
 hl:(namesOf cur).length≤1048576
def BE.lay (E:BE) (g:Nat):BE:= {E with ex:=fun k=>E.ex k∨k=g}
section
variable {E:BE} {ws w w':World} {c:Nat} {s:Int} {b b':BuD} {m m':BMark}
theorem OM.lay {g:Nat}: ∀k,OM (E.lay g) k→OM E k:=fun _ hx=>hx.imp (fun h=>⟨h.1,fun he=>h.2 (.inl he)⟩) id
theorem SX.lay (h:SX E ws b m w) (o:Obj):SX (E.lay w.heap.size) (w.alloc o) b m (w.alloc o):=by
 have h':=h.alloc o
 obtain⟨⟨h1,h2,h3,h4⟩,⟨k1,k2,k3,k4,k5,k6,k7,k8,k9,kA⟩,h5⟩:=h'
 exact⟨⟨h.bm.li.lay o,h2,.inl h3,h4⟩,⟨k1,.inl k2,k3,k4,k5.other fun k _ hx=>OM.lay k hx,k6,k7,k8,k9,kA⟩,Keeps.refl _ _⟩
theorem SX.less (h0:SX E ws b' m' w) {o:Obj} (h:SX (E.lay w.heap.size) (w.alloc o) b m w') (hm:m.attrs=m'.attrs):SX E ws b m w':=by
 obtain⟨⟨h1,h2,h3,h4⟩,⟨k1,k2,k3,k4,k5,k6,k7,k8,k9,kA⟩,h5⟩:=h
 have hk:Keeps (OM E) w w':=((Keeps.refl _ w).alloc o).trans (h5.mono fun k _ hx=>OM.lay k hx)
 refine⟨⟨h1.less fun k hx=> .inl hx,h2,h0.bm.exb,h4⟩,⟨k1,h0.mo.exm,k3,k4,?_,k6,k7,k8,k9,kA⟩,h0.keep.trans hk⟩
 rw[hm]
 exact h0.mo.att.kept hk
theorem SM.lay (h:SM E ws c s b m w) (o:Obj):SM (E.lay w.heap.size) (w.alloc o) c s b m (w.alloc o):=⟨h.sx.lay o,h.ok⟩
theorem SM.less {c':Nat} {s':Int} (h0:SM E ws c s b' m' w) {o:Obj} (h:SM (E.lay w.heap.size) (w.alloc o) c' s' b m w') (hm:m.attrs=m'.attrs):SM E ws c' s' b m w':=⟨h0.sx.less h.sx hm,h.ok⟩
theorem names_atf {cur:Array Value} {e:TypeId} (hc:strsV (namesOf cur)=cur.toList):AtF (Own E.w0 (E.lay w.heap.size).ex) (w.alloc (.cells cur e)) (some ⟨w.heap.size,0,none⟩) (strsV (namesOf cur)) :=
 AtF.of_new (names_at hc) fun b' o' s' e' hx=>hx.2 (.inr (by cases e';rfl))
theorem pop_sx (h:SX E ws b m w):Calls Tryz.prog 59 #[.pointer (some ⟨E.sb,0,none⟩)] w fun r w'=>r= .returned (.int .i64 b.top)∧SX E ws b.pop m w' :=
 (SPop_li h.bm.li).mono fun _ _ ⟨hr,hl,hk⟩=>⟨hr,h.call (b':=b.pop) hl hk rfl⟩
theorem pop_sm (h:SM E ws c s b m w):Calls Tryz.prog 59 #[.pointer (some ⟨E.sb,0,none⟩)] w fun r w'=>r= .returned (.int .i64 b.top)∧SM E ws c s b.pop m w' :=
 (pop_sx h.sx).mono fun _ _ ⟨hr,hs⟩=>⟨hr,hs,h.ok.pop⟩
theorem push_sx (h:SX E ws b m w) (hl:b.S.l.length<1000000) (n:Int):Calls Tryz.prog 108 #[.pointer (some ⟨E.sb,0,none⟩),.int .i64 n] w fun r w'=>r= .returned (.tuple #[])∧SX E ws (b.push n) m w' :=
 (SPush_li h.bm.li n hl).mono fun _ _ ⟨hr,hl,hk⟩=>⟨hr,h.call (b':=b.push n) hl hk rfl⟩
theorem sremove_sx (h:SX E ws b m w) (n:Int):Calls Tryz.prog 109 #[.pointer (some ⟨E.sb,0,none⟩),.int .i64 n] w fun r w'=>r= .returned (.tuple #[])∧SX E ws (b.sremove n) m w' :=
 (SRemove_li h.bm.li n).mono fun _ _ ⟨hr,hl,hk⟩=>⟨hr,h.call (b':=b.sremove n) hl hk rfl⟩
theorem sremove_sm (h:SM E ws c s b m w) (n:Int):Calls Tryz.prog 109 #[.pointer (some ⟨E.sb,0,none⟩),.int .i64 n] w fun r w'=>r= .returned (.tuple #[])∧SM E ws c s (b.sremove n) m w' :=
 (sremove_sx h.sx n).mono fun _ _ ⟨hr,hs⟩=>⟨hr,hs,h.ok.sremove n⟩
theorem imply_sm (h:SM E ws c s b m w) (but:ByteArray):Calls Tryz.prog 120 #[.pointer (some ⟨E.sb,0,none⟩),.string but] w fun r w'=>r= .returned (.tuple #[])∧SM E ws c s (b.imply but) m w':=by
 obtain⟨ge,h1,h2,h3,h4⟩:=h.sx.bm.li
 exact(Imply_si h2 but).mono fun _ _ ⟨hr,hs,hk⟩=>by
  obtain⟨hl,hk'⟩:=LI.si_step h1 h3 h4 hs hk
  exact⟨hr,h.sx.call (b':=b.imply but) hl hk' rfl,h.ok.imply but⟩
theorem until_at (h:SM E ws c s b m w) (names:List ByteArray) (a:Option Addr) (n ca:Nat) (hn:n=names.length) (ha:AtF (Own E.w0 E.ex) w a (strsV names)) (hl:names.length≤1048576) :
 Calls Tryz.prog 117 #[.pointer (some ⟨E.sb,0,none⟩),.slice a n ca] w fun r w'=>r= .returned (.tuple #[])∧SM E ws c s (b.until' names) m w':=by
 subst hn
 obtain⟨ge,h1,h2,h3,h4⟩:=h.sx.bm.li
 exact(Until_si h2 names a ca (AtF.other ha fun b _ hx=>⟨hx.1,fun hy=>hx.2 (.inl hy)⟩) hl).mono fun _ _ ⟨hr,hs,hk⟩=>by
  obtain⟨hl,hk'⟩:=LI.si_step h1 h3 h4 hs hk
  exact⟨hr,h.sx.call (b':=b.until' names) hl hk' rfl,h.ok.until' names⟩
theorem clear_at (h:SM E ws c s b m w) (names:List ByteArray) (a:Option Addr) (n ca:Nat) (hn:n=names.length) (ha:AtF (Own E.w0 E.ex) w a (strsV names)) (hl:names.length≤1048576) :
 Calls Tryz.prog 114 #[.pointer (some ⟨E.sb,0,none⟩),.slice a n ca] w fun r w'=>r= .returned (.tuple #[])∧SM E ws c s (b.clear' names) m w':=by
 subst hn
 obtain⟨ge,h1,h2,h3,h4⟩:=h.sx.bm.li
 exact(Clear_si h2 names a ca (AtF.other ha fun b _ hx=>⟨hx.1,fun hy=>hx.2 (.inl hy)⟩) hl).mono fun _ _ ⟨hr,hs,hk⟩=>by
  obtain⟨hl,hk'⟩:=LI.si_step h1 h3 h4 hs hk
  exact⟨hr,h.sx.call (b':=b.clear' names) hl hk' rfl,h.ok.clear' names⟩
theorem has_at (h:SX E ws b m w) (scope:Int) (names:List ByteArray) (a:Option Addr) (n ca:Nat) (hn:n=names.length) (ha:At w a (strsV names)) (hl:names.length≤1048576) :
 Calls Tryz.prog 116 #[.pointer (some ⟨E.sb,0,none⟩),.int .i64 scope,.slice a n ca] w fun r w'=>r= .returned (.bool (b.has scope names))∧Below w.heap.size w w':=by
 subst hn
 obtain⟨ge,h1,h2,h3,h4⟩:=h.bm.li
 exact Has_si h2 scope names a ca ha hl
theorem until_sm (h:SM E ws c s b m w) {g:Nat} {cur:Array Value} {e:TypeId} {n ca:Nat} (L:Lay g w cur n) :
 Calls Tryz.prog 117 #[.pointer (some ⟨E.sb,0,none⟩),.slice (some ⟨g,0,none⟩) n ca] (w.alloc (.cells cur e)) fun r w'=>r= .returned (.tuple #[])∧SM E ws c s (b.until' (namesOf cur)) m w':=by
 obtain⟨hg,hc,hn,hl⟩:=L
 subst hg
 exact(until_at (h.lay (.cells cur e)) (namesOf cur) _ n ca hn (names_atf (E:=E) (w:=w) hc) hl).mono fun _ _ ⟨hr,hs⟩=>⟨hr,h.less hs rfl⟩
theorem clear_sm (h:SM E ws c s b m w) {g:Nat} {cur:Array Value} {e:TypeId} {n ca:Nat} (L:Lay g w cur n) :
 Calls Tryz.prog 114 #[.pointer (some ⟨E.sb,0,none⟩),.slice (some ⟨g,0,none⟩) n ca] (w.alloc (.cells cur e)) fun r w'=>r= .returned (.tuple #[])∧SM E ws c s (b.clear' (namesOf cur)) m w':=by
 obtain⟨hg,hc,hn,hl⟩:=L
 subst hg
 exact(clear_at (h.lay (.cells cur e)) (namesOf cur) _ n ca hn (names_atf (E:=E) (w:=w) hc) hl).mono fun _ _ ⟨hr,hs⟩=>⟨hr,h.less hs rfl⟩
theorem has_sm (h:SM E ws c s b m w) {g:Nat} {scope:Int} {cur:Array Value} {e:TypeId} {n ca:Nat} (L:Lay g w cur n) :
 Calls Tryz.prog 116 #[.pointer (some ⟨E.sb,0,none⟩),.int .i64 scope,.slice (some ⟨g,0,none⟩) n ca] (w.alloc (.cells cur e)) fun r w'=>r= .returned (.bool (b.has scope (namesOf cur)))∧SM E ws c s b m w':=by
 obtain⟨hg,hc,hn,hl⟩:=L
 subst hg
 exact(has_at (h.sx.alloc (.cells cur e)) scope (namesOf cur) _ n ca hn (names_at hc) hl).mono fun _ _ ⟨hr,hb⟩=>⟨hr,(h.alloc _).world hb⟩
theorem all_sm (h:SM E ws c s b m w):Calls Tryz.prog 100 #[.pointer (some ⟨E.sb,0,none⟩)] w fun r w'=> ∃v,r= .returned v∧w'.ownsRow w.heap.size 3 1 v b.S.l.length (intsV b.S.l)∧Below w.heap.size w w'∧SM E ws c s b m w' :=
 (SAll_li h.sx.bm.li).mono fun _ _ ⟨v,hr,ho,hb⟩=>⟨v,hr,ho,hb,h.world hb⟩
theorem what_sm (h:SM E ws c s b m w) (n:Int):Calls Tryz.prog 44 #[.pointer (some ⟨E.tb,0,none⟩),.int .i64 n] w fun r w'=> ∃v,r= .returned (.tuple #[.int .i64 (spaceQ b.S.T n),.string (nameQ b.S.T n),v]) ∧
 w'.ownsRow w.heap.size 34 2 v (attrsQ b.S.T n).length (pairsV (attrsQ b.S.T n))∧Below w.heap.size w w'∧SM E ws c s b m w' :=
 (What_li h.sx.bm.li n).mono fun _ _ ⟨v,hr,ho,hb⟩=>⟨v,hr,ho,hb,h.world hb⟩
theorem lmark_sm (h:SM E ws c s b m w) (hc:c≤100000):Calls Tryz.prog 115 #[.pointer (some ⟨E.lb,0,none⟩)] w fun r w'=>r= .returned (.tuple #[])∧SM E ws (c+1) (s+1) b.lmark m w' :=
 (Mark_li h.sx.bm.li (by have:=h.ok.len;omega)).mono fun _ _ ⟨hr,hl,hk⟩=>⟨hr,h.sx.call (b':=b.lmark) hl hk rfl,h.ok.lmark⟩
theorem lclear_sm (h:SM E ws c s b m w):Calls Tryz.prog 121 #[.pointer (some ⟨E.lb,0,none⟩)] w fun r w'=>r= .returned (.tuple #[])∧SM E ws c s b.lclear m w' :=
 (Clear_li h.sx.bm.li).mono fun _ _ ⟨hr,hl,hk⟩=>⟨hr,h.sx.call (b':=b.lclear) hl hk rfl,h.ok.lclear⟩
theorem lpush_sm (h:SM E ws c s b m w) (hc:c≤100000) {n:Int} (hel:elemF b.S.T n=true) (hn: ¬n∈b.S.ent):Calls Tryz.prog 205 #[.pointer (some ⟨E.lb,0,none⟩),.int .i64 n] w fun r w'=>r= .returned (.tuple #[])∧SM E ws c s (b.lpush n) m w' :=
 (Push_li h.sx.bm.li (by have:=h.ok.len;omega) n).mono fun _ _ ⟨hr,hl,hk⟩=>⟨hr,h.sx.call (b':=b.lpush n) hl hk rfl,h.ok.lpush hel hn⟩
theorem lremove_sm (h:SM E ws c s b m w) (n:Int):Calls Tryz.prog 163 #[.pointer (some ⟨E.lb,0,none⟩),.int .i64 n] w fun r w'=>r= .returned (.tuple #[])∧SM E ws c s (b.lremove n) m w' :=
 (Remove_li h.sx.bm.li n).mono fun _ _ ⟨hr,hl,hk⟩=>⟨hr,h.sx.call (b':=b.lremove n) hl hk rfl,h.ok.lremove n⟩
theorem find_sm (h:SM E ws c s b m w) (name:ByteArray):Calls Tryz.prog 161 #[.pointer (some ⟨E.lb,0,none⟩),.string name] w fun r w'=>r= .returned (.int .i64 (b.find name))∧SM E ws c s b m w' :=
 (Find_li h.sx.bm.li name).mono fun _ _ ⟨hr,hb⟩=>⟨hr,h.world hb⟩
theorem foster_sm (h:SM E ws c s b m w) (v:Bool):Calls Tryz.prog 94 #[.pointer (some ⟨E.lb,0,none⟩),.bool v] w fun r w'=>r= .returned (.tuple #[])∧SM E ws c s {b with on:=v} m w' :=
 (Foster_li h.sx.bm.li v).mono fun _ _ ⟨hr,hl,hk⟩=>⟨hr,h.sx.call (b':= {b with on:=v}) hl hk rfl,h.ok.of rfl id⟩
end
end
section
open Go.RowKit Mem
section
variable {E:BE} {ws w w':World} {c:Nat} {s:Int} {b b':BuD} {m m':BMark}
theorem start_any (kind:Int) (name:ByteArray) (mb:Nat) (names:List ByteArray) (a:Option Addr) (ca:Nat) (w:World) (hl:names.length≤1048576) (c0:w.cell? ⟨mb,0,none⟩=some (.int .i64 kind)) (c1:w.cell? ⟨mb,1,none⟩=some (.string name)) (ha:At w a (strsV names)) :
 Calls Tryz.prog 104 #[.pointer (some ⟨mb,0,none⟩),.slice a names.length ca] w fun r w'=>r= .returned (.bool ((kind==2)&&oneF names name))∧w=w':=by
 have HO:=Lib.hid (one_any name names a ca w (by unfold maxLen;omega) ha)
 clear ha
 by_cases hk:kind=2
 ·subst hk
  go_enter Tryz.func104,Tryz.ntmps104
  go_wp2_with (go_at_call 153;go_must (refine HO.out.mono ?_;rintro e w1 ⟨rfl,rfl⟩))
  go_ret
  exact⟨rfl,rfl⟩
 ·have hk':(kind==2)=false:=by simpa using hk
  clear hk
  go_enter Tryz.func104,Tryz.ntmps104
  go_wp2_with fail
  go_ret
  rw[hk']
  exact⟨rfl,rfl⟩
theorem end_any (kind:Int) (name:ByteArray) (mb:Nat) (names:List ByteArray) (a:Option Addr) (ca:Nat) (w:World) (hl:names.length≤1048576) (c0:w.cell? ⟨mb,0,none⟩=some (.int .i64 kind)) (c1:w.cell? ⟨mb,1,none⟩=some (.string name)) (ha:At w a (strsV names)) :
 Calls Tryz.prog 103 #[.pointer (some ⟨mb,0,none⟩),.slice a names.length ca] w fun r w'=>r= .returned (.bool ((kind==3)&&oneF names name))∧w=w':=by
 have HO:=Lib.hid (one_any name names a ca w (by unfold maxLen;omega) ha)
 clear ha
 by_cases hk:kind=3
 ·subst hk
  go_enter Tryz.func103,Tryz.ntmps103
  go_wp2_with (go_at_call 153;go_must (refine HO.out.mono ?_;rintro e w1 ⟨rfl,rfl⟩))
  go_ret
  exact⟨rfl,rfl⟩
 ·have hk':(kind==3)=false:=by simpa using hk
  clear hk
  go_enter Tryz.func103,Tryz.ntmps103
  go_wp2_with fail
  go_ret
  rw[hk']
  exact⟨rfl,rfl⟩
theorem start_sx (h:SX E ws b m w) {g:Nat} {cur:Array Value} {e:TypeId} {n ca:Nat} (L:Lay g w cur n) :
 Calls Tryz.prog 104 #[.pointer (some ⟨E.mb,0,none⟩),.slice (some ⟨g,0,none⟩) n ca] (w.alloc (.cells cur e)) fun r w'=>r= .returned (.bool (startF m (namesOf cur)))∧SX E ws b m w':=by
 obtain⟨hg,hc,hn,hl⟩:=L
 subst hg
 subst hn
 have h':=h.alloc (.cells cur e)
 obtain⟨c0,c1, -⟩:=h'.mc
 exact(start_any m.kind m.name E.mb (namesOf cur) _ ca _ hl c0 c1 (names_at hc)).mono fun _ _ ⟨hr,hw⟩=>⟨hr,hw▸h'⟩
theorem start_sm (h:SM E ws c s b m w) {g:Nat} {cur:Array Value} {e:TypeId} {n ca:Nat} (L:Lay g w cur n) :
 Calls Tryz.prog 104 #[.pointer (some ⟨E.mb,0,none⟩),.slice (some ⟨g,0,none⟩) n ca] (w.alloc (.cells cur e)) fun r w'=>r= .returned (.bool (startF m (namesOf cur)))∧SM E ws c s b m w':=by
 obtain⟨hg,hc,hn,hl⟩:=L
 subst hg
 subst hn
 have h':=h.alloc (.cells cur e)
 obtain⟨c0,c1, -⟩:=h'.sx.mc
 exact(start_any m.kind m.name E.mb (namesOf cur) _ ca _ hl c0 c1 (names_at hc)).mono fun _ _ ⟨hr,hw⟩=>⟨hr,hw▸h'⟩
theorem end_sm (h:SM E ws c s b m w) {g:Nat} {cur:Array Value} {e:TypeId} {n ca:Nat} (L:Lay g w cur n) :
 Calls Tryz.prog 103 #[.pointer (some ⟨E.mb,0,none⟩),.slice (some ⟨g,0,none⟩) n ca] (w.alloc (.cells cur e)) fun r w'=>r= .returned (.bool (endF m (namesOf cur)))∧SM E ws c s b m w':=by
 obtain⟨hg,hc,hn,hl⟩:=L
 subst hg
 subst hn
 have h':=h.alloc (.cells cur e)
 obtain⟨c0,c1, -⟩:=h'.sx.mc
 exact(end_any m.kind m.name E.mb (namesOf cur) _ ca _ hl c0 c1 (names_at hc)).mono fun _ _ ⟨hr,hw⟩=>⟨hr,hw▸h'⟩
theorem one_sm (h:SM E ws c s b m w) {g:Nat} {x:ByteArray} {cur:Array Value} {e:TypeId} {n ca:Nat} (L:Lay g w cur n) :
 Calls Tryz.prog 153 #[.string x,.slice (some ⟨g,0,none⟩) n ca] (w.alloc (.cells cur e)) fun r w'=>r= .returned (.bool (oneF (namesOf cur) x))∧SM E ws c s b m w':=by
 obtain⟨hg,hc,hn,hl⟩:=L
 subst hg
 subst hn
 exact(one_any x (namesOf cur) _ ca _ (by unfold maxLen;omega) (names_at hc)).mono fun _ _ ⟨hr,hw⟩=>⟨hr,hw▸h.alloc _⟩
theorem rowed_sm (h:SM E ws c s b m w):Calls Tryz.prog 119 #[.pointer (some ⟨E.mb,0,none⟩)] w fun r w'=>r= .returned (.bool (rowedF m))∧SM E ws c s b m w':=by
 have H:=Lib.hid h
 clear h
 go_enter Tryz.func119,Tryz.ntmps119
 go_wp2_with (go_at_call 104;go_must (refine(start_sm H.out ⟨rfl,by rfl,by rfl,by decide⟩).mono ?_;rintro e w1 ⟨rfl,h1⟩;have H1:=Lib.hid h1;clear h1))
 go_ret
 exact⟨rfl,H1.out⟩
theorem block_any (x:ByteArray) (w:World):Calls Tryz.prog 158 #[.string x] w fun r w'=>r= .returned (.bool (blockB x))∧Below w.heap.size w w':=by
 go_enter Tryz.func158,Tryz.ntmps158
 go_wp2_with (go_at_call 153;go_must (refine(one_any x blockN _ _ _ (by decide) (at_alloc rfl rfl)).mono ?_;rintro e w1 ⟨rfl,rfl⟩))
 go_ret
 exact⟨rfl,(Below.refl _ _).alloc (Nat.le_refl _) _⟩
theorem heading_any (x:ByteArray) (w:World):Calls Tryz.prog 159 #[.string x] w fun r w'=>r= .returned (.bool (headingB x))∧Below w.heap.size w w':=by
 go_enter Tryz.func159,Tryz.ntmps159
 go_wp2_with (go_at_call 153;go_must (refine(one_any x headN _ _ _ (by decide) (at_alloc rfl rfl)).mono ?_;rintro e w1 ⟨rfl,rfl⟩))
 go_ret
 exact⟨rfl,(Below.refl _ _).alloc (Nat.le_refl _) _⟩
theorem formed_any (x:ByteArray) (w:World):Calls Tryz.prog 165 #[.string x] w fun r w'=>r= .returned (.bool (formedB x))∧Below w.heap.size w w':=by
 go_enter Tryz.func165,Tryz.ntmps165
 go_wp2_with (go_at_call 153;go_must (refine(one_any x formN _ _ _ (by decide) (at_alloc rfl rfl)).mono ?_;rintro e w1 ⟨rfl,rfl⟩))
 go_ret
 exact⟨rfl,(Below.refl _ _).alloc (Nat.le_refl _) _⟩
theorem top_sx (h:SX E ws b m w):Calls Tryz.prog 31 #[.pointer (some ⟨E.bb,0,none⟩)] w fun r w'=> ∃v,r= .returned (.tuple #[.int .i64 b.tops,.string b.topn,v]) ∧
 w'.ownsRow w.heap.size 34 2 v (attrsQ b.S.T b.top).length (pairsV (attrsQ b.S.T b.top))∧Below w.heap.size w w'∧SX E ws b m w':=by
 have HS:=Lib.hid h
 have HSd:=Lib.hid (h.world (Below.refl w.heap.size w).drew)
 have HT:=Lib.hid (STop_li HSd.out.bm.li)
 obtain⟨d0,d1, -⟩:=h.bc
 clear h
 have HX:Hid (b.S.l.getLast?.getD 0=b.top):=Lib.hid rfl
 rw[HX.out]at HT
 obtain⟨x,hx⟩: ∃x,x=b.top:=⟨_,rfl⟩
 have HW:=Lib.hid fun u (hu:Below w.heap.size w u)=>What_li (HS.out.bm.li.world hu) x
 have HTS:Hid (b.tops=spaceQ b.S.T x∧b.topn=nameQ b.S.T x):=Lib.hid (by rw[hx];exact⟨rfl,rfl⟩)
 rw[HTS.out.1,HTS.out.2,←hx]
 rw[←hx]at HT
 clear hx HX HTS
 go_enter Tryz.func31,Tryz.ntmps31
 go_wp2_with fail
 go_region_law (first
  |(go_simp;go_at_call 45;refine HT.out.mono ?_
    rintro e w2 ⟨rfl,q,rfl⟩
    have HB2:=Lib.hid (stk_drewN w (1+q)))
  |(go_simp;go_at_call 44;refine(HW.out _ HB2.out).mono ?_
    rintro e w3 ⟨v,rfl,ho,hb⟩
    have HO:=Lib.hid ho
    have HB3:=Lib.hid (belowCall HB2.out hb)
    clear ho hb))
 all_goals
  simp only[Act.put,List.getElem_toArray,List.getElem_cons_succ,List.getElem_cons_zero,List.setIfInBounds_toArray,List.set_cons_zero,List.set_cons_succ]
  go_wp2_with fail
  go_ret3
  exact⟨_,rfl,own_less HO.out HB2.out.size,HB3.out,HS.out.world HB3.out⟩
end
end
section
open Go.RowKit Mem
section
variable {E:BE} {ws w w':World} {c:Nat} {s:Int} {b b':BuD} {m m':BMark}
theorem at_sm (h:SM E ws c s b m w) {g:Nat} {cur:Array Value} {e:TypeId} {n ca:Nat} (L:Lay g w cur n) :
 Calls Tryz.prog 113 #[.pointer (some ⟨E.bb,0,none⟩),.slice (some ⟨g,0,none⟩) n ca] (w.alloc (.cells cur e)) fun r w'=>r= .returned (.bool (b.at' (namesOf cur)))∧SM E ws c s b m w':=by
 obtain⟨hg,hc,hn,hl⟩:=L
 subst hg
 subst hn
 have HT:=Lib.hid (top_sx (h.sx.alloc (.cells cur e)))
 have HA:=Lib.hid (names_at (w:=w) (e:=e) hc)
 have HV:Hid (b.at' (namesOf cur)=((b.tops==0)&&oneF (namesOf cur) b.topn)):=Lib.hid rfl
 have HK:=Lib.hid h.ok
 generalize b.tops=sp at *
 generalize b.topn=nm at *
 generalize namesOf cur=names at *
 generalize w.alloc (.cells cur e)=wa at *
 generalize (some ⟨w.heap.size,0,none⟩:Option Addr)=ad at *
 clear h hc
 by_cases hs:sp=0
 ·subst hs
  go_enter Tryz.func113,Tryz.ntmps113
  go_wp2_with (first
   |(go_at_call 31;go_must (refine HT.out.mono ?_;rintro e w1 ⟨v,rfl, -,hb,h1⟩;have HO:=Lib.hid (one_any nm names ad ca w1 (by unfold maxLen;omega) (HA.out.below hb));have H1:=Lib.hid h1;clear hb h1))
   |(go_at_call 153;go_must (refine HO.out.mono ?_;rintro e w2 ⟨rfl,rfl⟩)))
  go_ret
  rw[HV.out]
  exact⟨rfl,H1.out,HK.out⟩
 ·have hs':(sp==0)=false:=by simpa using hs
  clear hs
  go_enter Tryz.func113,Tryz.ntmps113
  go_wp2_with (first
   |(go_at_call 31;go_must (refine HT.out.mono ?_;rintro e w1 ⟨v,rfl, -,hb,h1⟩;have H1:=Lib.hid h1;clear hb h1)))
  go_ret
  rw[HV.out,hs']
  exact⟨rfl,H1.out,HK.out⟩
theorem insert_sx (h:SX E ws b m w) (hl:b.S.l.length<1000000) (name:ByteArray) (attrs:List Pair) (n:Nat) (a:Option Addr) (ca:Nat) (hn:n=attrs.length) (hc:a=none→ca=0) (hlen:attrs.length≤1048576) (ha:At w a (pairsV attrs)) :
 Calls Tryz.prog 105 #[.pointer (some ⟨E.bb,0,none⟩),.string name,.slice a n ca] w fun r w'=>r= .returned (.int .i64 (b.insN name attrs))∧SX E ws (b.ins name attrs) m w':=by
 have HI:=Lib.hid (Insert_li h.bm.li hl 0 name attrs n a ca hn hc hlen ha)
 have HN:Hid (b.insN name attrs=(insertL b.S.T b.S.l b.on 0 name attrs).2.2.1):=Lib.hid rfl
 have HB:Hid (b.ins name attrs=({b with S:=⟨(insertL b.S.T b.S.l b.on 0 name attrs).1,(insertL b.S.T b.S.l b.on 0 name attrs).2.1,b.S.ent⟩}:BuD).keep (insertL b.S.T b.S.l b.on 0 name attrs).2.2.2):=Lib.hid rfl
 obtain⟨-, -,d2, -⟩:=h.bc
 have HS:=Lib.hid h
 clear h ha hc hn
 generalize insertL b.S.T b.S.l b.on 0 name attrs=q at *
 obtain⟨U,l,x,er⟩:=q
 dsimp only at HI HN HB
 by_cases he:er=0
 ·subst he
  go_enter Tryz.func105,Tryz.ntmps105
  go_wp2_with (go_at_call 97;go_must (refine HI.out.mono ?_;rintro e w1 ⟨rfl,h1,k1⟩;have H1:=Lib.hid (HS.out.call (b':= {b with S:=⟨U,l,b.S.ent⟩}) h1 k1 rfl);clear h1 k1))
  go_ret
  rw[HN.out,HB.out,BuD.keep_zero]
  exact⟨rfl,H1.out⟩
 ·have he':(er !=0)=true:=by simpa using he
  have HE:=Lib.hid he
  clear he
  go_enter Tryz.func105,Tryz.ntmps105
  go_wp2_with (first
   |(go_at_call 97;go_must (refine HI.out.mono ?_;rintro e w1 ⟨rfl,h1,k1⟩;have H1:=Lib.hid (HS.out.call (b':= {b with S:=⟨U,l,b.S.ent⟩}) h1 k1 rfl);clear h1 k1))
   |(go_at_call 29;go_must (refine(fail_sx H1.out er).mono ?_;rintro e w2 ⟨rfl,h2⟩;have H2:=Lib.hid h2;clear h2)))
  go_ret
  rw[HN.out,HB.out,BuD.keep,if_neg HE.out]
  exact⟨rfl,H2.out⟩
theorem insert_sm (h:SM E ws c s b m w) (name:ByteArray) (attrs:List Pair) (n:Nat) (a:Option Addr) (ca:Nat) (hn:n=attrs.length) (hc:a=none→ca=0) (hlen:attrs.length≤1048576) (ha:At w a (pairsV attrs)) (hs:Fits name attrs) :
 Calls Tryz.prog 105 #[.pointer (some ⟨E.bb,0,none⟩),.string name,.slice a n ca] w fun r w'=>r= .returned (.int .i64 (b.insN name attrs))∧SM E ws c (s-1) (b.ins name attrs) m w' :=
 (insert_sx h.sx (by have:=h.ok.len;omega) name attrs n a ca hn hc hlen ha).mono fun _ _ ⟨hr,hw⟩=>⟨hr,hw,h.ok.ins name hs⟩
theorem insert0_sm (h:SM E ws c s b m w) (name:ByteArray) (hn:name.size≤maxLen):Calls Tryz.prog 105 #[.pointer (some ⟨E.bb,0,none⟩),.string name,.slice none 0 0] w fun r w'=>r= .returned (.int .i64 (b.insN name []))∧SM E ws c (s-1) (b.ins name []) m w' :=
 insert_sm h name [] 0 none 0 rfl (fun _=>rfl) (by simp) (At.nil _ _) (fits_none hn)
theorem insertm_sm (h:SM E ws c s b m w) (name:ByteArray) (hnm:name.size≤maxLen) {n:Nat} (hn:n=m.attrs.length):Calls Tryz.prog 105 #[.pointer (some ⟨E.bb,0,none⟩),.string name,.slice E.a n E.ac] w fun r w'=>r= .returned (.int .i64 (b.insN name m.attrs))∧SM E ws c (s-1) (b.ins name m.attrs) m w' :=
 insert_sm h name m.attrs _ _ _ hn h.sx.mo.nil h.sx.mo.alen h.sx.at ⟨hnm,h.sx.mo.ash⟩
theorem text_sm (h:SM E ws c s b m w) (t:ByteArray) (ht:b.used+t.size≤9223372036854775807):Calls Tryz.prog 55 #[.pointer (some ⟨E.bb,0,none⟩),.string t] w fun r w'=>r= .returned (.tuple #[])∧SM E ws c s (b.putText t) m w':=by
 have HK:=Lib.hid (h.ok.putText t)
 have HI:=Lib.hid (Text_li h.sx.bm.li t (Nat.le_refl _) ht)
 have HB:Hid (b.putText t=({b with S:=⟨(textE b.S.T (placeQ b.S.T b.S.l b.on 0).1 (placeQ b.S.T b.S.l b.on 0).2 t).1,b.S.l,b.S.ent⟩,used:=b.used+t.size}:BuD).keep (textE b.S.T (placeQ b.S.T b.S.l b.on 0).1 (placeQ b.S.T b.S.l b.on 0).2 t).2):=Lib.hid rfl
 obtain⟨-, -,d2, -⟩:=h.sx.bc
 have HS:=Lib.hid h.sx
 clear h
 generalize textE b.S.T (placeQ b.S.T b.S.l b.on 0).1 (placeQ b.S.T b.S.l b.on 0).2 t=q at *
 obtain⟨U,er⟩:=q
 dsimp only at HI HB
 by_cases he:er=0
 ·subst he
  go_enter Tryz.func55,Tryz.ntmps55
  go_wp2_with (go_at_call 93;go_must (refine HI.out.mono ?_;rintro e w1 ⟨rfl,h1,k1⟩;have H1:=Lib.hid (HS.out.call (b':= {b with S:=⟨U,b.S.l,b.S.ent⟩,used:=b.used+t.size}) h1 k1 rfl);clear h1 k1))
  go_end0
  refine⟨rfl,?_,HK.out⟩
  rw[HB.out,BuD.keep_zero]
  exact H1.out
 ·have he':(er !=0)=true:=by simpa using he
  have HE:=Lib.hid he
  clear he
  go_enter Tryz.func55,Tryz.ntmps55
  go_wp2_with (first
   |(go_at_call 93;go_must (refine HI.out.mono ?_;rintro e w1 ⟨rfl,h1,k1⟩;have H1:=Lib.hid (HS.out.call (b':= {b with S:=⟨U,b.S.l,b.S.ent⟩,used:=b.used+t.size}) h1 k1 rfl);clear h1 k1))
   |(go_at_call 29;go_must (refine(fail_sx H1.out er).mono ?_;rintro e w2 ⟨rfl,h2⟩;have H2:=Lib.hid h2;clear h2)))
  go_end0
  refine⟨rfl,?_,HK.out⟩
  rw[HB.out,BuD.keep,if_neg HE.out]
  exact H2.out
theorem restore_sm (h:SM E ws c s b m w) (hc:c≤100000):Calls Tryz.prog 110 #[.pointer (some ⟨E.bb,0,none⟩)] w fun r w'=>r= .returned (.tuple #[])∧SM E ws c s b.restore m w':=by
 have HK:=Lib.hid h.ok.restore
 have HI:=Lib.hid (Restore_li h.sx.bm.li (by have:=h.ok.len;omega))
 have HB:Hid (b.restore=({b with S:=(restL b.on ⟨b.S.T,b.S.l,b.S.ent⟩).1}:BuD).keep (restL b.on ⟨b.S.T,b.S.l,b.S.ent⟩).2):=Lib.hid rfl
 obtain⟨-, -,d2, -⟩:=h.sx.bc
 have HS:=Lib.hid h.sx
 clear h
 generalize restL b.on ⟨b.S.T,b.S.l,b.S.ent⟩=q at *
 obtain⟨U,er⟩:=q
 dsimp only at HI HB
 by_cases he:er=0
 ·subst he
  go_enter Tryz.func110,Tryz.ntmps110
  go_wp2_with (go_at_call 157;go_must (refine HI.out.mono ?_;rintro e w1 ⟨rfl,h1,k1⟩;have H1:=Lib.hid (HS.out.call (b':= {b with S:=U}) h1 k1 rfl);clear h1 k1))
  go_end0
  refine⟨rfl,?_,HK.out⟩
  rw[HB.out,BuD.keep_zero]
  exact H1.out
 ·have he':(er !=0)=true:=by simpa using he
  have HE:=Lib.hid he
  clear he
  go_enter Tryz.func110,Tryz.ntmps110
  go_wp2_with (first
   |(go_at_call 157;go_must (refine HI.out.mono ?_;rintro e w1 ⟨rfl,h1,k1⟩;have H1:=Lib.hid (HS.out.call (b':= {b with S:=U}) h1 k1 rfl);clear h1 k1))
   |(go_at_call 29;go_must (refine(fail_sx H1.out er).mono ?_;rintro e w2 ⟨rfl,h2⟩;have H2:=Lib.hid h2;clear h2)))
  go_end0
  refine⟨rfl,?_,HK.out⟩
  rw[HB.out,BuD.keep,if_neg HE.out]
  exact H2.out
theorem adopt_sm (h:SM E ws c s b m w) (hc:c≤100000) (name:ByteArray):Calls Tryz.prog 162 #[.pointer (some ⟨E.bb,0,none⟩),.string name] w fun r w'=>r= .returned (.bool (b.adopted name))∧SM E ws c s (b.adopt name) m w':=by
 have HK:=Lib.hid (h.ok.adopt name)
 have HI:=Lib.hid (Adopt_li h.sx.bm.li name (by have:=h.ok.len;omega) (by have:=h.ok.len;omega))
 have HB:Hid (b.adopt name=({b with S:=(adoptL b.on name ⟨b.S.T,b.S.l,b.S.ent⟩).1}:BuD).keep (adoptL b.on name ⟨b.S.T,b.S.l,b.S.ent⟩).2.2):=Lib.hid rfl
 have HA:Hid (b.adopted name=(adoptL b.on name ⟨b.S.T,b.S.l,b.S.ent⟩).2.1):=Lib.hid rfl
 obtain⟨-, -,d2, -⟩:=h.sx.bc
 have HS:=Lib.hid h.sx
 clear h
 generalize adoptL b.on name ⟨b.S.T,b.S.l,b.S.ent⟩=q at *
 obtain⟨U,dn,er⟩:=q
 dsimp only at HI HB HA
 by_cases he:er=0
 ·subst he
  go_enter Tryz.func162,Tryz.ntmps162
  go_wp2_with (go_at_call 202;go_must (refine HI.out.mono ?_;rintro e w1 ⟨rfl,h1,k1⟩;have H1:=Lib.hid (HS.out.call (b':= {b with S:=U}) h1 k1 rfl);clear h1 k1))
  go_ret
  refine⟨by rw[HA.out];rfl,?_,HK.out⟩
  rw[HB.out,BuD.keep_zero]
  exact H1.out
 ·have he':(er !=0)=true:=by simpa using he
  have HE:=Lib.hid he
  clear he
  go_enter Tryz.func162,Tryz.ntmps162
  go_wp2_with (first
   |(go_at_call 202;go_must (refine HI.out.mono ?_;rintro e w1 ⟨rfl,h1,k1⟩;have H1:=Lib.hid (HS.out.call (b':= {b with S:=U}) h1 k1 rfl);clear h1 k1))
   |(go_at_call 29;go_must (refine(fail_sx H1.out er).mono ?_;rintro e w2 ⟨rfl,h2⟩;have H2:=Lib.hid h2;clear h2)))
  go_ret
  refine⟨by rw[HA.out];rfl,?_,HK.out⟩
  rw[HB.out,BuD.keep,if_neg HE.out]
  exact H2.out
end
end
section
open Go Go.Proofs Go.Shelf Go.RowKit Go.Lib Mem
def shelfRenT:Go.Shelf.Ren:=⟨fun|101=>38|119=>178|120=>191|137=>48|151=>145|152=>126|160=>54|161=>152|197=>144|206=>85|208=>53|217=>79|224=>176|225=>175|227=>88|228=>128|231=>86|232=>87|233=>89|234=>90|235=>91|236=>92|260=>190|266=>125|271=>146|n=>n,fun|0=>0|3=>3|4=>4|5=>5|9=>9|21=>21|46=>177|72=>76|105=>161|116=>121|117=>122|119=>204|124=>125|138=>206|139=>207|n=>n,fun|3=>1|4=>2|n=>n⟩
theorem laysT161:Lays.n161 Tryz.prog shelfRenT:= {
 mixed:=by kernel_rfl
 f119:=Tryz.func178.trans (congrArg some (by kernel_rfl))
 f137:=Tryz.func48.trans (congrArg some (by kernel_rfl))
 f151:=Tryz.func145.trans (congrArg some (by kernel_rfl))
 f152:=Tryz.func126.trans (congrArg some (by kernel_rfl))
 f161:=Tryz.func152.trans (congrArg some (by kernel_rfl))
 f197:=Tryz.func144.trans (congrArg some (by kernel_rfl))
 f217:=Tryz.func79.trans (congrArg some (by kernel_rfl))
 f224:=Tryz.func176.trans (congrArg some (by kernel_rfl))
 f225:=Tryz.func175.trans (congrArg some (by kernel_rfl))
 f227:=Tryz.func88.trans (congrArg some (by kernel_rfl))
 f228:=Tryz.func128.trans (congrArg some (by kernel_rfl))
 f231:=Tryz.func86.trans (congrArg some (by kernel_rfl))
 f233:=Tryz.func89.trans (congrArg some (by kernel_rfl))
 f235:=Tryz.func91.trans (congrArg some (by kernel_rfl))
 f260:=Tryz.func190.trans (congrArg some (by kernel_rfl))
 f266:=Tryz.func125.trans (congrArg some (by kernel_rfl))
 t0:=Tryz.underlying0
 a0:=Tryz.isAgg0
 z0:=Tryz.sizeOf0
 v0:=Tryz.zeroValue0
 t3:=Tryz.underlying3
 a3:=Tryz.isAgg3
 z3:=Tryz.sizeOf3
 v3:=Tryz.zeroValue3
 t4:=Tryz.underlying4
 a4:=Tryz.isAgg4
 z4:=Tryz.sizeOf4
 v4:=Tryz.zeroValue4
 t5:=Tryz.underlying5
 a5:=Tryz.isAgg5
 z5:=Tryz.sizeOf5
 v5:=Tryz.zeroValue5
 t9:=Tryz.underlying9
 a9:=Tryz.isAgg9
 z9:=Tryz.sizeOf9
 v9:=Tryz.zeroValue9
 t21:=Tryz.underlying21
 a21:=Tryz.isAgg21
 z21:=Tryz.sizeOf21
 v21:=Tryz.zeroValue21
 t46:=Tryz.underlying177
 a46:=Tryz.isAgg177
 z46:=Tryz.sizeOf177
 v46:=Tryz.zeroValue177
 t105:=Tryz.underlying161
 a105:=Tryz.isAgg161
 z105:=Tryz.sizeOf161
 v105:=Tryz.zeroValue161
 t116:=Tryz.underlying121
 a116:=Tryz.isAgg121
 z116:=Tryz.sizeOf121
 t117:=Tryz.underlying122
 a117:=Tryz.isAgg122
 z117:=Tryz.sizeOf122
 v117:=Tryz.zeroValue122
 t119:=Tryz.underlying204
 a119:=Tryz.isAgg204
 z119:=Tryz.sizeOf204
 t124:=Tryz.underlying125
 a124:=Tryz.isAgg125
 z124:=Tryz.sizeOf125
 v124:=Tryz.zeroValue125
 t138:=Tryz.underlying206
 a138:=Tryz.isAgg206
 z138:=Tryz.sizeOf206
 v138:=Tryz.zeroValue206
 t139:=Tryz.underlying207
 a139:=Tryz.isAgg207
 z139:=Tryz.sizeOf207
 v139:=Tryz.zeroValue207
 g3:=by kernel_rfl
 g4:=by kernel_rfl}
theorem laysT160:Lays.n160 Tryz.prog shelfRenT:= {
 mixed:=by kernel_rfl
 f119:=Tryz.func178.trans (congrArg some (by kernel_rfl))
 f120:=Tryz.func191.trans (congrArg some (by kernel_rfl))
 f137:=Tryz.func48.trans (congrArg some (by kernel_rfl))
 f151:=Tryz.func145.trans (congrArg some (by kernel_rfl))
 f152:=Tryz.func126.trans (congrArg some (by kernel_rfl))
 f160:=Tryz.func54.trans (congrArg some (by kernel_rfl))
 f197:=Tryz.func144.trans (congrArg some (by kernel_rfl))
 f217:=Tryz.func79.trans (congrArg some (by kernel_rfl))
 f224:=Tryz.func176.trans (congrArg some (by kernel_rfl))
 f225:=Tryz.func175.trans (congrArg some (by kernel_rfl))
 f227:=Tryz.func88.trans (congrArg some (by kernel_rfl))
 f228:=Tryz.func128.trans (congrArg some (by kernel_rfl))
 f231:=Tryz.func86.trans (congrArg some (by kernel_rfl))
 f232:=Tryz.func87.trans (congrArg some (by kernel_rfl))
 f233:=Tryz.func89.trans (congrArg some (by kernel_rfl))
 f234:=Tryz.func90.trans (congrArg some (by kernel_rfl))
 f235:=Tryz.func91.trans (congrArg some (by kernel_rfl))
 f236:=Tryz.func92.trans (congrArg some (by kernel_rfl))
 f260:=Tryz.func190.trans (congrArg some (by kernel_rfl))
 f266:=Tryz.func125.trans (congrArg some (by kernel_rfl))
 f271:=Tryz.func146.trans (congrArg some (by kernel_rfl))
 t0:=Tryz.underlying0
 a0:=Tryz.isAgg0
 z0:=Tryz.sizeOf0
 v0:=Tryz.zeroValue0
 t3:=Tryz.underlying3
 a3:=Tryz.isAgg3
 z3:=Tryz.sizeOf3
 v3:=Tryz.zeroValue3
 t4:=Tryz.underlying4
 a4:=Tryz.isAgg4
 z4:=Tryz.sizeOf4
 v4:=Tryz.zeroValue4
 t5:=Tryz.underlying5
 a5:=Tryz.isAgg5
 z5:=Tryz.sizeOf5
 v5:=Tryz.zeroValue5
 t9:=Tryz.underlying9
 a9:=Tryz.isAgg9
 z9:=Tryz.sizeOf9
 v9:=Tryz.zeroValue9
 t21:=Tryz.underlying21
 a21:=Tryz.isAgg21
 z21:=Tryz.sizeOf21
 v21:=Tryz.zeroValue21
 t46:=Tryz.underlying177
 a46:=Tryz.isAgg177
 z46:=Tryz.sizeOf177
 v46:=Tryz.zeroValue177
 t105:=Tryz.underlying161
 a105:=Tryz.isAgg161
 z105:=Tryz.sizeOf161
 v105:=Tryz.zeroValue161
 t116:=Tryz.underlying121
 a116:=Tryz.isAgg121
 z116:=Tryz.sizeOf121
 t117:=Tryz.underlying122
 a117:=Tryz.isAgg122
 z117:=Tryz.sizeOf122
 v117:=Tryz.zeroValue122
 t119:=Tryz.underlying204
 a119:=Tryz.isAgg204
 z119:=Tryz.sizeOf204
 t124:=Tryz.underlying125
 a124:=Tryz.isAgg125
 z124:=Tryz.sizeOf125
 v124:=Tryz.zeroValue125
 t138:=Tryz.underlying206
 a138:=Tryz.isAgg206
 z138:=Tryz.sizeOf206
 v138:=Tryz.zeroValue206
 t139:=Tryz.underlying207
 a139:=Tryz.isAgg207
 z139:=Tryz.sizeOf207
 v139:=Tryz.zeroValue207
 g3:=by kernel_rfl
 g4:=by kernel_rfl}
theorem laysT101:Lays.n101 Tryz.prog shelfRenT:= {
 mixed:=by kernel_rfl
 f101:=Tryz.func38.trans (congrArg some (by kernel_rfl))
 f206:=Tryz.func85.trans (congrArg some (by kernel_rfl))
 f208:=Tryz.func53.trans (congrArg some (by kernel_rfl))
 t3:=Tryz.underlying3
 a3:=Tryz.isAgg3
 z3:=Tryz.sizeOf3
 v3:=Tryz.zeroValue3
 t4:=Tryz.underlying4
 a4:=Tryz.isAgg4
 z4:=Tryz.sizeOf4
 v4:=Tryz.zeroValue4
 t9:=Tryz.underlying9
 a9:=Tryz.isAgg9
 z9:=Tryz.sizeOf9
 v9:=Tryz.zeroValue9}
theorem trimLeft_any (s:ByteArray) (w:World):Calls Tryz.prog 152 #[.string s,.string ⟨#[9,10,12,13,32]⟩] w fun e w'=>e= .returned (.string ⟨(Lib.trimLeftS s.data.toList [9,10,12,13,32]).toArray⟩)∧Below w.heap.size w w' :=
 Any.strings_TrimLeft_laid laysT161 (by kernel_rfl) s ⟨#[9,10,12,13,32]⟩ w (by decide) (ascii_of_all (by decide))
theorem trim_any (s:ByteArray) (w:World) (hs:s.size≤9223372036854775807):Calls Tryz.prog 54 #[.string s,.string ⟨#[9,10,12,13,32]⟩] w fun e w'=>e= .returned (.string ⟨(Lib.trimS s.data.toList [9,10,12,13,32]).toArray⟩)∧Below w.heap.size w w' :=
 Any.strings_Trim_laid laysT160 (by kernel_rfl) s ⟨#[9,10,12,13,32]⟩ w hs (by decide) (ascii_of_all (by decide))
theorem trimPrefix_any (s p:ByteArray) (w:World):Calls Tryz.prog 38 #[.string s,.string p] w fun e w'=>e= .returned (.string ⟨(Lib.trimPrefix s.data.toList p.data.toList).toArray⟩)∧w'=w :=
 Any.strings_TrimPrefix laysT101 s p w
theorem restF_mk (s:ByteArray):(⟨(Lib.trimLeftS s.data.toList [9,10,12,13,32]).toArray⟩:ByteArray)=restF s:=by
 unfold restF Lib.trimLeftS mkB
 rw[ByteArray.toList_eq]
 rfl
theorem mkB_size (l:List UInt8):(mkB l).size=l.length:=Lib.size_mk l
theorem spaces_size (s:ByteArray):(aheadF s).size+(restF s).size=s.size:=by
 unfold aheadF restF
 rw[mkB_size,mkB_size,←List.length_append,List.takeWhile_append_dropWhile,size_toList]
theorem restF_le (s:ByteArray):(restF s).size≤s.size:=by have:=spaces_size s;omega
theorem ahead_extract (s:ByteArray):s.extract 0 (s.size-(restF s).size)=aheadF s:=by
 have h:=spaces_size s
 have h1:s.size-(restF s).size=(aheadF s).size:=by omega
 rw[h1]
 have h2:s=(⟨s.toList.toArray⟩:ByteArray):=(mk_toList s).symm
 have h3:(⟨s.toList.toArray⟩:ByteArray).extract 0 (aheadF s).size=aheadF s:=by
  rw[Lib.extract_mk,List.drop_zero,Nat.sub_zero]
  unfold aheadF
  rw[mkB_size]
  have h4:s.toList.take (s.toList.takeWhile isSp).length=s.toList.takeWhile isSp:=(List.prefix_iff_eq_take.1 (List.takeWhile_prefix isSp)).symm
  rw[h4]
  rfl
 rw[←h2]at h3
 exact h3
theorem spaces_any (s:ByteArray) (w:World) (hs:s.size≤4611686018427387904):Calls Tryz.prog 102 #[.string s] w fun r w'=>r= .returned (.tuple #[.string (aheadF s),.string (restF s)])∧Below w.heap.size w w':=by
 have HT:=Lib.hid (trimLeft_any s w)
 rw[restF_mk]at HT
 have hsz:=spaces_size s
 have HE:=Lib.hid (ahead_extract s)
 generalize restF s=r at *
 generalize aheadF s=a at *
 have hw:IntKind.i64.wrap ((s.size:Int)-(r.size:Int))=((s.size-r.size:Nat):Int):=by rw[IntKind.wrap_i64];omega
 go_enter Tryz.func102,Tryz.ntmps102
 go_wp2_with (go_at_call 152;go_must (refine HT.out.mono ?_;rintro e w1 ⟨rfl,hb⟩;have HB:=Lib.hid hb;clear hb))
 go_ret2
 rw[HE.out]
 exact⟨rfl,HB.out⟩
end
end Go.Proofs.YtpnagbgpbajfeaaGreatDoor
