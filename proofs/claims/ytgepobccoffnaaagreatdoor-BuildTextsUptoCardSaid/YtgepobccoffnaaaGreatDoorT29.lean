/- Texts joined for a claim: BuNd, BuCl: plain laws and contracts. No conditions beyond those that each lemma types. -/
import Derived.Test.YtgepobccoffnaaaGreatDoorT08
import Derived.Test.YtgepobccoffnaaaGreatDoorT03
import Derived.Test.YtgepobccoffnaaaGreatDoorT16
set_option linter.unusedVariables false
set_option linter.unusedSimpArgs false
set_option maxRecDepth 100000
set_option maxHeartbeats 8000000
namespace Go.Proofs.YtgepobccoffnaaaGreatDoor
open Go.RowKit Mem
theorem bcount_step (kind space:Int) (name:ByteArray) (a:Option Addr) (an ac:Nat) (text:ByteArray) (ka:Option Addr) (kc:Nat) (kids:List NT) (css:List (List Value)) (w:World)
 (k1:kids.length≤kc) (k2:kc≤maxLen) (k4:AtF Non w ka css.flatten) (hl:css.length=kids.length) (hk: ∀i (h:i<css.length) (h':i<kids.length),NodeC Non w css[i] kids[i]) (hm:1+ntCounts kids≤1000000000000)
 (ih: ∀j (h:j<kids.length) (cs:List Value) (u:World),NodeC Non u cs kids[j]→Calls Tryz.prog 9 #[.agg cs.toArray] u fun e u'=>e= .returned (.int .i64 (ntCount kids[j]))∧Below u.heap.size u u') :
 Calls Tryz.prog 9 #[.agg #[.int .i64 kind,.int .i64 space,.string name,.slice a an ac,.string text,.slice ka kids.length kc]] w fun e w'=>e= .returned (.int .i64 ((1+ntCounts kids:Nat):Int))∧Below w.heap.size w w':=by
 have HK4:=Lib.hid k4
 have HK:=Lib.hid hk
 have HIH:=Lib.hid ih
 have HL:=Lib.hid hl
 have hB:=heap_alloc_new w (.cells #[.int .i64 kind,.int .i64 space,.string name,.slice a an ac,.string text,.slice ka kids.length kc] 26)
 have hb:=(Below.refl w.heap.size w).alloc (Nat.le_refl _) (.cells #[.int .i64 kind,.int .i64 space,.string name,.slice a an ac,.string text,.slice ka kids.length kc] 26)
 unfold maxLen at k2
 have hkc:kids.length≤9223372036854775807:=by omega
 clear k4 hk ih hl
 go_enter Tryz.func9,Tryz.ntmps9
 go_wp2_with fail
 generalize w.alloc (.cells #[.int .i64 kind,.int .i64 space,.string name,.slice a an ac,.string text,.slice ka kids.length kc] 26)=w1 at *
 have HB:=Lib.hid hB
 have HB1:=Lib.hid hb
 clear hB hb
 go_loopw [9,3] (fun i s wr=> ∃j:Nat,j≤kids.length∧i= .int .i64 j∧(∃acc:Nat,acc=1+ntCounts (kids.take j)∧s= .int .i64 acc)∧Below w1.heap.size w1 wr) (fun i _ _=>kids.length-(intOf i).toNat)
 case atStart=>exact⟨0,Nat.zero_le _,rfl,⟨1,rfl,rfl⟩,Below.refl _ _⟩
 case round =>
  obtain⟨j,hj,rfl,⟨acc,hacc,rfl⟩,hbr⟩:=hrel
  have HBr:=Lib.hid hbr
  have HBw:=Lib.hid (HB1.out.trans (hbr.mono HB1.out.size))
  have HACC:=Lib.hid hacc
  clear hacc hbr
  by_cases hlt:j<kids.length
  ·have hlt':j<css.length:=by rw[HL.out];exact hlt
   have hkw:=Keeps.ofBelow (F:=Non) HBw.out
   have hnode:=(HK.out j hlt' hlt).kept hkw
   have HKn:=Lib.hid (fun o:Obj=>(HK.out j hlt' hlt).kept (Keeps.ofBelow (F:=Non) (HBw.out.alloc HBw.out.size o)))
   have h6: ∀c∈css,c.length=6:=by
    intro c hc
    obtain⟨i,hi,rfl⟩:=List.getElem_of_mem hc
    exact(HK.out i hi (by rw[←HL.out];exact hi)).len
   obtain⟨f0,f1,f2,f3,f4,f5,f6,f7,f8,f9,he⟩:=nodeC_form hnode
   obtain⟨b,o,rfl,e0,e1,e2,e3,e4,e5⟩:=kid_cells h6 (HK4.out.kept hkw) hlt' he
   rw[he]at HKn
   have HC:=Lib.hid (fun o:Obj=>HIH.out j hlt _ (wr.alloc o) (HKn.out o))
   unfold nodeV at HC
   have hc1:=counts_take kids j hlt
   have hc2:=counts_take_le kids (j+1)
   have hw1:IntKind.i64.wrap ((acc:Int)+(ntCount kids[j]:Int))=(acc:Int)+(ntCount kids[j]:Int):=by
    have:=HACC.out
    rw[IntKind.wrap_i64]
    omega
   have HN:Hid (acc+ntCount kids[j]=1+ntCounts (kids.take (j+1))):=Lib.hid (by rw[HACC.out,hc1];omega)
   clear hkw hnode h6 he hc1 hc2
   go_wp2_with fail
   refine(HC.out _).mono ?_
   rintro e w2 ⟨rfl,hb2⟩
   have HB2:=Lib.hid (belowCall ((HBr.out).alloc HBr.out.size _) hb2)
   clear hb2
   go_wp2_with fail
   go_roundw
   case rel=>exact⟨j+1,by omega,by go_num,⟨acc+ntCount kids[j],HN.out,by simp⟩,HB2.out⟩
   case measure=>simp[intOf];omega
  ·have he:kids.take j=kids:=List.take_of_length_le (by omega)
   go_wp2_with fail
   go_ret
   refine⟨?_,HBw.out⟩
   rw[HACC.out,he]
   rfl
theorem bcount_any: ∀(m:Nat) (n:NT) (w:World) (cs:List Value),ntCount n≤m→m≤1000000000000→NodeC Non w cs n→Calls Tryz.prog 9 #[.agg cs.toArray] w fun e w'=>e= .returned (.int .i64 (ntCount n))∧Below w.heap.size w w'
 |0,.mk _ _ _ _ _ _,_,_,h,_,_=>by
  rw[ntCount]at h
  omega
 |m+1,n,w,cs,h,hm,hn=>by
  cases hn with
  | @mk kind space name a c attrs text ka kc kids css h1 h2 h3 h4 k1 k2 k3 k4 hl hk =>
    rw[ntCount]at h ⊢
    refine bcount_step kind space name a attrs.length c text ka kc kids css w k1 k2 k4 hl hk (by omega) ?_
    intro j hj cs u hc
    have:=counts_mem kids kids[j] (List.getElem_mem hj)
    exact bcount_any m kids[j] u cs (by omega) (by omega) hc
mutual
def ntDepth:NT→Nat
 | .mk _ _ _ _ _ kids=>ntDepths kids+1
def ntDepths:List NT→Nat
 | []=>0
 |x::r=>max (ntDepth x) (ntDepths r)
end
theorem depths_append: ∀(l r:List NT),ntDepths (l++r)=max (ntDepths l) (ntDepths r)
 | [],r=>by simp[ntDepths]
 |x::l,r=>by
  rw[List.cons_append,ntDepths,ntDepths,depths_append l r,Nat.max_assoc]
theorem depths_take (l:List NT) (j:Nat) (h:j<l.length):ntDepths (l.take (j+1))=max (ntDepths (l.take j)) (ntDepth l[j]):=by
 have:l.take (j+1)=l.take j++ [l[j]]:=by rw[List.take_add_one];simp[h]
 rw[this,depths_append]
 simp[ntDepths]
mutual
theorem depth_le_count: ∀n:NT,ntDepth n≤ntCount n
 | .mk _ _ _ _ _ kids=>by rw[ntDepth,ntCount];have:=depths_le_counts kids;omega
theorem depths_le_counts: ∀l:List NT,ntDepths l≤ntCounts l
 | []=>Nat.le_refl _
 |x::r=>by rw[ntDepths,ntCounts];have:=depth_le_count x;have:=depths_le_counts r;omega
end
theorem bdepth_step (kind space:Int) (name:ByteArray) (a:Option Addr) (an ac:Nat) (text:ByteArray) (ka:Option Addr) (kc:Nat) (kids:List NT) (css:List (List Value)) (w:World)
 (k1:kids.length≤kc) (k2:kc≤maxLen) (k4:AtF Non w ka css.flatten) (hl:css.length=kids.length) (hk: ∀i (h:i<css.length) (h':i<kids.length),NodeC Non w css[i] kids[i]) (hm:1+ntCounts kids≤1000000000000)
 (ih: ∀j (h:j<kids.length) (cs:List Value) (u:World),NodeC Non u cs kids[j]→Calls Tryz.prog 10 #[.agg cs.toArray] u fun e u'=>e= .returned (.int .i64 (ntDepth kids[j]))∧Below u.heap.size u u') :
 Calls Tryz.prog 10 #[.agg #[.int .i64 kind,.int .i64 space,.string name,.slice a an ac,.string text,.slice ka kids.length kc]] w fun e w'=>e= .returned (.int .i64 ((ntDepths kids+1:Nat):Int))∧Below w.heap.size w w':=by
 have HK4:=Lib.hid k4
 have HK:=Lib.hid hk
 have HIH:=Lib.hid ih
 have HL:=Lib.hid hl
 have hB:=heap_alloc_new w (.cells #[.int .i64 kind,.int .i64 space,.string name,.slice a an ac,.string text,.slice ka kids.length kc] 26)
 have hb:=(Below.refl w.heap.size w).alloc (Nat.le_refl _) (.cells #[.int .i64 kind,.int .i64 space,.string name,.slice a an ac,.string text,.slice ka kids.length kc] 26)
 unfold maxLen at k2
 have hkc:kids.length≤9223372036854775807:=by omega
 clear k4 hk ih hl
 go_enter Tryz.func10,Tryz.ntmps10
 go_wp2_with fail
 generalize w.alloc (.cells #[.int .i64 kind,.int .i64 space,.string name,.slice a an ac,.string text,.slice ka kids.length kc] 26)=w1 at *
 have HB:=Lib.hid hB
 have HB1:=Lib.hid hb
 clear hB hb
 go_loopw [9,3] (fun i s wr=> ∃j:Nat,j≤kids.length∧i= .int .i64 j∧(∃acc:Nat,acc=ntDepths (kids.take j)∧s= .int .i64 acc)∧Below w1.heap.size w1 wr) (fun i _ _=>kids.length-(intOf i).toNat)
 case atStart=>exact⟨0,Nat.zero_le _,rfl,⟨0,rfl,rfl⟩,Below.refl _ _⟩
 case round =>
  obtain⟨j,hj,rfl,⟨acc,hacc,rfl⟩,hbr⟩:=hrel
  have HBr:=Lib.hid hbr
  have HBw:=Lib.hid (HB1.out.trans (hbr.mono HB1.out.size))
  have HACC:=Lib.hid hacc
  clear hacc hbr
  by_cases hlt:j<kids.length
  ·have hlt':j<css.length:=by rw[HL.out];exact hlt
   have hkw:=Keeps.ofBelow (F:=Non) HBw.out
   have hnode:=(HK.out j hlt' hlt).kept hkw
   have HKn:=Lib.hid (fun o:Obj=>(HK.out j hlt' hlt).kept (Keeps.ofBelow (F:=Non) (HBw.out.alloc HBw.out.size o)))
   have h6: ∀c∈css,c.length=6:=by
    intro c hc
    obtain⟨i,hi,rfl⟩:=List.getElem_of_mem hc
    exact(HK.out i hi (by rw[←HL.out];exact hi)).len
   obtain⟨f0,f1,f2,f3,f4,f5,f6,f7,f8,f9,he⟩:=nodeC_form hnode
   obtain⟨b,o,rfl,e0,e1,e2,e3,e4,e5⟩:=kid_cells h6 (HK4.out.kept hkw) hlt' he
   rw[he]at HKn
   have HC:=Lib.hid (fun o:Obj=>HIH.out j hlt _ (wr.alloc o) (HKn.out o))
   unfold nodeV at HC
   have hc1:=depths_take kids j hlt
   obtain⟨d,hd⟩: ∃d,d=ntDepth kids[j]:=⟨_,rfl⟩
   rw[←hd]at HC hc1
   have hmx:max (acc:Int) (d:Int)=((max acc d:Nat):Int):=by omega
   have HN:Hid (max acc d=ntDepths (kids.take (j+1))):=Lib.hid (by rw[HACC.out,hc1])
   clear hkw hnode h6 he hc1 hd
   go_wp2_with fail
   refine(HC.out _).mono ?_
   rintro e w2 ⟨rfl,hb2⟩
   have HB2:=Lib.hid (belowCall ((HBr.out).alloc HBr.out.size _) hb2)
   clear hb2
   go_wp2_with fail
   go_roundw
   case rel=>exact⟨j+1,by omega,by go_num,⟨max acc d,HN.out,by first|(simp;done)|(simp;split <;>omega)⟩,HB2.out⟩
   case measure=>simp[intOf];omega
  ·have he:kids.take j=kids:=List.take_of_length_le (by omega)
   have hle:=depths_le_counts kids
   have hax:acc=ntDepths kids:=by rw[HACC.out,he]
   have hw1:IntKind.i64.wrap ((acc:Int)+1)=((acc+1:Nat):Int):=by rw[IntKind.wrap_i64];omega
   have HAx:=Lib.hid hax
   have hac:(acc:Int)≤1000000000000:=by omega
   clear hax hle he
   go_wp2_with fail
   go_ret
   refine⟨?_,HBw.out⟩
   rw[←HAx.out]
   rfl
theorem bdepth_any: ∀(m:Nat) (n:NT) (w:World) (cs:List Value),ntCount n≤m→m≤1000000000000→NodeC Non w cs n→Calls Tryz.prog 10 #[.agg cs.toArray] w fun e w'=>e= .returned (.int .i64 (ntDepth n))∧Below w.heap.size w w'
 |0,.mk _ _ _ _ _ _,_,_,h,_,_=>by
  rw[ntCount]at h
  omega
 |m+1,n,w,cs,h,hm,hn=>by
  cases hn with
  | @mk kind space name a c attrs text ka kc kids css h1 h2 h3 h4 k1 k2 k3 k4 hl hk =>
    rw[ntCount]at h
    rw[ntDepth]
    refine bdepth_step kind space name a attrs.length c text ka kc kids css w k1 k2 k4 hl hk (by omega) ?_
    intro j hj cs u hc
    have:=counts_mem kids kids[j] (List.getElem_mem hj)
    exact bdepth_any m kids[j] u cs (by omega) (by omega) hc
section
theorem results_cell {fn:Func} {p:Tmp} {ty:TypeId} (h:fn.results= #[.cell p ty]) (tmps:Array Value) (P:Program) (w:World) :
 (results fn tmps).run P w=((asAddr (tmps.getD p undef)).run P w).andThen fun a w₁=>(loadVar ty a).run P w₁:=by
 simp only[results,h]
 simp[Sem.run_bind,Result.andThen]
theorem ret_one {P:Program} {fn:Func} {p:Tmp} {ty:TypeId} (h:fn.results= #[.cell p ty]) (tmps:Array Value) (w:World) (g:Nat) (t:TypeId) (cs:Array Value) (fr:Nat×Nat) (d:TypeDesc)
 (hp:tmps.getD p undef= .pointer (some ⟨g,0,none⟩)) (hg:w.heap[g]?=some (.cells cs t fr))
 (hu:P.underlying ty=some d) (hd:(match d with| .struct _| .array _ _=>true|_=>false)=true) (hi:(P.info? ty).map (·.size)=some cs.size) :
 (results fn tmps).run P w= .ok (.agg cs) w:=by
 have hp':tmps.getD p undef= .pointer (some ⟨g,0,none⟩):=hp
 rw[results_cell h,hp']
 simp[asAddr,Result.andThen,run_loadVar_row w g t ty cs fr d hg hu hd hi]
theorem set_six: ∀(css:List (List Value)) (j:Nat) (v0 v1 v2 v3 v4 v5:Value),(∀c∈css,c.length=6)→j<css.length →
 ((((((css.flatten.set (j*6) v0).set (j*6+1) v1).set (j*6+2) v2).set (j*6+3) v3).set (j*6+4) v4).set (j*6+5) v5)=(css.set j [v0,v1,v2,v3,v4,v5]).flatten
 | [],_,_,_,_,_,_,_,_,h=>by simp at h
 |c::r,0,v0,v1,v2,v3,v4,v5,h,_=>by
  have h6:=h c List.mem_cons_self
  match c,h6 with
  | [a0,a1,a2,a3,a4,a5],_=>simp
 |c::r,j+1,v0,v1,v2,v3,v4,v5,h,hj=>by
  have h6:=h c List.mem_cons_self
  have ih:=set_six r j v0 v1 v2 v3 v4 v5 (fun x hx=>h x (List.mem_cons_of_mem _ hx)) (by simpa using hj)
  rw[List.set_cons_succ,List.flatten_cons,List.flatten_cons,←ih]
  have e: ∀(x:List Value) (i:Nat) (v:Value),(c++x).set ((j+1)*6+i) v=c++x.set (j*6+i) v:=fun x i v=>by
   rw[List.set_append_right _ _ (by omega),h6]
   congr 2
   omega
  have e0: ∀(x:List Value) (v:Value),(c++x).set ((j+1)*6) v=c++x.set (j*6) v:=fun x v=>e x 0 v
  rw[e0,e,e,e,e,e]
def set6 (w:World) (g o:Nat) (u0 u1 u2 u3 u4 u5:Value):World :=
 (((((w.setCell ⟨g,o,none⟩ u0).setCell ⟨g,o+1,none⟩ u1).setCell ⟨g,o+2,none⟩ u2).setCell ⟨g,o+3,none⟩ u3).setCell ⟨g,o+4,none⟩ u4).setCell ⟨g,o+5,none⟩ u5
theorem set6_keeps {F:Nat→Prop} {w2 w4:World} {g o:Nat} (u0 u1 u2 u3 u4 u5:Value) (hk:Keeps F w2 w4) (hO:F g∨w2.heap.size≤g):Keeps F w2 (set6 w4 g o u0 u1 u2 u3 u4 u5) :=
 (((((hk.set (p:=⟨g,o,none⟩) hO u0).set (p:=⟨g,o+1,none⟩) hO u1).set (p:=⟨g,o+2,none⟩) hO u2).set (p:=⟨g,o+3,none⟩) hO u3).set (p:=⟨g,o+4,none⟩) hO u4).set (p:=⟨g,o+5,none⟩) hO u5
structure CL (w:World) (O N0 K:Nat) (V:Array Value) (a2:Option Addr) (at1:List Pair) (n:Nat) (kids:List NT) (j:Nat) (css:List (List Value)) (wr:World):Prop where
 cell:wr.heap[O]?=some (.cells V 26 (0,0))
 res:wr.heap[O+1]?=some (.cells #[.int .i64 0,.int .i64 0,.string ⟨#[]⟩,.slice none 0 0,.string ⟨#[]⟩,.slice none 0 0] 26 (0,0))
 own:wr.ownsRow N0 26 6 (.slice (some ⟨K,0,none⟩) n n) n css.flatten
 six: ∀c∈css,c.length=6
 len:css.length=n
 kids: ∀i (h:i<css.length) (h':i<kids.length),i<j→NodeC (fun b=>b<N0∨b=K) wr css[i] kids[i]
 att:AtF (fun k=>k<O+2∨k=K) wr a2 (pairsV at1)
 below:Below w.heap.size w wr
section
variable {w wr:World} {O N0 K n:Nat} {V:Array Value} {a2:Option Addr} {at1:List Pair} {kids:List NT} {j:Nat} {css:List (List Value)}
theorem CL.world {w':World} (h:CL w O N0 K V a2 at1 n kids j css wr) (hb:Below wr.heap.size wr w'):CL w O N0 K V a2 at1 n kids j css w' where
 cell:=(hb.block O (row_lt h.cell)).trans h.cell
 res:=(hb.block (O+1) (row_lt h.res)).trans h.res
 own:=own_below h.own hb
 six:=h.six
 len:=h.len
 kids:=fun i h1 h2 h3=>(h.kids i h1 h2 h3).kept (Keeps.ofBelow hb)
 att:=h.att.kept (Keeps.ofBelow hb)
 below:=belowCall h.below hb
theorem CL.push {v0 v1 v2 v3 v4 v5:Value} (h:CL w O N0 K V a2 at1 n kids j css wr) (hw:w.heap.size≤O) (hO:O+2≤N0) (hj:j<kids.length) (hn:n=kids.length) (hcs:NodeC (fun b=>b<N0∨b=K) wr [v0,v1,v2,v3,v4,v5] kids[j]) :
 CL w O N0 K V a2 at1 n kids (j+1) (css.set j [v0,v1,v2,v3,v4,v5]) (set6 wr K (j*6) v0 v1 v2 v3 v4 v5):=by
 have hK:N0≤K:=(h.own.lt K rfl).1
 have hk1:Keeps (fun b=>b=K) wr (set6 wr K (j*6) v0 v1 v2 v3 v4 v5):=set6_keeps _ _ _ _ _ _ (Keeps.refl _ _) (.inl rfl)
 have hk2:Keeps (fun b=>b<N0∨b=K) wr (set6 wr K (j*6) v0 v1 v2 v3 v4 v5):=hk1.mono fun _ _ hx=> .inr hx
 refine⟨(hk1.block O (row_lt h.cell) (by omega)).trans h.cell,(hk1.block (O+1) (row_lt h.res) (by omega)).trans h.res,?_,?_,by rw[List.length_set];exact h.len,?_,h.att.kept (hk1.mono fun _ _ hx=> .inr hx),?_⟩
 ·have hs:=(((((h.own.stored (j*6) v0).1.stored (j*6+1) v1).1.stored (j*6+2) v2).1.stored (j*6+3) v3).1.stored (j*6+4) v4).1.stored (j*6+5) v5
  have hs1:=hs.1
  rw[set_six css j v0 v1 v2 v3 v4 v5 h.six (by rw[h.len,hn];exact hj)]at hs1
  exact hs1
 ·intro c hc
  rcases List.mem_or_eq_of_mem_set hc with hc|hc
  ·exact h.six c hc
  ·rw[hc];rfl
 ·intro i h1 h2 h3
  have hl:i<css.length:=by simpa using h1
  by_cases hij:i=j
  ·subst hij
   rw[List.getElem_set_self]
   exact hcs.kept hk2
  ·rw[List.getElem_set_ne (fun e=>hij e.symm)]
   exact(h.kids i hl h2 (by omega)).kept hk2
 ·have hb:=h.below
  exact(((((hb.setCell (p:=⟨K,j*6,none⟩) (by show _≤K;omega) v0).setCell (p:=⟨K,j*6+1,none⟩) (by show _≤K;omega) v1).setCell (p:=⟨K,j*6+2,none⟩) (by show _≤K;omega) v2).setCell (p:=⟨K,j*6+3,none⟩) (by show _≤K;omega) v3).setCell (p:=⟨K,j*6+4,none⟩) (by show _≤K;omega) v4).setCell (p:=⟨K,j*6+5,none⟩) (by show _≤K;omega) v5
theorem CL.start {w2 w3:World} {u0 u1 u2 u3 u4 u5 v:Value} (h1:w2.heap[O]?=some (.cells #[u0,u1,u2,u3,u4,u5] 26 (0,0))) (h2:w2.heap[O+1]?=some (.cells #[.int .i64 0,.int .i64 0,.string ⟨#[]⟩,.slice none 0 0,.string ⟨#[]⟩,.slice none 0 0] 26 (0,0)))
 (hg:(w2.setCell ⟨O,3,none⟩ v).grownBy w3 none) (ho:w3.ownsRow w2.heap.size 26 6 (.slice (some ⟨(w2.setCell ⟨O,3,none⟩ v).heap.size,0,none⟩) n n) n css.flatten) (h6: ∀c∈css,c.length=6) (hl:css.length=n)
 (ha:AtF (fun k=>k<O+2) w2 a2 (pairsV at1)) (hb:Below w.heap.size w w2) (hw:w.heap.size≤O):CL w O w2.heap.size w2.heap.size #[u0,u1,u2,v,u4,u5] a2 at1 n kids 0 css w3:=by
 have hlt:=row_lt h1
 have hs:(w2.setCell ⟨O,3,none⟩ v).heap.size=w2.heap.size:=World.size_setCell ..
 rw[hs]at ho
 have hk1:Keeps (fun k=>k=O) w2 (w2.setCell ⟨O,3,none⟩ v):=Keeps.set (F:=fun k=>k=O) (Keeps.refl _ w2) (p:=⟨O,3,none⟩) (.inl rfl) v
 have hk2:Keeps (fun _=>False) (w2.setCell ⟨O,3,none⟩ v) w3:=⟨hg.os,hg.tape,hg.output,hg.size,fun k hk _=>hg.block k hk (by simp)⟩
 have hk3:Keeps (fun k=>k=O) w2 w3:=hk1.trans (hk2.mono fun _ _ hx=>hx.elim)
 refine⟨?_,(hk3.block _ (row_lt h2) (by omega)).trans h2,ho,h6,hl,fun _ _ _ h=>by omega,?_,?_⟩
 ·refine(hk2.block O (by rw[hs];exact hlt) (fun h=>h)).trans ?_
  rw[Lib.heap_setCell_same (i:=3) h1]
  rfl
 ·have h3:=ha.kept (hk3.mono fun k hk hx=>by show k<O+2;have:k=O:=hx;omega)
  have h4:AtF (fun k=>k<O+2∨k=w2.heap.size) w2 a2 (pairsV at1):=ha.other fun b hb hx=>hx.elim id fun hx=>absurd hx (by omega)
  exact h4.kept (hk3.mono fun k hk hx=>by have:k=O:=hx;exact .inl (by omega))
 ·exact(hb.setCell (p:=⟨O,3,none⟩) hw v).grown hg (by rw[hs];exact hb.size) (fun k hk=>by cases hk)
theorem CL.done {u0 u1:Int} {u2 u4:ByteArray} {c2:Nat} {u5 v:Value} (h:CL w O N0 K #[.int .i64 u0,.int .i64 u1,.string u2,.slice a2 at1.length c2,.string u4,u5] a2 at1 n kids n css wr) (hw:w.heap.size≤O) (hO:O+2≤N0) (hn:n=kids.length) (hm:n≤maxLen)
 (hq:at1.length≤c2∧c2≤maxLen∧(a2=none→c2=0)) (x0 x1 x2 x3 x4 x5:Value):NodeC (· <w.heap.size) (set6 (wr.setCell ⟨O,5,none⟩ v) (O+1) 0 x0 x1 x2 x3 x4 x5) (nodeV u0 u1 u2 a2 at1.length c2 u4 (some ⟨K,0,none⟩) kids.length kids.length) (.mk u0 u1 u2 at1 u4 kids) ∧
   Below w.heap.size w (set6 (wr.setCell ⟨O,5,none⟩ v) (O+1) 0 x0 x1 x2 x3 x4 x5):=by
 subst hn
 have hK:N0≤K:=(h.own.lt K rfl).1
 have hk1:Keeps (fun k=>k<O+2) wr (set6 (wr.setCell ⟨O,5,none⟩ v) (O+1) 0 x0 x1 x2 x3 x4 x5) :=
  set6_keeps _ _ _ _ _ _ (Keeps.set (F:=fun k=>k<O+2) (Keeps.refl _ wr) (p:=⟨O,5,none⟩) (.inl (by show O<O+2;omega)) v) (.inl (by show O+1<O+2;omega))
 refine⟨.mk css hq.1 hq.2.1 hq.2.2 ?_ (Nat.le_refl _) hm (fun e=>by cases e) ?_ h.len ?_,?_⟩
 ·exact(h.att.kept (hk1.mono fun _ _ hx=> .inl hx)).other fun b _ hx=> .inl (by have:b<w.heap.size:=hx;omega)
 ·obtain⟨a,c,hv, -, -, -,hat⟩:=own_atF (F:=fun k=>k<O+2) h.own (fun k hk=>by have:k<O+2:=hk;omega)
  cases hv
  exact(hat.kept hk1).other fun b _ hx=>by have:b<w.heap.size:=hx;show b<O+2;omega
 ·intro i h1 h2
  exact((h.kids i h1 h2 (by omega)).kept (hk1.mono fun k _ hx=> .inl (by have:k<O+2:=hx;omega))).other fun b _ hx=> .inl (by have:b<w.heap.size:=hx;omega)
 ·have hb:=h.below.setCell (p:=⟨O,5,none⟩) hw v
  exact(((((hb.setCell (p:=⟨O+1,0,none⟩) (by show _≤O+1;omega) x0).setCell (p:=⟨O+1,1,none⟩) (by show _≤O+1;omega) x1).setCell (p:=⟨O+1,2,none⟩) (by show _≤O+1;omega) x2).setCell (p:=⟨O+1,3,none⟩) (by show _≤O+1;omega) x3).setCell (p:=⟨O+1,4,none⟩) (by show _≤O+1;omega) x4).setCell (p:=⟨O+1,5,none⟩) (by show _≤O+1;omega) x5
end
theorem made_six (n:Nat): ∃css:List (List Value),css.length=n∧(∀c∈css,c.length=6)∧(madeCells (Value.agg #[.int .i64 0,.int .i64 0,.string ⟨#[]⟩,.slice none 0 0,.string ⟨#[]⟩,.slice none 0 0]).cells (n*6)).toList=css.flatten:=by
 refine⟨List.replicate n [.int .i64 0,.int .i64 0,.string ⟨#[]⟩,.slice none 0 0,.string ⟨#[]⟩,.slice none 0 0],by simp,fun c hc=>by rw[(List.mem_replicate.1 hc).2];rfl,?_⟩
 have h6: ∀c∈List.replicate n ([.int .i64 0,.int .i64 0,.string ⟨#[]⟩,.slice none 0 0,.string ⟨#[]⟩,.slice none 0 0]:List Value),c.length=6:=fun c hc=>by rw[(List.mem_replicate.1 hc).2];rfl
 apply List.ext_getElem?
 intro k
 by_cases hk:k<n*6
 ·obtain⟨i,f,hf,rfl⟩: ∃i f,f<6∧k=i*6+f:=⟨k/6,k%6,Nat.mod_lt _ (by decide),by omega⟩
  have hi:i<n:=by omega
  rw[flat6_get _ i f (by simpa using hi) h6 hf]
  rw[Array.getElem?_toList]
  simp only[madeCells,Value.cells,Array.getElem?_map,Array.getElem?_range,List.getElem_replicate]
  have hm:(i*6+f)%6=f:=by omega
  rw[if_pos (by omega)]
  have:f=0∨f=1∨f=2∨f=3∨f=4∨f=5:=by omega
  rcases this with rfl|rfl|rfl|rfl|rfl|rfl <;>simp[hm]
 ·rw[List.getElem?_eq_none (by simp[size_madeCells];omega),List.getElem?_eq_none (by rw[flat6 _ h6];simp;omega)]
theorem clone_step (kind space:Int) (name:ByteArray) (at1:List Pair) (a:Option Addr) (ac:Nat) (text:ByteArray) (ka:Option Addr) (kc:Nat) (kids:List NT) (css:List (List Value)) (w:World)
 (h1:at1.length≤ac) (h2:ac≤maxLen) (h3:a=none→ac=0) (h4:AtF Non w a (pairsV at1)) (hal:at1.length≤1048576)
 (k1:kids.length≤kc) (k2:kc≤maxLen) (k4:AtF Non w ka css.flatten) (hl:css.length=kids.length) (hk: ∀i (h:i<css.length) (h':i<kids.length),NodeC Non w css[i] kids[i]) (hm:kids.length≤1048576)
 (ih: ∀j (h:j<kids.length) (cs:List Value) (u:World),NodeC Non u cs kids[j]→Calls Tryz.prog 35 #[.agg cs.toArray] u fun e u'=> ∃ds,e= .returned (.agg ds.toArray)∧NodeC (· <u.heap.size) u' ds kids[j]∧Below u.heap.size u u') :
 Calls Tryz.prog 35 #[.agg #[.int .i64 kind,.int .i64 space,.string name,.slice a at1.length ac,.string text,.slice ka kids.length kc]] w fun e w'=> ∃ds,e= .returned (.agg ds.toArray)∧NodeC (· <w.heap.size) w' ds (.mk kind space name at1 text kids)∧Below w.heap.size w w':=by
 obtain⟨i0,hi,hz0,hz1,hz2⟩:=info_parts info_attr
 obtain⟨i1,hj,hy0,hy1,hy2⟩:=info_parts info_out
 have b0:0+at1.length≤maxLen:=by unfold maxLen;omega
 have b1:(0+at1.length)*32≤140737488355328:=by omega
 have b2:i1.bytes*kids.length≤281474976710656:=by rw[hy2];omega
 have b3:kids.length≤maxLen:=by unfold maxLen;omega
 have HA:=Lib.hid h4
 have HN:=Lib.hid h3
 have HK4:=Lib.hid k4
 have HK:=Lib.hid hk
 have HIH:=Lib.hid ih
 have HL:=Lib.hid hl
 unfold maxLen at k2 h2
 have hkc:kids.length≤9223372036854775807:=by omega
 clear k4 hk ih hl h4 h3
 have HO0:=Lib.hid (((Below.refl w.heap.size w).alloc (Nat.le_refl _) (.cells #[.int .i64 kind,.int .i64 space,.string name,.slice a at1.length ac,.string text,.slice ka kids.length kc] 26)).alloc (by simp) (.cells #[.int .i64 0,.int .i64 0,.string ⟨#[]⟩,.slice none 0 0,.string ⟨#[]⟩,.slice none 0 0] 26))
 have hX:=(Below.heap_alloc ((w.alloc (.cells #[.int .i64 kind,.int .i64 space,.string name,.slice a at1.length ac,.string text,.slice ka kids.length kc] 26)).alloc (.cells #[.int .i64 0,.int .i64 0,.string ⟨#[]⟩,.slice none 0 0,.string ⟨#[]⟩,.slice none 0 0] 26)) (.cells #[] 57) w.heap.size (by simp;omega)).trans ((Below.heap_alloc (w.alloc (.cells #[.int .i64 kind,.int .i64 space,.string name,.slice a at1.length ac,.string text,.slice ka kids.length kc] 26)) (.cells #[.int .i64 0,.int .i64 0,.string ⟨#[]⟩,.slice none 0 0,.string ⟨#[]⟩,.slice none 0 0] 26) w.heap.size (by simp)).trans (heap_alloc_new w (.cells #[.int .i64 kind,.int .i64 space,.string name,.slice a at1.length ac,.string text,.slice ka kids.length kc] 26)))
 have hY:=(Below.heap_alloc ((w.alloc (.cells #[.int .i64 kind,.int .i64 space,.string name,.slice a at1.length ac,.string text,.slice ka kids.length kc] 26)).alloc (.cells #[.int .i64 0,.int .i64 0,.string ⟨#[]⟩,.slice none 0 0,.string ⟨#[]⟩,.slice none 0 0] 26)) (.cells #[] 57) (w.heap.size+1) (by simp)).trans (heap_new_at (w:=w.alloc (.cells #[.int .i64 kind,.int .i64 space,.string name,.slice a at1.length ac,.string text,.slice ka kids.length kc] 26)) (n:=w.heap.size+1) (o:= .cells #[.int .i64 0,.int .i64 0,.string ⟨#[]⟩,.slice none 0 0,.string ⟨#[]⟩,.slice none 0 0] 26) (by simp))
 have hE:=World.ownsRow_lit ((w.alloc (.cells #[.int .i64 kind,.int .i64 space,.string name,.slice a at1.length ac,.string text,.slice ka kids.length kc] 26)).alloc (.cells #[.int .i64 0,.int .i64 0,.string ⟨#[]⟩,.slice none 0 0,.string ⟨#[]⟩,.slice none 0 0] 26)) (base:=w.heap.size+2) (e:=57) (size:=2) #[] 0 (by simp) (Nat.zero_le _) rfl
 obtain⟨w1,hw1⟩: ∃w1,w1=((w.alloc (.cells #[.int .i64 kind,.int .i64 space,.string name,.slice a at1.length ac,.string text,.slice ka kids.length kc] 26)).alloc (.cells #[.int .i64 0,.int .i64 0,.string ⟨#[]⟩,.slice none 0 0,.string ⟨#[]⟩,.slice none 0 0] 26)).alloc (.cells #[] 57):=⟨_,rfl⟩
 have hB1:Below w.heap.size w w1:=by rw[hw1];exact HO0.out.alloc HO0.out.size _
 have hs1:w1.heap.size=w.heap.size+3:=by rw[hw1];simp
 rw[←hw1]at hX hY hE
 have HE:Hid (w1.ownsRow (w.heap.size+2) 57 2 (.slice (some ⟨w.heap.size+1+1,0,none⟩) 0 0) 0 []):=Lib.hid (by simpa using hE)
 have HA1:=Lib.hid (HA.out.kept (Keeps.ofBelow hB1)).at
 have HZ:Hid (w.heap.size+2≤w1.heap.size):=Lib.hid (by omega)
 have HX:=Lib.hid hX
 have HY:=Lib.hid hY
 have HB1:=Lib.hid hB1
 clear hX hY hE hB1 HO0
 have HW1:=Lib.hid hw1
 clear hw1
 obtain⟨css0,hc1,hc2,hc3⟩:=made_six kids.length
 have HC1:=Lib.hid hc1
 have HC2:=Lib.hid hc2
 have HC3:=Lib.hid hc3
 have HS1:=Lib.hid hs1
 clear hc1 hc2 hc3 hs1
 go_enter Tryz.func35,Tryz.ntmps35
 go_wp2_with (first
  |(at_builtin;go_must (refine wpList_append_slice _ rfl _ _ 23 rfl (w.heap.size+2) 57 i0 _ 2 32 Tryz.underlying23 hi hz0 hz1 hz2 rfl (by decide) _ 0 [] rfl (HW1.out▸HE.out) a at1.length ac (pairsV at1) rfl (pairsV_length at1) HN.out (HW1.out▸HA1.out) (pairsV_one at1) b0 b1 (HW1.out▸HZ.out) ?_;intro v2 w2 hown2 hgr2;have hgr2:w1.grownBy w2 (some (w.heap.size+1+1)):=HW1.out▸hgr2;simp only[Nat.zero_add,List.nil_append]at hown2;obtain⟨a2,c2,rfl,q1,q2,q3,hat2⟩:=own_at hown2;have HQ:=Lib.hid (⟨q1,q2,q3⟩:at1.length≤c2∧c2≤maxLen∧(a2=none→c2=0));have HX2:=Lib.hid ((hgr2.block w.heap.size (row_lt HX.out) (fun e=>by simp only[Option.some.injEq]at e;omega)).trans HX.out);have HY2:=Lib.hid ((hgr2.block (w.heap.size+1) (row_lt HY.out) (fun e=>by simp only[Option.some.injEq]at e;omega)).trans HY.out);have HAt2:=Lib.hid (AtF.of_new (F:=fun k=>k<w.heap.size+2) hat2 (fun b o s e (hx:b<w.heap.size+2)=>by have:=(hown2.lt b (by rw[e];rfl)).1;omega));obtain⟨⟨_,_,_,x3,_,x5⟩,_,_,_,f3,_,f5⟩:=cells6 HX2.out;have HB2:=Lib.hid (HB1.out.grown hgr2 HB1.out.size (fun b hb=>by simp only[Option.some.injEq]at hb;omega));have HZ2:Hid (w.heap.size+2≤w2.heap.size):=Lib.hid (by have:=hgr2.size;have:=HZ.out;omega);clear hown2 hgr2 hat2 q1 q2 q3 HA1 HE))
  |(at_make;go_must (refine wpList_make_full _ rfl _ _ 24 rfl w2.heap.size 26 i1 _ 6 Tryz.underlying24 hj hy0 hy1 .i64 .i64 (kids.length:Int) (kids.length:Int) kids.length rfl rfl rfl rfl b2 b3 (by simp) ?_;intro w3 hown3 hgr3;rw[HC3.out]at hown3;have HCL:=Lib.hid (CL.start (kids:=kids) HX2.out HY2.out hgr3 hown3 HC2.out HC1.out HAt2.out HB2.out (Nat.le_refl _));obtain⟨⟨_,_,_,y3,_,y5⟩,_⟩:=cells6 HCL.out.cell;clear hown3 hgr3)))
 clear x3 x5 y3 y5 f3 f5
 go_loopw [18] (fun i wr=> ∃j:Nat,j≤kids.length∧i= .int .i64 j∧Hid (∃css',CL w w.heap.size w2.heap.size w2.heap.size #[.int .i64 kind,.int .i64 space,.string name,.slice a2 at1.length c2,.string text,.slice ka kids.length kc] a2 at1 kids.length kids j css' wr)) (fun i _=>kids.length-(intOf i).toNat)
 case atStart=>exact⟨0,Nat.zero_le _,rfl,Lib.hid ⟨_,HCL.out⟩⟩
 case round =>
  obtain⟨j,hj,rfl,HCR⟩:=hrel
  obtain⟨css',hcr⟩:=HCR.out
  have HR:=Lib.hid hcr
  have HBw:=Lib.hid hcr.below
  obtain⟨⟨_,_,_,y3,_,y5⟩,_,_,_,_,_,f5⟩:=cells6 hcr.cell
  clear hcr HCR
  by_cases hlt:j<kids.length
  ·have hlt':j<css.length:=by rw[HL.out];exact hlt
   have hkw:=Keeps.ofBelow (F:=Non) HBw.out
   have hnode:=(HK.out j hlt' hlt).kept hkw
   have HKn:=Lib.hid (fun o:Obj=>(HK.out j hlt' hlt).kept (Keeps.ofBelow (F:=Non) (HBw.out.alloc HBw.out.size o)))
   have h6: ∀c∈css,c.length=6:=by
    intro c hc
    obtain⟨i,hi,rfl⟩:=List.getElem_of_mem hc
    exact(HK.out i hi (by rw[←HL.out];exact hi)).len
   obtain⟨f0,f1,f2,f3,f4,f5',f6,f7,f8,f9,he⟩:=nodeC_form hnode
   obtain⟨b,o,rfl,e0,e1,e2,e3,e4,e5⟩:=kid_cells h6 (HK4.out.kept hkw) hlt' he
   rw[he]at HKn
   have HC:=Lib.hid (fun o:Obj=>HIH.out j hlt _ (wr.alloc o) (HKn.out o))
   unfold nodeV at HC
   clear hkw hnode h6 he
   have HPu:=Lib.hid (fun(o:Obj) (u:World) (g0 g1:Int) (g2:ByteArray) (g3:Option Addr) (g4 g5:Nat) (g6:ByteArray) (g7:Option Addr) (g8 g9:Nat) (hb:Below (wr.alloc o).heap.size (wr.alloc o) u) (hc:NodeC (· <(wr.alloc o).heap.size) u (nodeV g0 g1 g2 g3 g4 g5 g6 g7 g8 g9) kids[j]) =>
    ((HR.out.world ((Below.refl _ _).alloc (Nat.le_refl _) o)).world hb).push (v0:= .int .i64 g0) (v1:= .int .i64 g1) (v2:= .string g2) (v3:= .slice g3 g4 g5) (v4:= .string g6) (v5:= .slice g7 g8 g9) (Nat.le_refl _) HZ2.out hlt rfl (hc.other fun b hb' hx=>by
      have h8:=HR.out.own.lt _ rfl
      have hs:=World.size_alloc wr o
      show b<_
      rcases hx with hx|hx <;>omega))
   have hfz: ∀(o:Obj) (u:World),Below (wr.alloc o).heap.size (wr.alloc o) u→ ∀k,u.frozen? ⟨w2.heap.size,k,none⟩=false:=fun o u hb k=>((HR.out.world ((Below.refl _ _).alloc (Nat.le_refl _) o)).world hb).own.frozenAt k
   have HFz:=Lib.hid hfz
   have hcl: ∀(o:Obj) (u:World),Below (wr.alloc o).heap.size (wr.alloc o) u→ ∀f,f<6→ ∃v,u.cell? ⟨w2.heap.size,j*6+f,none⟩=some v:=fun o u hb f hf=>by
    have h9:=((HR.out.world ((Below.refl _ _).alloc (Nat.le_refl _) o)).world hb)
    have h10:j*6+f<css'.flatten.length:=by rw[flat6 _ h9.six,h9.len];omega
    exact⟨_,(own_row h9.own).cell (List.getElem?_eq_getElem h10)⟩
   have HCl:=Lib.hid hcl
   clear hfz hcl
   go_wp2_with fail
   refine(HC.out _).mono ?_
   rintro e u ⟨ds,rfl,hnc,hbu⟩
   obtain⟨g0,g1,g2,g3,g4,g5,g6,g7,g8,g9,hde⟩:=nodeC_form hnc
   subst hde
   have HPn:=Lib.hid (HPu.out _ _ _ _ _ _ _ _ _ _ _ _ hbu hnc)
   have q0:=HFz.out _ _ hbu (j*6)
   have q1:=HFz.out _ _ hbu (j*6+1)
   have q2:=HFz.out _ _ hbu (j*6+2)
   have q3:=HFz.out _ _ hbu (j*6+3)
   have q4:=HFz.out _ _ hbu (j*6+4)
   have q5:=HFz.out _ _ hbu (j*6+5)
   obtain⟨_,r0⟩:=HCl.out _ _ hbu 0 (by omega)
   obtain⟨_,r1⟩:=HCl.out _ _ hbu 1 (by omega)
   obtain⟨_,r2⟩:=HCl.out _ _ hbu 2 (by omega)
   obtain⟨_,r3⟩:=HCl.out _ _ hbu 3 (by omega)
   obtain⟨_,r4⟩:=HCl.out _ _ hbu 4 (by omega)
   obtain⟨_,r5⟩:=HCl.out _ _ hbu 5 (by omega)
   rw[Nat.add_zero]at r0
   clear hnc hbu HPu HFz HCl HC HKn
   unfold nodeV
   go_wp2_with fail
   go_roundw
   case rel=>exact⟨j+1,by omega,by go_num,Lib.hid ⟨_,HPn.out⟩⟩
   case measure=>simp[intOf];omega
  ·obtain rfl:j=kids.length:=by omega
   have HD:=Lib.hid (fun(v x0 x1 x2 x3 x4 x5:Value)=>HR.out.done (v:=v) (Nat.le_refl _) HZ2.out rfl b3 HQ.out x0 x1 x2 x3 x4 x5)
   have hres:=HR.out.res
   obtain⟨⟨z0,z1,z2,z3,z4,z5⟩,t0,t1,t2,t3,t4,t5⟩:=cells6 hres
   have HRs:=Lib.hid (fun(v x0 x1 x2 x3 x4 x5:Value)=>(put6_heap x0 x1 x2 x3 x4 x5 ((heap_setCell_other wr ⟨w.heap.size,5,none⟩ (w.heap.size+1) v (show w.heap.size+1≠w.heap.size by omega)).trans hres):(set6 (wr.setCell ⟨w.heap.size,5,none⟩ v) (w.heap.size+1) 0 x0 x1 x2 x3 x4 x5).heap[w.heap.size+1]?=_))
   clear hres
   go_wp2_with fail
   refine bodyPost_ret (ret_one rfl _ _ (w.heap.size+1) _ _ _ _ (by rfl) (HRs.out _ _ _ _ _ _ _) Tryz.underlying26 rfl size_out) rfl ?_
   exact⟨_,rfl,HD.out _ _ _ _ _ _ _⟩
mutual
def ntSlim:NT→Prop
 | .mk _ _ _ at1 _ kids=>at1.length≤1048576∧ntSlims kids
def ntSlims:List NT→Prop
 | []=>True
 |x::r=>ntSlim x∧ntSlims r
end
theorem slims_mem: ∀(l:List NT) (x:NT),ntSlims l→x∈l→ntSlim x
 | [],_,_,h=>by simp at h
 |y::r,x,h,hx=>by
  rw[ntSlims]at h
  rcases List.mem_cons.1 hx with hx|hx
  ·rw[hx];exact h.1
  ·exact slims_mem r x h.2 hx
theorem counts_len: ∀l:List NT,l.length≤ntCounts l
 | []=>Nat.zero_le _
 | .mk _ _ _ _ _ _::r=>by rw[ntCounts,List.length_cons,ntCount];have:=counts_len r;omega
theorem clone_any: ∀(m:Nat) (n:NT) (w:World) (cs:List Value),ntCount n≤m→m≤1000000→ntSlim n→NodeC Non w cs n→Calls Tryz.prog 35 #[.agg cs.toArray] w fun e w'=> ∃ds,e= .returned (.agg ds.toArray)∧NodeC (· <w.heap.size) w' ds n∧Below w.heap.size w w'
 |0,.mk _ _ _ _ _ _,_,_,h,_,_,_=>by
  rw[ntCount]at h
  omega
 |m+1,n,w,cs,h,hm,hs,hn=>by
  cases hn with
  | @mk kind space name a c attrs text ka kc kids css h1 h2 h3 h4 k1 k2 k3 k4 hl hk =>
    rw[ntCount]at h
    rw[ntSlim]at hs
    have hlen:=counts_len kids
    refine clone_step kind space name attrs a c text ka kc kids css w h1 h2 h3 h4 hs.1 k1 k2 k4 hl hk (by omega) ?_
    intro j hj ds u hc
    have:=counts_mem kids kids[j] (List.getElem_mem hj)
    exact clone_any m kids[j] u ds (by omega) (by omega) (slims_mem _ _ hs.2 (List.getElem_mem hj)) hc
end
end Go.Proofs.YtgepobccoffnaaaGreatDoor
