/-
  What the laws over lists of marks want of BuSw and CuMp. No conditions beyond those that each lemma types.
-/
import Derived.Test.YteckmpcgdgknoaaGreatDoorQCuSh
set_option linter.unusedVariables false
set_option linter.unusedSimpArgs false
namespace Go.Proofs.YteckmpcgdgknoaaGreatDoor
open Go.RowKit Mem
section
variable {k:Bool} {b:BuD} {m:BMark}
end
theorem flush_raw (b:BuD):b.flush.raw=b.raw∧b.flush.name=b.name:=by
 have hk: ∀(c:BuD) (e:Int),(c.keep e).raw=c.raw∧(c.keep e).name=c.name:=fun c e=>by
  obtain⟨-, -, -, -, -, -,h1,h2, -⟩:=c.keep_all e
  exact⟨h1,h2⟩
 unfold BuD.flush
 simp only
 split
 ·exact⟨rfl,rfl⟩
 ·split
  ·exact hk _ _
  ·exact⟨(hk _ _).1.trans (hk _ _).1,(hk _ _).2.trans (hk _ _).2⟩
end Go.Proofs.YteckmpcgdgknoaaGreatDoor
namespace Go.Proofs.YteckmpcgdgknoaaGreatDoor
open Go.RowKit Mem
noncomputable def BuD.aside (b:BuD):BuD:=if b.err=0 then b.ready.flush else b
section
variable {b:BuD} {m:BMark}
theorem flush_same (b:BuD):b.ready.flush.ready=b.ready.flush∧b.ready.flush.flush=b.ready.flush:=by
 obtain⟨h1,h2⟩:=flush_raw b.ready
 obtain⟨h3,h4⟩:=flush_sw b.ready
 exact⟨ready_same h1 h2 h3,flush_none h4⟩
theorem flush_again (b:BuD):b.ready.flush.ready.flush=b.ready.flush:=by
 rw[(flush_same b).1,(flush_same b).2]
theorem DoF_aside (b:BuD) (h:m.kind=4∨m.kind=5):b.DoF m=b.aside:=by
 unfold BuD.DoF BuD.aside BuD.doF
 rw[if_neg (show ¬(m.kind<1∨6<m.kind) by omega),if_neg (show ¬m.kind=1 by omega),if_pos h]
theorem aside_twice (b:BuD):b.aside.aside=b.aside:=by
 unfold BuD.aside
 by_cases h:b.err=0
 ·rw[if_pos h,flush_again]
  exact ite_self _
 ·rw[if_neg h,if_neg h]
theorem again_err {n:Nat} (h:b.err≠0):BuD.again n b m=b:=by
 cases n with
 |zero=>rfl
 |succ n=>rw[BuD.again,if_neg h]
theorem DoF_behind (b:BuD) (h:m.kind=2∨m.kind=3∨m.kind=6):b.aside.DoF m=b.DoF m:=by
 have hd: ∀c:BuD,c.doF m=BuD.again 9000 c.ready.flush m:=fun c=>by
  unfold BuD.doF
  rw[if_neg (show ¬(m.kind<1∨6<m.kind) by omega),if_neg (show ¬m.kind=1 by omega),if_neg (show ¬(m.kind=4∨m.kind=5) by omega)]
 unfold BuD.DoF BuD.aside
 by_cases h0:b.err=0
 ·rw[if_pos h0,if_pos h0,hd,hd,flush_again]
  by_cases h1:b.ready.flush.err=0
  ·rw[if_pos h1]
  ·rw[if_neg h1,again_err h1]
 ·rw[if_neg h0,if_neg h0]
theorem DoF_behind1 (b:BuD) (h:m.kind=1) (hs:b.skip=false) (hw:b.wait=⟨#[]⟩):b.aside.DoF m=b.DoF m:=by
 have h2:b.ready.flush=b.ready:=flush_none hw
 unfold BuD.DoF BuD.aside
 rw[h2]
 by_cases h0:b.err=0
 ·rw[if_pos h0,if_pos h0,if_pos (show b.ready.err=0 from h0)]
  have h3:b.ready.headM m=b.headM m:=by
   unfold BuD.headM
   rw[hs]
   rfl
  unfold BuD.doF
  rw[if_neg (show ¬(m.kind<1∨6<m.kind) by omega),if_pos h,if_neg (show ¬(m.kind<1∨6<m.kind) by omega),if_pos h,h3]
  rfl
 ·rw[if_neg h0,if_neg h0]
theorem DoF_sw (b:BuD) (hk:1≤m.kind∧m.kind≤3) (hm:okN m.name) (hs:b.skip=false) (he:b.err=0):(b.DoF m).skip=false∧(m.kind≠1→(b.DoF m).wait=⟨#[]⟩):=by
 unfold BuD.DoF BuD.doF
 rw[if_pos he,if_neg (show ¬(m.kind<1∨6<m.kind) by omega)]
 by_cases h1:m.kind=1
 ·rw[if_pos h1]
  refine⟨?_,fun h=>absurd h1 h⟩
  have h2:b.headM m=m:=by unfold BuD.headM;rw[hs];rfl
  rw[h2]
  split
  ·rfl
  ·have h3:=sw_again (k:=true) 9000 b.ready m (fun e=>by cases e) hm
   unfold sw at h3
   rw[Prod.mk.injEq]at h3
   exact h3.1
 ·rw[if_neg h1,if_neg (show ¬(m.kind=4∨m.kind=5) by omega)]
  have h3:=sw_again (k:=false) 9000 b.ready.flush m (fun _=>h1) hm
  unfold sw at h3
  rw[Prod.mk.injEq]at h3
  exact⟨h3.1.trans (flush_sw b.ready).1,fun _=>h3.2.trans (flush_sw b.ready).2⟩
end
theorem runs_more (b:BuD) (l r:List BMark):b.runs (l++r)=(b.runs l).runs r:=List.foldl_append
def asideM (k:Nat):BMark:=⟨4+(k%2:Nat),⟨#[]⟩,[],false,⟨#[]⟩⟩
theorem aside_kind (k:Nat):(asideM k).kind=4∨(asideM k).kind=5:=by
 show(4+((k%2:Nat):Int))=4∨(4+((k%2:Nat):Int))=5
 omega
def asides (i:Int):Nat→List Int→List BMark
 |_,[]=> []
 |k,x::r=>(if x=i then [asideM k]else [])++asides i (k+1) r
theorem asides_runs (i:Int): ∀(r:List Int) (k:Nat) (b:BuD),b.runs (asides i k r)=b∨b.runs (asides i k r)=b.aside
 | [],_,_=> .inl rfl
 |x::r,k,b=>by
  rw[asides,runs_more]
  split
  ·have h:b.runs [asideM k]=b.aside:=DoF_aside b (aside_kind k)
   rw[h]
   rcases asides_runs i r (k+1) b.aside with e|e
   ·exact .inr e
   ·exact .inr (e.trans (aside_twice b))
  ·exact asides_runs i r (k+1) b
structure Odd (own odd:List BMark):Prop where
 runs:newB.runs odd=newB.runs own∨newB.runs odd=(newB.runs own).aside
 sw:(newB.runs own).err=0→(newB.runs own).skip=false∧((∀m,own.getLast?=some m→m.kind≠1)→(newB.runs own).wait=⟨#[]⟩)
theorem Odd.nil:Odd [] []:=⟨.inl rfl,fun _=>⟨rfl,fun _=>rfl⟩⟩
theorem Odd.more {own odd:List BMark} (h:Odd own odd) {m:BMark} (hk:1≤m.kind∧m.kind≤3) (hm:okN m.name) (ht:m.kind=1→ ∀x,own.getLast?=some x→x.kind≠1) (i:Int) (ws:List Int):Odd (own++ [m]) (odd++ [m]++asides i 0 ws):=by
 obtain⟨h1,h2⟩:=h
 have h3:(newB.runs odd).DoF m=(newB.runs own).DoF m:=by
  rcases h1 with e|e
  ·rw[e]
  ·rw[e]
   by_cases he:(newB.runs own).err=0
   ·obtain⟨q1,q2⟩:=h2 he
    by_cases h4:m.kind=1
    ·exact DoF_behind1 _ h4 q1 (q2 (ht h4))
    ·exact DoF_behind _ (by omega)
   ·unfold BuD.aside
    rw[if_neg he]
 refine⟨?_,fun he=> ?_⟩
 ·rw[runs_more,runs_snoc,runs_snoc,h3]
  exact asides_runs i ws 0 _
 ·rw[runs_snoc]at he ⊢
  have he0:(newB.runs own).err=0:=by
   by_cases h4:(newB.runs own).err=0
   ·exact h4
   ·rw[DoF_err h4]at he
    exact he
  obtain⟨q1,q2⟩:=DoF_sw _ hk hm (h2 he0).1 he0
  exact⟨q1,fun hl=>q2 (hl m (by simp))⟩
theorem Odd.ends {own odd:List BMark} (h:Odd own odd):(newB.runs odd).endN=(newB.runs own).endN∧(newB.runs odd).endE=(newB.runs own).endE:=by
 have h1:(newB.runs odd).endB=(newB.runs own).endB:=by
  unfold BuD.endB
  rcases h.runs with e|e
  ·rw[e]
  ·rw[e]
   exact DoF_behind _ (.inr (.inr rfl))
 have h2:(newB.runs odd).endE=(newB.runs own).endE:=by
  unfold BuD.endE
  rw[h1]
 exact⟨by unfold BuD.endN;rw[h1,h2],h2⟩
end Go.Proofs.YteckmpcgdgknoaaGreatDoor
