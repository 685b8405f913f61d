/-
  Plain: marks whose texts are cut in two make what they make whole. No conditions beyond those that each lemma types.
-/
import Derived.Test.YteckmpcgdgknoaaGreatDoorQ41
set_option linter.unusedVariables false
set_option linter.unusedSimpArgs false
namespace Go.Proofs.YteckmpcgdgknoaaGreatDoor
open Go.RowKit Mem
def rkT (m:Int):Nat:=if m=0 then 4 else if m=1 then 3 else if m=2 then 2 else if m=3∨m=8 then 1 else if 4≤m∧m≤11 then 0 else 1
theorem rkT_le (m:Int):rkT m≤4:=by
 unfold rkT
 repeat' split
 all_goals decide
section
variable {b c x y:BuD} {m:BMark} {t u v:ByteArray}
theorem rk_ite2 {p:Prop} [Decidable p] {n:Nat} {r q:BuD×ByteArray×Bool} (h1:p→r.2.2=true→rkT r.1.mode<n) (h2: ¬p→q.2.2=true→rkT q.1.mode<n):(if p then r else q).2.2=true→rkT (if p then r else q).1.mode<n:=by
 by_cases h:p
 ·rw[if_pos h];exact h1 h
 ·rw[if_neg h];exact h2 h
theorem tOnce_rk:(b.tOnce t).2.2=true→rkT (b.tOnce t).1.mode<rkT b.mode:=by
 have hT:(b.tTab t).2.2=true→rkT (b.tTab t).1.mode<rkT b.mode:=by
  unfold BuD.tTab
  exact rk_ite2 (fun _ h=>by cases h) fun _ h=>by cases h
 unfold BuD.tOnce
 refine rk_ite2 (fun _ h=>by cases h) fun _=>rk_ite2 (fun m0=>rk_ite2 (fun _ h=>by cases h) fun _ _=> ?_) fun m0=>rk_ite2 (fun m1=>rk_ite2 (fun _ h=>by cases h) fun _ _=> ?_) fun m1=>rk_ite2 (fun m2=>rk_ite2 (fun _ h=>by cases h) fun _ _=> ?_) fun m2=>rk_ite2 (fun m3=>rk_ite2 (fun _ h=>by cases h) fun _ _=> ?_) fun m3=>rk_ite2 (fun _ h=>by cases h) fun m4=>rk_ite2 (fun _ h=>by cases h) fun m5=>rk_ite2 (fun _=>hT) fun m6=>rk_ite2 (fun _ h=>by cases h) fun m7=>rk_ite2 (fun m8=>rk_ite2 (fun _ h=>by cases h) fun _=>rk_ite2 (fun _ h=>by cases h) fun _ _=> ?_) fun m8=>rk_ite2 (fun _=>hT) fun m9=>rk_ite2 (fun _=>hT) fun mA=>rk_ite2 (fun _ h=>by cases h) fun mB=>rk_ite2 (fun _ h=>by cases h) fun _ _=> ?_
 ·show rkT ((b.goto 1).ins (⟨#[104,116,109,108]⟩:ByteArray) []).mode<_
  rw[mo_ins,m0]
  exact(by decide:rkT 1<rkT 0)
 ·show rkT ((b.goto 2).ins (⟨#[104,101,97,100]⟩:ByteArray) []).mode<_
  rw[mo_ins,m1]
  exact(by decide:rkT 2<rkT 1)
 ·rw[m2]
  exact(by decide:rkT 3<rkT 2)
 ·rw[m3]
  exact(by decide:rkT 4<rkT 3)
 ·rw[m8]
  exact(by decide:rkT 6<rkT 8)
 ·have h1:rkT b.mode=1:=by
   unfold rkT
   rw[if_neg m0,if_neg m1,if_neg m2,if_neg (by omega),if_neg (by omega)]
  rw[h1]
  exact(by decide:rkT 4<1)
theorem run_err (h:b.err≠0) (n:Nat) (t:ByteArray):b.tRun n t=b:=by
 cases n with
 |zero=>rfl
 |succ n=>rw[BuD.tRun,if_neg h]
theorem run_fuel: ∀(k n n':Nat) (b:BuD) (t:ByteArray),rkT b.mode≤k→k<n→k<n'→b.tRun n t=b.tRun n' t
 |k,n+1,n'+1,b,t,hk,h1,h2=>by
  rw[BuD.tRun,BuD.tRun]
  by_cases he:b.err=0
  ·rw[if_pos he,if_pos he]
   by_cases hq:(b.tOnce t).2.2=true
   ·rw[if_pos hq,if_pos hq]
    have hr:=tOnce_rk hq
    match k,hk,h1,h2 with
    |0,hk,_,_=>omega
    |k+1,hk,h1,h2=>exact run_fuel k n n' _ _ (by omega) (by omega) (by omega)
   ·rw[if_neg hq,if_neg hq]
  ·rw[if_neg he,if_neg he]
 |_,0,_,_,_,_,h1,_=>absurd h1 (by omega)
 |_,_+1,0,_,_,_,_,h2=>absurd h2 (by omega)
theorem cut_run: ∀(k n n':Nat) (b:BuD) (u v:ByteArray),rkT b.mode≤k→k<n→k<n'→(WC b∨W8 b)→u.size≠0→v.size≠0→b.err=0 →
 ((b.tRun n u).tRun n' v).err=(b.tRun n (u++v)).err∧(((b.tRun n u).tRun n' v).err=0→(b.tRun n u).tRun n' v=b.tRun n (u++v))
 |_,0,_,_,_,_,_,h1,_,_,_,_,_=>absurd h1 (by omega)
 |_,_+1,0,_,_,_,_,_,h2,_,_,_,_=>absurd h2 (by omega)
 |k,n+1,n'+1,b,u,v,hk,h1,h2,h,hu,hv,he=>by
  rcases cut_once h hu hv he with⟨x,w,e1,e2,e3⟩|⟨d,w,hw,e1,e2⟩
  ·have r1:b.tRun (n+1) u=x:=by
    rw[BuD.tRun,if_pos he,e1]
    exact if_neg (show ¬(false=true) by decide)
   have r2:b.tRun (n+1) (u++v)=if(b.tOnce (u++v)).2.2 then(b.tOnce (u++v)).1.tRun n (b.tOnce (u++v)).2.1 else(b.tOnce (u++v)).1:=by rw[BuD.tRun,if_pos he]
   rw[r1]
   by_cases hx:x.err=0
   ·obtain⟨q1,q2,q3,q4⟩:=e3 hx
    have r3:x.tRun (n'+1) v=b.tRun (n+1) (u++v):=by
     rw[BuD.tRun,if_pos hx,r2,q3]
     by_cases hq:(b.tOnce (u++v)).2.2=true
     ·rw[if_pos hq,if_pos hq,q2,q4 (q3.trans hq)]
      have hr:=tOnce_rk hq
      exact run_fuel (k-1) n' n _ _ (by omega) (by omega) (by omega)
     ·rw[if_neg hq,if_neg hq,q2]
    rw[r3]
    exact⟨rfl,fun _=>rfl⟩
   ·rw[run_err hx]
    refine⟨?_,fun h=>absurd h hx⟩
    have h2:=e2 hx
    rw[r2]
    split
    ·rw[run_err (by rw[h2];exact hx)];exact h2.symm
    ·exact h2.symm
  ·have r1:b.tRun (n+1) u=d.tRun n w:=by
    rw[BuD.tRun,if_pos he,e1]
    exact if_pos rfl
   have r2:b.tRun (n+1) (u++v)=d.tRun n (w++v):=by
    rw[BuD.tRun,if_pos he,e2]
    exact if_pos rfl
   have hr:rkT d.mode<rkT b.mode:=by
    have:=tOnce_rk (b:=b) (t:=u) (by rw[e1])
    rw[e1]at this
    exact this
   rw[r1,r2]
   by_cases hd:d.err=0
   ·have hj:=j_once h (tM ⟨#[]⟩ [] false u) (fun hk=>absurd rfl hk)
    rw[once_t,e1]at hj
    match k,hk,h1,h2 with
    |0,hk,_,_=>omega
    |k+1,hk,h1,h2=>exact cut_run k n (n'+1) d w v (by omega) (by omega) (by omega) (hj hd) hw hv hd
   ·rw[run_err hd,run_err hd,run_err hd]
    exact⟨rfl,fun h=>absurd h hd⟩
def rn (b:BuD):Int×ByteArray×Bool:=(b.raw,b.name,b.skip)
theorem rn_keep (b:BuD) (e:Int):rn (b.keep e)=rn b:=by
 obtain⟨-, -, -, -, -,h1,h2,h3, -⟩:=b.keep_all e
 unfold rn
 rw[h1,h2,h3]
theorem rn_put (b:BuD) (t:ByteArray):rn (b.putText t)=rn b:=rn_keep _ _
theorem rn_ins (b:BuD) (nm:ByteArray) (l:List Pair):rn (b.ins nm l)=rn b:=rn_keep _ _
theorem rn_restore (b:BuD):rn b.restore=rn b:=rn_keep _ _
theorem rn_ite {p:Prop} [Decidable p] {r q:BuD} {n:Int×ByteArray×Bool} (h1:rn r=n) (h2:rn q=n):rn (if p then r else q)=n:=by
 by_cases h:p
 ·rw[if_pos h];exact h1
 ·rw[if_neg h];exact h2
theorem rn_ite1 {α:Type} {p:Prop} [Decidable p] {r q:BuD×α} {n:Int×ByteArray×Bool} (h1:rn r.1=n) (h2:rn q.1=n):rn (if p then r else q).1=n:=by
 by_cases h:p
 ·rw[if_pos h];exact h1
 ·rw[if_neg h];exact h2
theorem rn_once (b:BuD) (t:ByteArray):rn (b.tOnce t).1=rn b:=by
 have hb:rn (b.blk t)=rn b:=rn_ite rfl (rn_put b _)
 have hr:rn (b.blr t)=rn b:=rn_ite rfl ((rn_put _ _).trans (rn_restore b))
 have hT:rn (b.tTab t).1=rn b:=rn_ite1 rfl ((rn_put _ _).trans (rn_restore (b.onB true)))
 have hB:rn (b.restore.putText t)=rn b:=(rn_put _ _).trans (rn_restore b)
 unfold BuD.tOnce
 exact rn_ite1 (rn_put b t) (rn_ite1 (rn_ite1 rfl (rn_ins (b.goto 1) _ _)) (rn_ite1 (rn_ite1 rfl (rn_ins (b.goto 2) _ _)) (rn_ite1 (rn_ite1 hb hb) (rn_ite1 (rn_ite1 hb ((rn_ins (b.blk t) _ _).trans hb)) (rn_ite1 hB (rn_ite1 (rn_put b t) (rn_ite1 hT (rn_ite1 hB (rn_ite1 (rn_ite1 hb (rn_ite1 hb hb)) (rn_ite1 hT (rn_ite1 hT (rn_ite1 hB (rn_ite1 hr hr)))))))))))))
theorem rn_run: ∀(n:Nat) (b:BuD) (t:ByteArray),rn (b.tRun n t)=rn b
 |0,_,_=>rfl
 |n+1,b,t=>by
  rw[BuD.tRun]
  exact rn_ite (rn_ite ((rn_run n _ _).trans (rn_once b t)) (rn_once b t)) rfl
theorem run_ready (b:BuD) (n:Nat) (t:ByteArray):(b.ready.tRun n t).ready=b.ready.tRun n t∧(b.ready.tRun n t).skip=false:=by
 have h:=rn_run n b.ready t
 unfold rn at h
 rw[Prod.mk.injEq,Prod.mk.injEq]at h
 exact⟨ready_same h.1 h.2.1 h.2.2,h.2.2⟩
theorem DoF_text (hs:b.skip=false) (nm:ByteArray) (al:List Pair) (sf:Bool) (t:ByteArray):b.DoF (tM nm al sf t)=if b.err=0 then(if t.toList.isEmpty then b.ready else b.ready.tRun 9000 t)else b:=by
 have h1:b.headM (tM nm al sf t)=tM nm al sf t:=by unfold BuD.headM;rw[hs];rfl
 unfold BuD.DoF BuD.doF
 rw[h1,again_t,if_neg (show ¬((tM nm al sf t).kind<1∨6<(tM nm al sf t).kind)from(by decide: ¬((1:Int)<1∨(6:Int)<1))),if_pos (show(tM nm al sf t).kind=1 from rfl)]
 rfl
structure Eq3 (x y:BuD):Prop where
 err:x.err=y.err
 on:x.err=0→x.ready=y.ready∧x.skip=false∧y.skip=false
theorem Eq3.same (h:x.err=0→x.skip=false):Eq3 x x:=⟨rfl,fun he=>⟨rfl,h he,h he⟩⟩
theorem Eq3.trans {z:BuD} (h:Eq3 x y) (k:Eq3 y z):Eq3 x z:=⟨h.err.trans k.err,fun he=>⟨(h.on he).1.trans (k.on (h.err▸he)).1,(h.on he).2.1,(k.on (h.err▸he)).2.2⟩⟩
theorem DoF_skip (hs:b.skip=false) (hm:okN m.name):(b.DoF m).skip=false:=by
 have hw: ∀(c:BuD) (m:BMark),c.skip=false→okN m.name→(BuD.again 9000 c m).skip=false:=fun c m hc hm=>by
  have h3:=sw_again (k:=true) 9000 c m (fun e=>by cases e) hm
  unfold sw at h3
  rw[Prod.mk.injEq]at h3
  exact h3.1.trans hc
 have hh:okN (b.headM m).name:=by
  unfold BuD.headM
  split <;>exact hm
 unfold BuD.DoF BuD.doF
 split
 ·split
  ·exact hs
  ·split
   ·split
    ·rfl
    ·exact hw _ _ rfl hh
   ·split
    ·exact(flush_sw b.ready).1
    ·exact hw _ _ (flush_sw b.ready).1 hm
 ·exact hs
theorem doF_ready (h1:x.ready=y.ready) (h2:x.skip=false) (h3:y.skip=false) (hk: ¬(m.kind<1∨6<m.kind)):x.doF m=y.doF m:=by
 have e1: ∀c:BuD,c.skip=false→c.headM m=m:=fun c hc=>by unfold BuD.headM;rw[hc];rfl
 unfold BuD.doF
 rw[if_neg hk,if_neg hk,e1 x h2,e1 y h3,h1]
theorem Eq3.DoF (h:Eq3 x y) (hm:okN m.name):Eq3 (x.DoF m) (y.DoF m):=by
 by_cases he:x.err=0
 ·obtain⟨h1,h2,h3⟩:=h.on he
  by_cases hk:m.kind<1∨6<m.kind
  ·have e: ∀c:BuD,c.DoF m=c:=fun c=>by
    unfold BuD.DoF BuD.doF
    rw[if_pos hk]
    exact ite_self _
   rw[e,e]
   exact h
  ·have e:x.DoF m=y.DoF m:=by
    unfold BuD.DoF
    rw[if_pos he,if_pos (h.err▸he),doF_ready h1 h2 h3 hk]
   rw[e]
   exact .same fun _=>DoF_skip h3 hm
 ·rw[DoF_err he,DoF_err (fun q=>he (h.err.trans q))]
  exact h
theorem DoF_cut (hj:J8 b) (hs:b.skip=false) (nm nm':ByteArray) (al al':List Pair) (sf sf':Bool) (u v:ByteArray):Eq3 ((b.DoF (tM nm al sf u)).DoF (tM nm' al' sf' v)) (b.DoF (tM nm' al' sf' (u++v))):=by
 by_cases he:b.err=0
 ·have hr:b.ready.ready=b.ready:=rfl
  have hz: ∀w:ByteArray,w.toList.isEmpty=true→w=⟨#[]⟩:=fun w hw=>by
   apply toList_inj
   rw[List.isEmpty_iff.1 hw]
   kernel_rfl
  rw[DoF_text hs,DoF_text hs,if_pos he,if_pos he]
  by_cases hu:u.toList.isEmpty=true
  ·rw[if_pos hu,hz u hu,show(⟨#[]⟩:ByteArray)++v=v by apply toList_inj;rw[toL_app,show(ByteArray.toList ⟨#[]⟩)= [] by kernel_rfl,List.nil_append],DoF_text (b:=b.ready) rfl,if_pos (show b.ready.err=0 from he),hr]
   refine .same fun _=> ?_
   split
   ·rfl
   ·exact(run_ready b 9000 v).2
  ·rw[if_neg hu]
   obtain⟨k1,k2⟩:=run_ready b 9000 u
   have hu':u.size≠0:=size_ne (by simpa using hu)
   rw[DoF_text k2,k1]
   by_cases hv:v.toList.isEmpty=true
   ·rw[if_pos hv,hz v hv,app_nil,if_neg hu,ite_self]
    exact .same fun _=>k2
   ·have hv':v.size≠0:=size_ne (by simpa using hv)
    have huv: ¬(u++v).toList.isEmpty=true:=by
     rw[toL_app]
     intro hq
     rw[List.isEmpty_iff,List.append_eq_nil_iff]at hq
     rw[hq.1]at hu
     exact hu rfl
    rw[if_neg hv,if_neg huv]
    obtain⟨c1,c2⟩:=cut_run 4 9000 9000 b.ready u v (rkT_le _) (by decide) (by decide) (hj.ready he) hu' hv' he
    have hx:(if(b.ready.tRun 9000 u).err=0 then(b.ready.tRun 9000 u).tRun 9000 v else b.ready.tRun 9000 u)=(b.ready.tRun 9000 u).tRun 9000 v:=by
     split
     ·rfl
     ·rename_i hq
      rw[run_err hq]
    rw[hx]
    refine⟨c1,fun hq=> ?_⟩
    rw[c2 hq]
    exact⟨rfl,(run_ready b 9000 (u++v)).2,(run_ready b 9000 (u++v)).2⟩
 ·rw[DoF_err he,DoF_err he,DoF_err he]
  exact⟨rfl,fun q=>absurd q he⟩
end
structure Cuts (own odd:List BMark):Prop where
 eq:Eq3 (newB.runs odd) (newB.runs own)
 j:J8 (newB.runs own)
theorem newB_wc:WC newB:=⟨⟨by decide,(fun x hx=>by cases hx),(fun x hx=>by cases hx)⟩,(none_oke (by decide) (Int.le_refl 0)).okc,by decide,by decide⟩
theorem Cuts.nil:Cuts [] []:=⟨.same fun _=>rfl,newB_wc.j⟩
theorem j_DoF {b:BuD} {m:BMark} (h:J8 b) (hm:okN m.name):J8 (b.DoF m):=by
 unfold BuD.DoF
 split
 ·exact j_doF h hm
 ·exact h
theorem Cuts.same {own odd:List BMark} (h:Cuts own odd) {m:BMark} (hm:okN m.name):Cuts (own++ [m]) (odd++ [m]):=by
 refine⟨?_,?_⟩
 ·rw[runs_snoc,runs_snoc]
  exact h.eq.DoF hm
 ·rw[runs_snoc]
  exact j_DoF h.j hm
theorem okN_none:okN ⟨#[]⟩:=⟨by kernel_rfl,by kernel_rfl,by kernel_rfl⟩
theorem Cuts.two {own odd:List BMark} (h:Cuts own odd) {nm:ByteArray} {al:List Pair} {sf:Bool} (u v:ByteArray) (hm:okN nm):Cuts (own++ [tM nm al sf (u++v)]) (odd++ [tM ⟨#[]⟩ [] false u]++ [tM nm al sf v]):=by
 refine⟨?_,?_⟩
 ·rw[runs_snoc,runs_snoc,runs_snoc]
  refine((h.eq.DoF (m:=tM ⟨#[]⟩ [] false u) okN_none).DoF (m:=tM nm al sf v) hm).trans ?_
  by_cases he:(newB.runs own).err=0
  ·exact DoF_cut h.j (h.eq.on (h.eq.err.trans he)).2.2 _ _ _ _ _ _ u v
  ·rw[DoF_err he,DoF_err he,DoF_err he]
   exact⟨rfl,fun q=>absurd q he⟩
 ·rw[runs_snoc]
  exact j_DoF h.j hm
theorem Cuts.ends {own odd:List BMark} (h:Cuts own odd):(newB.runs odd).endN=(newB.runs own).endN∧(newB.runs odd).endE=(newB.runs own).endE:=by
 have h1:=h.eq
 generalize newB.runs odd=x at h1 ⊢
 generalize newB.runs own=y at h1 ⊢
 by_cases he:x.err=0
 ·obtain⟨q1,q2,q3⟩:=h1.on he
  have e:x.endB=y.endB:=by
   unfold BuD.endB BuD.DoF
   rw[if_pos he,if_pos (h1.err▸he),doF_ready q1 q2 q3 (show ¬(eofM.kind<1∨6<eofM.kind) by decide)]
  have e2:x.endE=y.endE:=by unfold BuD.endE;rw[e]
  exact⟨by unfold BuD.endN;rw[e,e2],e2⟩
 ·have hy:y.err≠0:=fun q=>he (h1.err.trans q)
  have hE: ∀c:BuD,c.err≠0→c.endE=c.err∧c.endN=emptyNT:=fun c hc=>by
   have q:c.endB=c:=DoF_err hc
   have q2:c.endE=c.err:=by unfold BuD.endE;rw[q,if_pos hc]
   exact⟨q2,by unfold BuD.endN;rw[q2,if_neg hc]⟩
  rw[(hE x he).1,(hE x he).2,(hE y hy).1,(hE y hy).2]
  exact⟨rfl,h1.err⟩
end Go.Proofs.YteckmpcgdgknoaaGreatDoor
