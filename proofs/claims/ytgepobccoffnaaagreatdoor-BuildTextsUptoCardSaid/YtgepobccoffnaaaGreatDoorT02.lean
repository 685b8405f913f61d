/- Texts joined for a claim: StkAB, OpenABC: plain laws and contracts. No conditions beyond those that each lemma types. -/
import Derived.Test.YtgepobccoffnaaaGreatDoorT01
import Derived.BigQuiet
import Derived.Deep.AppendLies
import Derived.Deep.DeepMust
import Derived.Deep.QuietTactic
import Derived.Test.YtgepobccoffnaaaGreatDoorRows
set_option linter.unusedVariables false
set_option linter.unusedSimpArgs false
set_option maxRecDepth 100000
set_option maxHeartbeats 8000000
section
namespace Go.Proofs.YtgepobccoffnaaaGreatDoor
open Go.RowKit Mem
theorem stk_int:(Tryz.prog.info? 3).map (fun i=>(i.zero,i.size,i.bytes))=some (some (.int .i64 0),1,8):=by kernel_rfl
theorem own_slice {w:World} {base:Nat} {e:TypeId} {v:Value} {n:Nat} {xs:List Value} (h:w.ownsRow base e 1 v n xs): ∃a c,v= .slice a n c∧At w a xs∧(a=none→c=0):=by
 rcases h.2 with⟨rfl,rfl⟩|⟨g,cap,cur,rfl,_⟩
 ·have hx:xs= []:=List.eq_nil_of_length_eq_zero (by have:=h.1;omega)
  subst hx
  exact⟨none,0,rfl,At.nil _ _,fun _=>rfl⟩
 ·exact⟨_,_,rfl,(own_row h).at,fun h=>by cases h⟩
def OwnI (w:World) (v:Value) (gs:Option Nat) (l:List Int):Prop:=w.ownsRow 0 3 1 v l.length (intsV l)∧v.ownBlock=gs
theorem OwnI.lt {w:World} {v:Value} {gs:Option Nat} {l:List Int} (h:OwnI w v gs l): ∀k,gs=some k→k<w.heap.size:=fun k hk=>(h.1.lt k (h.2.trans hk)).2
theorem OwnI.kept {w w':World} {v:Value} {gs:Option Nat} {l:List Int} (h:OwnI w v gs l) (hk: ∀k,gs=some k→w'.heap[k]?=w.heap[k]?):OwnI w' v gs l:=⟨own_kept h.1 fun g hg=>hk g (h.2.symm.trans hg),h.2⟩
theorem OwnI.nil (w:World):OwnI w (.slice none 0 0) none []:=⟨World.ownsRow_nil _ _ _ _,rfl⟩
def StkO (w:World) (sb tb:Nat) (gs:Option Nat) (l:List Int):Prop :=
 ∃v,w.heap[sb]?=some (.cells #[.pointer (some ⟨tb,0,none⟩),v] 97 (0,0))∧OwnI w v gs l∧gs≠some sb
def SB (sb:Nat) (gs:Option Nat):Nat→Prop:=fun k=>k=sb∨gs=some k
section
variable {w w':World} {sb tb:Nat} {gs:Option Nat} {l:List Int}
theorem StkO.lt (h:StkO w sb tb gs l): ∀k,SB sb gs k→k<w.heap.size:=by
 obtain⟨v,h1,h2,_⟩:=h
 rintro k (rfl|hk)
 ·exact row_lt h1
 ·exact h2.lt k hk
theorem StkO.kept {F:Nat→Prop} (h:StkO w sb tb gs l) (hk:Keeps F w w') (hF: ∀k,SB sb gs k→ ¬F k):StkO w' sb tb gs l:=by
 have hlt:=h.lt
 obtain⟨v,h1,h2,h3⟩:=h
 exact⟨v,(hk.block sb (hlt sb (.inl rfl)) (hF sb (.inl rfl))).trans h1,h2.kept fun k hk'=>hk.block k (hlt k (.inr hk')) (hF k (.inr hk')),h3⟩
theorem StkO.below (h:StkO w sb tb gs l) (hb:Below w.heap.size w w'):StkO w' sb tb gs l:=h.kept (F:=fun _=>False) (Keeps.ofBelow hb) fun _ _ h=>h
theorem StkO.cells (h:StkO w sb tb gs l): ∃a c,w.cell? ⟨sb,0,none⟩=some (.pointer (some ⟨tb,0,none⟩))∧w.cell? ⟨sb,1,none⟩=some (.slice a l.length c)∧At w a (intsV l)∧OwnI w (.slice a l.length c) gs l∧w.frozen? ⟨sb,1,none⟩=false ∧
 w.heap[sb]?=some (.cells #[.pointer (some ⟨tb,0,none⟩),.slice a l.length c] 97 (0,0))∧(a=none→c=0)∧gs≠some sb:=by
 obtain⟨v,h1,h2,h3⟩:=h
 obtain⟨a,c,rfl,hat,hn⟩:=own_slice h2.1
 have hr:Row w sb [.pointer (some ⟨tb,0,none⟩),.slice a l.length c]:=⟨_,_,_,_,h1,rfl,.inr rfl⟩
 exact⟨a,c,hr.cell (j:=0) rfl,hr.cell (j:=1) rfl,hat,h2,hr.frozen (j:=1) (by simp),h1,hn,h3⟩
end
theorem stk_drewN (w:World) (n:Nat):Below w.heap.size w (w.drewN n):=⟨rfl,rfl,rfl,Nat.le_refl _,fun _ _=>rfl⟩
def rfind:List Int→Int→Int
 | [],_=> -1
 |x::r,n=>if 0≤rfind r n then rfind r n+1 else if x=n then 0 else -1
theorem rfind_spec: ∀(l:List Int) (n:Int), -1≤rfind l n∧rfind l n<l.length∧(∀(k:Nat) (h:k<l.length),rfind l n<k→l[k]≠n)∧ ∀(k:Nat) (h:k<l.length),rfind l n=k→l[k]=n
 | [],n=>by simp[rfind]
 |x::r,n=>by
  obtain⟨h1,h2,h3,h4⟩:=rfind_spec r n
  unfold rfind
  by_cases hr:0≤rfind r n
  ·rw[if_pos hr]
   refine⟨by omega,by simp only[List.length_cons];omega,?_,?_⟩
   ·intro k hk hlt
    cases k with
    |zero=>exact absurd hlt (by simp;omega)
    |succ k=>exact h3 k (by simpa using hk) (by omega)
   ·intro k hk he
    cases k with
    |zero=>exact absurd he (by simp;omega)
    |succ k=>exact h4 k (by simpa using hk) (by omega)
  ·rw[if_neg hr]
   by_cases hx:x=n
   ·rw[if_pos hx]
    refine⟨by omega,by simp,?_,?_⟩
    ·intro k hk hlt
     cases k with
     |zero=>exact absurd hlt (by simp)
     |succ k=>exact h3 k (by simpa using hk) (by omega)
    ·intro k hk he
     cases k with
     |zero=>exact hx
     |succ k=>exact absurd he (by omega)
   ·rw[if_neg hx]
    refine⟨by omega,by simp only[List.length_cons];omega,?_,?_⟩
    ·intro k hk hlt
     cases k with
     |zero=>exact hx
     |succ k=>exact h3 k (by simpa using hk) (by omega)
    ·intro k hk he
     exact absurd he (by omega)
theorem rfind_eq {l:List Int} {n i:Int} (h1: -1≤i) (h2:i<l.length) (h3: ∀(k:Nat) (h:k<l.length),i<k→l[k]≠n) (h4: ∀(k:Nat) (h:k<l.length),i=k→l[k]=n):rfind l n=i:=by
 obtain⟨q1,q2,q3,q4⟩:=rfind_spec l n
 rcases Int.lt_trichotomy (rfind l n) i with h|h|h
 ·have hk:i=(i.toNat:Int):=by omega
  exact absurd (h4 i.toNat (by omega) hk) (q3 i.toNat (by omega) (by omega))
 ·exact h
 ·have hk:rfind l n=((rfind l n).toNat:Int):=by omega
  exact absurd (q4 (rfind l n).toNat (by omega) hk) (h3 (rfind l n).toNat (by omega) (by omega))
section
variable (w:World) (sb tb:Nat) (gs:Option Nat) (l:List Int)
theorem stk_new:Calls Tryz.prog 28 #[.pointer (some ⟨tb,0,none⟩)] w fun e w'=>e= .returned (.pointer (some ⟨w.heap.size,0,none⟩))∧StkO w' w.heap.size tb none []∧Below w.heap.size w w'∧w.heap.size<w'.heap.size:=by
 go_enter Tryz.func28,Tryz.ntmps28
 go_wp2
 go_ret
 exact⟨rfl,⟨.slice none 0 0,heap_alloc_new _ _,OwnI.nil _,by simp⟩,(Below.refl _ _).alloc (Nat.le_refl _) _,by simp⟩
theorem stk_all (h:StkO w sb tb gs l) (hl:l.length≤1048576):Calls Tryz.prog 105 #[.pointer (some ⟨sb,0,none⟩)] w fun e w'=> ∃v,e= .returned v∧w'.ownsRow w.heap.size 3 1 v l.length (intsV l)∧Below w.heap.size w w':=by
 have hlt:=h.lt sb (.inl rfl)
 obtain⟨a,c,c0,c1,hat,hown,_,_,hc0,_⟩:=h.cells
 have HK:=Lib.hid (hat.below ((Below.refl _ _).alloc (Nat.le_refl _) (.cells #[] 3)))
 have HE:Hid ((w.alloc (.cells #[] 3)).ownsRow w.heap.size 3 1 (.slice (some ⟨w.heap.size,0,none⟩) 0 0) 0 []):=World.ownsRow_lit w #[] 0 (Nat.le_refl _) (Nat.zero_le _) rfl
 have H3:=Lib.hid hc0
 obtain⟨i0,hi,hz0,hz1,hz2⟩:=info_parts stk_int
 have b0:0+l.length≤maxLen:=by unfold maxLen;omega
 have b1:(0+l.length)*8≤140737488355328:=by omega
 have HNL:=Lib.hid (show(intsV l).length=l.length*1 by rw[intsV_length,Nat.mul_one])
 have HZ:Hid (w.heap.size≤(w.alloc (.cells #[] 3)).heap.size):=by show _≤_;simp
 clear h hat hown hc0
 go_enter Tryz.func105,Tryz.ntmps105
 go_wp2_with (at_builtin;refine wpList_append_slice _ rfl _ _ 75 rfl w.heap.size 3 i0 _ 1 8 Tryz.underlying75 hi hz0 hz1 hz2 rfl (by decide) _ 0 [] rfl HE.out a l.length c (intsV l) rfl HNL.out H3.out HK.out (intsV_one l) b0 b1 HZ.out ?_;intro v2 w2 hown2 hgr2;simp only[Nat.zero_add,List.nil_append]at hown2;have HO2:=Lib.hid hown2;have HG2:=Lib.hid hgr2;clear hown2 hgr2)
 go_ret
 exact⟨_,rfl,HO2.out,((Below.refl _ _).alloc (Nat.le_refl _) _).grown HG2.out HZ.out (fun b h=>(HE.out.lt b h).1)⟩
theorem stk_top (h:StkO w sb tb gs l) (hl:l.length≤1048576):Calls Tryz.prog 50 #[.pointer (some ⟨sb,0,none⟩)] w fun e w'=>e= .returned (.int .i64 (l.getLast?.getD 0))∧ ∃q,w'=w.drewN q:=by
 obtain⟨a,c,c0,c1,hat,hown,_⟩:=h.cells
 rcases(show l= []∨ ∃r x,l=r++ [x]from(List.eq_nil_or_concat l).imp id fun⟨r,x,h⟩=>⟨r,x,by rw[h,List.concat_eq_append]⟩)with rfl|⟨r,x,rfl⟩
 ·clear h hat hown
  go_enter Tryz.func50,Tryz.ntmps50
  go_wp2_with fail
  go_ret
  exact⟨rfl,0,rfl⟩
 ·obtain⟨bb,o,rfl⟩:=hat.some_of (by simp[intsV])
  have hx:=hat.get (j:=r.length) (u:= .int .i64 x) (by rw[intsV_append];simp[intsV])
  have hlen:(r++ [x]).length=r.length+1:=by simp
  have hlast:(r++ [x]).getLast?.getD 0=x:=by simp
  rw[hlen]at c1 hl
  rw[hlast]
  generalize r.length=n at *
  have q0:((n:Int)+1==0)=false:=by rw[beq_eq_false_iff_ne];omega
  clear h hat hown hlen hlast
  go_enter Tryz.func50,Tryz.ntmps50
  go_wp2_with fail
  go_quiet (fail)
  go_wp2
  go_ret
  exact⟨rfl,_,rfl⟩
theorem stk_find (h:StkO w sb tb gs l) (n:Int) (hl:l.length≤1048576):Calls Tryz.prog 160 #[.pointer (some ⟨sb,0,none⟩),.int .i64 n] w fun e w'=>e= .returned (.int .i64 (rfind l n))∧w=w':=by
 obtain⟨a,c,c0,c1,hat,_⟩:=h.cells
 have HA:=Lib.hid hat
 clear h hat
 go_enter Tryz.func160,Tryz.ntmps160
 go_wp2_with fail
 go_loop [5] (fun q=> ∃k:Nat,k≤l.length∧q= .int .i64 ((k:Int)-1)∧ ∀(j:Nat) (h:j<l.length),k≤j→l[j]≠n) (fun q=>(intOf q+1).toNat)
 case atStart=>exact⟨l.length,Nat.le_refl _,rfl,fun j h h'=>absurd h (by omega)⟩
 case round =>
  obtain⟨k,hk,rfl,hno⟩:=hrel
  have HN:=Lib.hid hno
  clear hno
  cases k with
  |zero =>
   go_wp2_with fail
   go_ret
   exact⟨ret_int (rfind_eq (by omega) (by omega) (fun j h _=>HN.out j h (by omega)) (fun j h e=>absurd e (by omega))).symm,rfl⟩
  |succ k =>
   obtain⟨bb,o,rfl⟩:=HA.out.some_of (by intro h;have:=congrArg List.length h;rw[intsV_length,List.length_nil]at this;omega)
   have hx:=HA.out.get (intsV_get l k (by omega))
   have e1:((k+1:Nat):Int)-1=(k:Int):=by omega
   rw[e1]
   by_cases hq:l[k]=n
   ·have q0:(l[k]==n)=true:=by rw[beq_iff_eq];exact hq
    have HQ:=Lib.hid hq
    clear hq
    go_wp2_with fail
    go_ret
    exact⟨ret_int (rfind_eq (by omega) (by omega) (fun j h hj=>HN.out j h (by omega)) (fun j h e=>(by obtain rfl:k=j:=(by omega);exact HQ.out))).symm,rfl⟩
   ·have q0:(l[k]==n)=false:=by rw[beq_eq_false_iff_ne];exact hq
    have HQ:=Lib.hid hq
    clear hq
    go_wp2_with fail
    go_round
    case rel=>exact⟨k,by omega,by go_num,fun j h hj=>if h':k<j then HN.out j h h' else(by obtain rfl:k=j:=(by omega);exact HQ.out)⟩
    case measure=>simp[intOf]
end
end Go.Proofs.YtgepobccoffnaaaGreatDoor
namespace Go.Proofs.YtgepobccoffnaaaGreatDoor
open Go.RowKit Mem
theorem stk_grown {F:Nat→Prop} {a w w':World} {row:Option Nat} (h:Keeps F a w) (hg:w.grownBy w' row) (hr: ∀k,row=some k→F k∨a.heap.size≤k):Keeps F a w' :=
 ⟨hg.os.trans h.os,hg.tape.trans h.tape,hg.output.trans h.output,Nat.le_trans h.size hg.size,fun k hk hF=>(hg.block k (Nat.lt_of_lt_of_le hk h.size) fun e=>by
  rcases hr k e.symm with h'|h'
  ·exact hF h'
  ·omega).trans (h.block k hk hF)⟩
section
variable (w:World) (sb tb:Nat) (gs:Option Nat) (l:List Int)
theorem stk_push (h:StkO w sb tb gs l) (n:Int) (hl:l.length≤1048576):Calls Tryz.prog 113 #[.pointer (some ⟨sb,0,none⟩),.int .i64 n] w fun e w' =>
 e= .returned (.tuple #[])∧ ∃g2,StkO w' sb tb (some g2) (l++ [n])∧(gs=some g2∨w.heap.size≤g2)∧Keeps (SB sb gs) w w':=by
 have hlt:=h.lt sb (.inl rfl)
 have hgl:=fun k hk=>h.lt k (.inr hk)
 obtain⟨a,c,c0,c1,hat,hown,_,hrow,_,hne⟩:=h.cells
 have d1:(w.alloc (.cells #[.int .i64 n] 3)).heap[sb]?=w.heap[sb]?:=heap_alloc_old w _ hlt
 have HQ:=Lib.hid (hown.1.alloc (.cells #[.int .i64 n] 3))
 have HB0:Hid ((Value.slice a l.length c).ownBlock=gs):=hown.2
 have HN:=Lib.hid (show At (w.alloc (.cells #[.int .i64 n] 3)) (some ⟨w.heap.size,0,none⟩) (intsV [n])from at_alloc rfl rfl)
 obtain⟨i0,hi,hz0,hz1,hz2⟩:=info_parts stk_int
 have b0:l.length+1≤maxLen:=by unfold maxLen;omega
 have b1:(l.length+1)*8≤140737488355328:=by omega
 have hsz:sb<(w.alloc (.cells #[.int .i64 n] 3)).heap.size:=by simp;omega
 have HR:=Lib.hid (d1.trans hrow)
 have HNE:Hid (some sb≠(Value.slice a l.length c).ownBlock):=Lib.hid (by rw[HB0.out];exact hne.symm)
 have HL:=Lib.hid hgl
 have HGS:=Lib.hid hne
 clear hrow hown hne hat d1 h hgl
 go_enter Tryz.func113,Tryz.ntmps113
 go_wp2_with (at_builtin;go_must (refine wpList_append_lies _ rfl _ _ 75 rfl 0 3 i0 _ 1 8 Tryz.underlying75 hi hz0 hz1 hz2 rfl (by decide) _ l.length (intsV l) rfl HQ.out ⟨w.heap.size,0,none⟩ 1 1 (intsV [n]) rfl rfl HN.out.news (intsV_one _) (by decide) b0 b1 (Nat.zero_le _) (w.heap.size+1) (by simp) ?_;intro g2 cap2 w2 hown2 hgr2 hat2 hlt2;have hb2:=(hgr2.block sb hsz HNE.out).trans HR.out;have HRR:=Lib.hid hb2;have s1:=Row.cell (xs:= [.pointer (some ⟨tb,0,none⟩),.slice a l.length c]) ⟨_,_,_,_,hb2,rfl,.inr rfl⟩ (j:=1) rfl;have f1:=Row.frozen (xs:= [.pointer (some ⟨tb,0,none⟩),.slice a l.length c]) ⟨_,_,_,_,hb2,rfl,.inr rfl⟩ (j:=1) (by simp);have HO2:=Lib.hid hown2;have HG2:=Lib.hid hgr2;have HA2:=Lib.hid hat2;clear hown2 hgr2 hb2 hat2))
 go_end0
 have hg2:gs=some g2∨w.heap.size+1=g2:=by
  rcases HA2.out with h|h
  ·exact .inl (HB0.out.symm.trans h)
  ·exact .inr h.symm
 have hne2:g2≠sb:=by
  rintro rfl
  rcases hg2 with h|h
  ·exact HGS.out h
  ·omega
 refine⟨rfl,g2,⟨.slice (some ⟨g2,0,none⟩) (l.length+1) cap2,Lib.heap_setCell_same (i:=1) HRR.out _,⟨?_,rfl⟩,by simpa using hne2⟩,hg2.imp id (fun h=>by omega),?_⟩
 ·have:=own_kept HO2.out (w':=w2.setCell ⟨sb,1,none⟩ (.slice (some ⟨g2,0,none⟩) (l.length+1) cap2)) fun b hb=>heap_setCell_other _ _ _ _ (by simp only[Value.ownBlock,Option.some.injEq]at hb;subst hb;exact hne2)
  rw[intsV_append,List.length_append]
  exact this
 ·exact(stk_grown ((Keeps.refl _ _).alloc _) HG2.out fun k hk=> .inl (.inr (HB0.out.symm.trans hk))).set (p:=⟨sb,1,none⟩) (.inl (.inl rfl)) _
theorem own_shrink {w:World} {base:Nat} {e:TypeId} {a:Option Addr} {n c:Nat} {xs:List Value} {y:Value} (h:w.ownsRow base e 1 (.slice a (n+1) c) (n+1) (xs++ [y])) (hx:xs.length=n):w.ownsRow base e 1 (.slice a n c) n xs:=by
 rcases h.2 with⟨he,_⟩|⟨g,cap,cur,he,hbg,hg,hnc,hcm,hcs,htake⟩
 ·cases he
 ·injection he with e1 _ e3
  subst e1
  subst e3
  refine⟨by simpa using hx,.inr ⟨g,c,cur,rfl,hbg,hg,by omega,hcm,hcs,?_⟩⟩
  have h1:cur.toList.take (n+1)=xs++ [y]:=by simpa using htake
  have h2:=congrArg (List.take n) h1
  rw[List.take_take,Nat.min_eq_left (Nat.le_succ n),←hx,List.take_left]at h2
  simpa[hx] using h2
theorem stk_pop (h:StkO w sb tb gs l) (hl:l.length≤1048576) :
 Calls Tryz.prog 64 #[.pointer (some ⟨sb,0,none⟩)] w fun e w'=>e= .returned (.int .i64 (l.getLast?.getD 0))∧StkO w' sb tb gs l.dropLast∧Keeps (SB sb gs) w w':=by
 have HT:=Lib.hid (stk_top w sb tb gs l h hl)
 have HS:=Lib.hid h
 rcases(show l= []∨ ∃r x,l=r++ [x]from(List.eq_nil_or_concat l).imp id fun⟨r,x,h⟩=>⟨r,x,by rw[h,List.concat_eq_append]⟩)with rfl|⟨r,x,rfl⟩
 ·obtain⟨a,c,c0,c1,_⟩:=h.cells
  clear h
  go_enter Tryz.func64,Tryz.ntmps64
  go_wp2_with (go_at_call 50;go_must (refine HT.out.mono ?_;rintro e w1 ⟨rfl,q,rfl⟩;have d1:=(show(w.drewN q).cell? ⟨sb,1,none⟩=some (.slice a 0 c)from c1)))
  go_ret
  exact⟨rfl,HS.out.below (stk_drewN _ _),Keeps.ofBelow (stk_drewN _ _)⟩
 ·have hlast:(r++ [x]).getLast?.getD 0=x:=by simp
  rw[hlast]at HT ⊢
  have hdrop:(r++ [x]).dropLast=r:=by simp
  rw[hdrop]
  have hlen:(r++ [x]).length=r.length+1:=by simp
  rw[hlen]at hl
  clear h hlast hdrop
  obtain⟨a,c,c0,c1,hat,hown,f1,hrow,hna,hne⟩:=HS.out.cells
  rw[hlen]at c1 hrow hown
  obtain⟨bb,o,rfl⟩:=hat.some_of (by simp[intsV])
  obtain⟨gg,cap,hv,_,hcn,hcm⟩:=own_some hown.1 (by rw[hlen];exact Nat.succ_pos _)
  injection hv with ea e2 ec
  clear e2
  injection ea with ea
  injection ea with ea1 ea2 ea3
  clear ea3
  subst ea1
  subst ea2
  subst ec
  rw[hlen]at hcn
  unfold maxLen at hcm
  have HOW:=Lib.hid hown
  have HR:=Lib.hid hrow
  have HNE:=Lib.hid hne
  clear hat hown hrow hna hne hlen
  have HXL:Hid ((intsV (r++ [x])).length=r.length+1):=Lib.hid (by rw[intsV_length];simp)
  have HLL:Hid ((r++ [x]).length=r.length+1):=Lib.hid (by simp)
  generalize hnn:r.length=n at *
  have q1:(n:Int)+1-1=(n:Int):=by omega
  go_enter Tryz.func64,Tryz.ntmps64
  go_wp2_with (go_at_call 50;go_must (refine HT.out.mono ?_;rintro e w1 ⟨rfl,q,hw1⟩;have c1':=(show w1.cell? ⟨sb,1,none⟩=some (.slice (some ⟨bb,0,none⟩) (n+1) c)from(by rw[hw1];exact c1));have f1':=(show w1.frozen? ⟨sb,1,none⟩=false from(by rw[hw1];exact f1));have d1:=(show w1.drew.cell? ⟨sb,1,none⟩=some (.slice (some ⟨bb,0,none⟩) (n+1) c)from c1');have g1:=(show w1.drew.frozen? ⟨sb,1,none⟩=false from f1');have HW:=Lib.hid hw1;clear hw1))
  go_region
  all_goals
   go_wp2
   go_ret
   obtain rfl:=HW.out
   have hgs:=HOW.out.2
   simp only[Value.ownBlock]at hgs
   have hne2:bb≠sb:=by rintro rfl;exact HNE.out hgs.symm
   have ho:=HOW.out.1
   rw[HLL.out,intsV_append]at ho
   have ho2:=own_shrink ho (by rw[intsV_length,hnn])
   refine⟨rfl,⟨.slice (some ⟨bb,0,none⟩) n c,Lib.heap_setCell_same (w:=w) (i:=1) HR.out _,⟨?_,by simpa[Value.ownBlock] using hgs⟩,HNE.out⟩,?_⟩
   ·rw[hnn]
    exact(own_kept ho2 (w':=w.setCell ⟨sb,1,none⟩ (.slice (some ⟨bb,0,none⟩) n c)) fun b hb=>heap_setCell_other _ _ _ _ (by simp only[Value.ownBlock,Option.some.injEq]at hb;subst hb;exact hne2))
   ·exact((Keeps.ofBelow (F:=SB sb gs) (stk_drewN w q)).set (p:=⟨sb,1,none⟩) (.inl (.inl rfl)) _).drew
end
end Go.Proofs.YtgepobccoffnaaaGreatDoor
namespace Go.Proofs.YtgepobccoffnaaaGreatDoor
open Go Go.RowKit Mem
def isW (l:List ByteArray) (word:ByteArray):Bool:=l.any fun x=>word.toList==x.toList
theorem isW_lit {names:List ByteArray} {x:ByteArray} {l:List UInt8} (h:(x.toList==l)=true) (hm:(names.any fun y=>l==y.toList)=true):isW names x=true:=by
 have:x.toList=l:=by simpa using h
 rw[isW,this]
 exact hm
theorem clash {x l:List UInt8} (h:(x==l)=true) (h':(x==l)=false) {p:Prop}:p:=by rw[h]at h';cases h'
end Go.Proofs.YtgepobccoffnaaaGreatDoor
end
section
namespace Go.Proofs.YtgepobccoffnaaaGreatDoor
open Mem
def isF (T:TreeD) (n:Int):Bool:=decide (1≤n)&&decide (n<(T.nodes.length:Int))
def elemF (T:TreeD) (n:Int):Bool:=isF T n&&((T.nodes[n.toNat]?).map (·.elem)).getD false
def holdsF (T:TreeD) (n:Int):Bool:=(n==0)||elemF T n
def idxF:List Int→Int→Int→Int
 | [],_,_=> -1
 |y::r,x,k=>if y=x then k else idxF r x (k+1)
def kidsF (T:TreeD) (n:Int):List Int:=((T.nodes[n.toNat]?).map (·.kids)).getD []
def parentF (T:TreeD) (n:Int):Int:=((T.nodes[n.toNat]?).map (·.parent)).getD (-1)
def placeF (T:TreeD) (parent before:Int):Int:=if before=0 then(kidsF T parent).length else idxF (kidsF T parent) before 0
theorem idxF_step (l:List Int) (x:Int) (k:Nat) (h:k<l.length) (hne:l[k]≠x) (z:Int):idxF (l.drop k) x z=idxF (l.drop (k+1)) x (z+1):=by
 rw[List.drop_eq_getElem_cons h,idxF,if_neg hne]
theorem idxF_hit (l:List Int) (x:Int) (k:Nat) (h:k<l.length) (he:l[k]=x) (z:Int):idxF (l.drop k) x z=z:=by
 rw[List.drop_eq_getElem_cons h,idxF,if_pos he]
theorem kidsF_of (T:TreeD) (i:Nat) (h:i<T.nodes.length):kidsF T i=T.nodes[i].kids:=by simp[kidsF,h]
theorem parentF_of (T:TreeD) (i:Nat) (h:i<T.nodes.length):parentF T i=T.nodes[i].parent:=by simp[parentF,h]
theorem elemF_of (T:TreeD) (i:Nat) (h1:1≤i) (h:i<T.nodes.length):elemF T i=T.nodes[i].elem:=by
 have h2:isF T i=true:=by simp[isF];omega
 rw[elemF,h2]
 simp[h]
inductive Reach (T:TreeD) (top:Int):Int→Prop
 |here:Reach T top top
 |up {n:Int}:0<n→Reach T top (parentF T n)→Reach T top n
theorem reach_low {T:TreeD} {top n:Int} (h:n≤0):Reach T top n↔n=top:=by
 constructor
 ·intro hr
  cases hr with
  |here=>rfl
  |up h0 _=>omega
 ·rintro rfl
  exact .here
theorem reach_up {T:TreeD} {top n:Int} (h:0<n) (hne:n≠top):Reach T top n↔Reach T top (parentF T n):=by
 constructor
 ·intro hr
  cases hr with
  |here=>exact absurd rfl hne
  |up _ hr=>exact hr
 ·exact .up h
def belowD (T:TreeD) (top:Int):Nat→Int→Bool
 |0,n=>n==top
 |k+1,n=>(n==top)||(decide (0<n)&&belowD T top k (parentF T n))
def belowF (T:TreeD) (n top:Int):Bool:=belowD T top (T.nodes.length+1) n
section
variable {T:TreeD} {top:Int}
theorem belowD_more: ∀(k:Nat) (n:Int),belowD T top k n=true→belowD T top (k+1) n=true
 |0,n,h=>by rw[belowD];rw[belowD]at h;rw[h];rfl
 |k+1,n,h=>by
  rw[belowD]
  rw[belowD,Bool.or_eq_true,Bool.and_eq_true]at h
  rcases h with h|⟨h1,h2⟩
  ·rw[h];rfl
  ·rw[h1,belowD_more k _ h2];simp
theorem belowD_le {j k:Nat} (hjk:j≤k) {n:Int} (h:belowD T top j n=true):belowD T top k n=true:=by
 induction hjk with
 |refl=>exact h
 |step _ ih=>exact belowD_more _ _ ih
theorem belowD_reach: ∀(k:Nat) (n:Int),belowD T top k n=true→Reach T top n
 |0,n,h=>by rw[belowD,beq_iff_eq]at h;rw[h];exact .here
 |k+1,n,h=>by
  rw[belowD,Bool.or_eq_true,Bool.and_eq_true]at h
  rcases h with h|⟨h1,h2⟩
  ·rw[beq_iff_eq]at h;rw[h];exact .here
  ·exact .up (by simpa using h1) (belowD_reach k _ h2)
theorem reach_belowD {n:Int} (h:Reach T top n): ∃k,belowD T top k n=true:=by
 induction h with
 |here=>exact⟨0,by rw[belowD];simp⟩
 |up h0 _ ih =>
  obtain⟨k,hk⟩:=ih
  exact⟨k+1,by rw[belowD,hk];simp[h0]⟩
def StepsD (T:TreeD) (top:Int) (k:Nat) (n:Int):Prop:=belowD T top k n=true∧ ∀j,j<k→belowD T top j n=false
theorem steps_up {k:Nat} {n:Int} (h:StepsD T top (k+1) n):0<n∧StepsD T top k (parentF T n):=by
 obtain⟨h1,h2⟩:=h
 have h0:=h2 0 (by omega)
 rw[belowD.eq_1]at h0
 rw[belowD.eq_2,h0,Bool.false_or,Bool.and_eq_true]at h1
 refine⟨by simpa using h1.1,h1.2,fun j hj=> ?_⟩
 have h3:=h2 (j+1) (by omega)
 rw[belowD.eq_2,h0,Bool.false_or,h1.1,Bool.true_and]at h3
 exact h3
theorem steps_one {j k:Nat} {n:Int} (h:StepsD T top j n) (h':StepsD T top k n):j=k:=by
 rcases Nat.lt_trichotomy j k with hx|hx|hx
 ·have:=h.1;rw[h'.2 j hx]at this;cases this
 ·exact hx
 ·have:=h'.1;rw[h.2 k hx]at this;cases this
theorem steps_path: ∀(k:Nat) (n:Int),StepsD T top (k+1) n→ ∃L:List Int,L.length=k∧L.Nodup∧ ∀x∈L,0≤x∧x<T.nodes.length∧ ∃j,j≤k+1∧StepsD T top j x
 |0,_,_=>⟨[],rfl,List.nodup_nil,fun _ h=>absurd h (by simp)⟩
 |k+1,n,h=>by
  obtain⟨h0,h1⟩:=steps_up h
  obtain⟨L,l1,l2,l3⟩:=steps_path k _ h1
  refine⟨n::L,by rw[List.length_cons,l1],List.nodup_cons.2 ⟨fun hm=> ?_,l2⟩,fun x hx=> ?_⟩
  ·obtain⟨-, -,j,hj,hs⟩:=l3 n hm
   have:=steps_one h hs
   omega
  ·rcases List.mem_cons.1 hx with hx|hx
   ·subst hx
    refine⟨by omega,?_,_,Nat.le_refl _,h⟩
    rcases Int.lt_or_le x T.nodes.length with hl|hl
    ·exact hl
    ·obtain⟨h2, -⟩:=steps_up h1
     have:parentF T x= -1:=by unfold parentF;rw[List.getElem?_eq_none (by omega)];rfl
     omega
   ·obtain⟨a,b,j,hj,hs⟩:=l3 x hx
    exact⟨a,b,j,by omega,hs⟩
theorem few_ints: ∀(n:Nat) (L:List Int),L.Nodup→(∀x∈L,0≤x∧x<n)→L.length≤n
 |0,L,_,h=>by
  cases L with
  |nil=>exact Nat.le_refl _
  |cons x r=>have:=h x (List.mem_cons_self ..);omega
 |n+1,L,hd,h=>by
  have h1:=few_ints n (L.erase (n:Int)) (hd.erase _) fun x hx=>by
   have h2:=h x (List.mem_of_mem_erase hx)
   have h3:x≠(n:Int):=(List.Nodup.mem_erase_iff hd).1 hx |>.1
   omega
  have h4:=List.length_erase (a:=(n:Int)) (l:=L)
  split at h4 <;>omega
theorem steps_few {k:Nat} {n:Int} (h:StepsD T top k n):k≤T.nodes.length+1:=by
 cases k with
 |zero=>omega
 |succ k =>
  obtain⟨L,h1,h2,h3⟩:=steps_path k n h
  have:=few_ints T.nodes.length L h2 fun x hx=>⟨(h3 x hx).1,(h3 x hx).2.1⟩
  omega
theorem belowF_iff {n:Int}:belowF T n top=true↔Reach T top n:=by
 refine⟨belowD_reach _ n,fun h=> ?_⟩
 obtain⟨k,hk⟩:=reach_belowD h
 have hs: ∃j,StepsD T top j n:=by
  induction k using Nat.strongRecOn with
  |ind k ih =>
   by_cases hx: ∃j,j<k∧belowD T top j n=true
   ·obtain⟨j,hj,hb⟩:=hx
    exact ih j hj hb
   ·refine⟨k,hk,fun j hj=> ?_⟩
    cases e:belowD T top j n with
    |false=>rfl
    |true=>exact absurd ⟨j,hj,e⟩ hx
 obtain⟨j,hj⟩:=hs
 exact belowD_le (steps_few hj) hj.1
theorem belowF_dec {n:Int}:belowF T n top= @decide (Reach T top n) (Classical.propDecidable _):=by
 rw[Bool.eq_iff_iff,belowF_iff]
 simp
end
theorem belowF_congr {T:TreeD} {n m top:Int} (h:Reach T top n↔Reach T top m):belowF T n top=belowF T m top:=by
 rw[Bool.eq_iff_iff,belowF_iff,belowF_iff]
 exact h
theorem belowF_true {T:TreeD} {n top:Int} (h:Reach T top n):belowF T n top=true:=belowF_iff.2 h
theorem belowF_low {T:TreeD} {n top:Int} (h:n≤0):belowF T n top=(n==top):=by
 rw[Bool.eq_iff_iff,belowF_iff,reach_low h]
 simp
def upM (r:Int→Nat) (m:Int):Nat:=if 0<m then r m+1 else 0
theorem upM_lt (r:Int→Nat) (m p:Int) (hm:0<m) (h:1≤p→r p<r m):upM r p<upM r m:=by
 unfold upM
 rw[if_pos hm]
 split
 ·have:=h (by omega);omega
 ·omega
structure WF (T:TreeD):Prop where
 pos:0<T.nodes.length
 root:parentF T 0= -1
 par: ∀i:Nat,i<T.nodes.length→ -1≤parentF T i∧parentF T i<T.nodes.length
 kid: ∀i:Nat,i<T.nodes.length→ ∀k∈kidsF T i,1≤k∧k<T.nodes.length∧parentF T k=i
 mem: ∀i:Nat,i<T.nodes.length→0≤parentF T i→(i:Int)∈kidsF T (parentF T i)
 nodup: ∀i:Nat,i<T.nodes.length→(kidsF T i).Nodup
 rank: ∃r:Int→Nat,∀i:Nat,i<T.nodes.length→1≤parentF T i→r (parentF T i)<r i
 holds: ∀i:Nat,i<T.nodes.length→kidsF T i≠ []→holdsF T i=true
end Go.Proofs.YtgepobccoffnaaaGreatDoor
namespace Go.Proofs.YtgepobccoffnaaaGreatDoor
open Go.RowKit Mem
abbrev TreeO (w:World) (tb g:Nat) (T:TreeD):Prop:=TreeAt 95 92 w tb g T
section
variable (T:TreeD) (tb g:Nat) (w:World)
theorem len_any (h:TreeO w tb g T):Calls Tryz.prog 219 #[.pointer (some ⟨tb,0,none⟩)] w fun e w'=>e= .returned (.int .i64 ((T.nodes.length:Int)-1))∧w=w':=by
 obtain⟨cap,h1,h2,c0,_,_,_⟩:=h.head
 unfold maxLen at h2
 clear h
 go_enter Tryz.func219,Tryz.ntmps219
 go_wp2
 go_ret
 exact⟨rfl,rfl⟩
theorem is_any (n:Int) (h:TreeO w tb g T):Calls Tryz.prog 48 #[.pointer (some ⟨tb,0,none⟩),.int .i64 n] w fun e w'=>e= .returned (.bool (isF T n))∧w=w':=by
 obtain⟨cap,h1,h2,c0,_,_,_⟩:=h.head
 unfold maxLen at h2
 have HP:Hid (isF T n=(decide (1≤n)&&decide (n<(T.nodes.length:Int)))):=by show _=_;rfl
 clear h
 by_cases hn:1≤n
 all_goals
  go_enter Tryz.func48,Tryz.ntmps48
  go_wp2
  go_ret
  exact⟨ret_bool (by rw[HP.out];first|(simp[hn];done)|(simp;omega)),rfl⟩
theorem elem_any (n:Int) (h:TreeO w tb g T):Calls Tryz.prog 80 #[.pointer (some ⟨tb,0,none⟩),.int .i64 n] w fun e w'=>e= .returned (.bool (elemF T n))∧w=w':=by
 have HC:=Lib.hid (is_any T tb g w n h)
 cases hi:isF T n
 ·have HP:Hid (elemF T n=false):=by show _=_;rw[elemF,hi];rfl
  rw[hi]at HC
  clear h
  go_enter Tryz.func80,Tryz.ntmps80
  go_wp2_with (go_at_call 48;refine HC.out.mono ?_;rintro e w1 ⟨rfl,rfl⟩)
  go_ret
  exact⟨ret_bool HP.out.symm,rfl⟩
 ·have hb:1≤n∧n<(T.nodes.length:Int):=by simpa[isF] using hi
  obtain⟨i,rfl⟩:=Int.eq_ofNat_of_zero_le (by omega:0≤n)
  have hlt:i<T.nodes.length:=by omega
  have HP:Hid (elemF T i=T.nodes[i].elem):=by show _=_;exact elemF_of T i (by omega) hlt
  obtain⟨cap,h1,h2,c0,_,_,_⟩:=h.head
  obtain⟨aa,ac,ka,kc,_,_,_,_,_,_,_,_,hc,_⟩:=h.node hlt
  have d0:=hc 0 _ rfl
  rw[Nat.add_zero]at d0
  unfold maxLen at h2
  rw[hi]at HC
  clear h hc hi
  go_enter Tryz.func80,Tryz.ntmps80
  go_wp2_with (go_at_call 48;refine HC.out.mono ?_;rintro e w1 ⟨rfl,rfl⟩)
  go_ret
  exact⟨ret_bool HP.out.symm,rfl⟩
theorem holds_any (n:Int) (h:TreeO w tb g T):Calls Tryz.prog 199 #[.pointer (some ⟨tb,0,none⟩),.int .i64 n] w fun e w'=>e= .returned (.bool (holdsF T n))∧w=w':=by
 have HC:=Lib.hid (elem_any T tb g w n h)
 clear h
 by_cases hn:n=0
 ·have HP:Hid (holdsF T n=true):=by show _=_;rw[holdsF,hn];rfl
  subst hn
  go_enter Tryz.func199,Tryz.ntmps199
  go_wp2_with fail
  go_ret
  exact⟨ret_bool HP.out.symm,rfl⟩
 ·have hn':(n==0)=false:=by simpa using hn
  have HP:Hid (holdsF T n=elemF T n):=by show _=_;rw[holdsF,hn'];rfl
  clear hn
  go_enter Tryz.func199,Tryz.ntmps199
  go_wp2_with (go_at_call 80;refine HC.out.mono ?_;rintro e w1 ⟨rfl,rfl⟩)
  go_ret
  exact⟨ret_bool HP.out.symm,rfl⟩
theorem place_any (parent:Nat) (before:Int) (hp:parent<T.nodes.length) (h:TreeO w tb g T) :
 Calls Tryz.prog 200 #[.pointer (some ⟨tb,0,none⟩),.int .i64 parent,.int .i64 before] w fun e w'=>e= .returned (.int .i64 (placeF T parent before))∧w=w':=by
 obtain⟨cap,h1,h2,c0,_,_,_⟩:=h.head
 obtain⟨aa,ac,ka,kc,_,_,_,hk1,hk2,_,_,hk,hc,_⟩:=h.node hp
 have d6:=hc 6 _ rfl
 obtain⟨l,hl⟩: ∃l,l=T.nodes[parent].kids:=⟨_,rfl⟩
 rw[←hl]at d6 hk hk1
 have HK:=Lib.hid hk.at
 have HL:Hid (kidsF T parent=l):=by show _=_;rw[kidsF_of T parent hp,hl]
 unfold maxLen at h2 hk2
 clear h hc hk hl
 by_cases hb:before=0
 ·have HP:Hid (placeF T parent before=l.length):=by show _=_;rw[placeF,if_pos hb,HL.out]
  subst hb
  go_enter Tryz.func200,Tryz.ntmps200
  go_wp2_with fail
  go_ret
  exact⟨ret_int HP.out.symm,rfl⟩
 ·have hb':(before==0)=false:=by simpa using hb
  have HP:Hid (placeF T parent before=idxF l before 0):=by show _=_;rw[placeF,if_neg hb,HL.out]
  clear hb
  go_enter Tryz.func200,Tryz.ntmps200
  go_wp2_with fail
  go_loop [24] (fun i=> ∃k:Nat,k≤l.length∧i= .int .i64 k∧idxF l before 0=idxF (l.drop k) before k) (fun i=>l.length-(intOf i).toNat)
  case atStart=>exact⟨0,Nat.zero_le _,rfl,rfl⟩
  case round =>
   obtain⟨k,hk,rfl,hv⟩:=hrel
   have HV:=Lib.hid hv
   clear hv
   by_cases hlt:k<l.length
   ·obtain⟨b,o,rfl,e1⟩:=HK.out _ _ (intsV_get l k hlt)
    by_cases he:l[k]=before
    ·have he':(l[k]==before)=true:=by simpa using he
     have HE:=Lib.hid he
     clear he
     go_wp2_with fail
     go_ret
     exact⟨ret_int (by rw[HP.out,HV.out,idxF_hit l before k hlt HE.out]),rfl⟩
    ·have he':(l[k]==before)=false:=by simpa using he
     have HE:=Lib.hid he
     clear he
     go_wp2_with fail
     go_round
     case rel=>exact⟨k+1,by omega,by go_num,by rw[HV.out,idxF_step l before k hlt HE.out];rfl⟩
     case measure=>simp[intOf];omega
   ·go_wp2_with fail
    go_ret
    exact⟨ret_int (by rw[HP.out,HV.out,List.drop_of_length_le (by omega)];rfl),rfl⟩
theorem below_any (n top:Int) (hn:n<T.nodes.length) (hw:WF T) (h:TreeO w tb g T) :
 Calls Tryz.prog 203 #[.pointer (some ⟨tb,0,none⟩),.int .i64 n,.int .i64 top] w fun e w'=>e= .returned (.bool (belowF T n top))∧w=w':=by
 obtain⟨cap,h1,h2,c0,_,_,_⟩:=h.head
 obtain⟨r,hr⟩:=hw.rank
 have HR:=Lib.hid hr
 have HW:=Lib.hid hw
 have HT:=Lib.hid h
 unfold maxLen at h2
 clear h hw hr
 go_enter Tryz.func203,Tryz.ntmps203
 go_wp2_with fail
 go_loop [1] (fun x=> ∃m:Int,m<T.nodes.length∧x= .int .i64 m∧belowF T n top=belowF T m top) (fun x=>upM r (intOf x))
 case atStart=>exact⟨n,hn,rfl,rfl⟩
 case round =>
  obtain⟨m,hm,rfl,hv⟩:=hrel
  have HV:=Lib.hid hv
  clear hv
  by_cases hp:0<m
  ·by_cases he:m=top
   ·have HE:Hid (belowF T m top=true):=by show _=_;rw[he];exact belowF_true .here
    have he':(m==top)=true:=by simpa using he
    clear he
    go_wp2_with fail
    go_ret
    exact⟨ret_bool (by rw[HV.out,HE.out]),rfl⟩
   ·have HE:Hid (belowF T m top=belowF T (parentF T m) top):=belowF_congr (reach_up hp he)
    have he':(m==top)=false:=by simpa using he
    clear he
    obtain⟨i,rfl⟩:=Int.eq_ofNat_of_zero_le (by omega:0≤m)
    have hi:i<T.nodes.length:=by omega
    obtain⟨aa,ac,ka,kc,_,_,_,_,_,_,_,_,hc,_⟩:=HT.out.node hi
    have d5:=hc 5 _ rfl
    have HP:Hid (parentF T i=T.nodes[i].parent):=parentF_of T i hi
    have hpar:=HW.out.par i hi
    rw[HP.out]at hpar
    clear hc
    go_wp2_with fail
    go_round
    case rel=>exact⟨T.nodes[i].parent,hpar.2,rfl,by rw[HV.out,HE.out,HP.out]⟩
    case measure =>
     have hlt2:=HR.out i hi
     rw[HP.out]at hlt2
     exact upM_lt r i T.nodes[i].parent hp hlt2
  ·have HE:Hid (belowF T m top=(m==top)):=belowF_low (by omega)
   go_wp2_with fail
   go_ret
   exact⟨ret_bool (by rw[HV.out,HE.out]),rfl⟩
theorem parent_any (n:Int) (h:TreeO w tb g T) :
 Calls Tryz.prog 198 #[.pointer (some ⟨tb,0,none⟩),.int .i64 n] w fun e w'=>e= .returned (.int .i64 (if isF T n then parentF T n else -1))∧w=w':=by
 have HC:=Lib.hid (is_any T tb g w n h)
 cases hi:isF T n
 ·rw[hi]at HC
  clear h
  go_enter Tryz.func198,Tryz.ntmps198
  go_wp2_with (go_at_call 48;refine HC.out.mono ?_;rintro e w1 ⟨rfl,rfl⟩)
  go_ret
  exact⟨rfl,rfl⟩
 ·have hb:1≤n∧n<(T.nodes.length:Int):=by simpa[isF] using hi
  obtain⟨i,rfl⟩:=Int.eq_ofNat_of_zero_le (by omega:0≤n)
  have hlt:i<T.nodes.length:=by omega
  have HP:Hid (parentF T i=T.nodes[i].parent):=parentF_of T i hlt
  obtain⟨cap,h1,h2,c0,_,_,_⟩:=h.head
  obtain⟨aa,ac,ka,kc,_,_,_,_,_,_,_,_,hc,_⟩:=h.node hlt
  have d5:=hc 5 _ rfl
  unfold maxLen at h2
  rw[hi]at HC
  clear h hc hi
  go_enter Tryz.func198,Tryz.ntmps198
  go_wp2_with (go_at_call 48;refine HC.out.mono ?_;rintro e w1 ⟨rfl,rfl⟩)
  go_ret
  exact⟨ret_int (by rw[HP.out]),rfl⟩
theorem Is_any (n:Int) (h:TreeO w tb g T):Calls Tryz.prog 218 #[.pointer (some ⟨tb,0,none⟩),.int .i64 n] w fun e w'=>e= .returned (.bool (elemF T n))∧w=w':=by
 have HC:=Lib.hid (elem_any T tb g w n h)
 clear h
 go_enter Tryz.func218,Tryz.ntmps218
 go_wp2_with (go_at_call 80;refine HC.out.mono ?_;rintro e w1 ⟨rfl,rfl⟩)
 go_ret
 exact⟨rfl,rfl⟩
end
end Go.Proofs.YtgepobccoffnaaaGreatDoor
namespace Go.Proofs.YtgepobccoffnaaaGreatDoor
open Go.RowKit Mem
def kidsQ (T:TreeD) (n:Int):List Int:=if 0≤n∧n<T.nodes.length then kidsF T n else []
theorem info_int:(Tryz.prog.info? 3).map (fun i=>(i.zero,i.size,i.bytes))=some (some (.int .i64 0),1,8):=by kernel_rfl
section
variable (T:TreeD) (tb g:Nat) (w:World)
theorem kids_any (n:Int) (h:TreeO w tb g T) (hsz: ∀i (h:i<T.nodes.length),T.nodes[i].kids.length≤2097152) :
 Calls Tryz.prog 33 #[.pointer (some ⟨tb,0,none⟩),.int .i64 n] w fun e w'=> ∃v,e= .returned v∧w'.ownsRow w.heap.size 3 1 v (kidsQ T n).length (intsV (kidsQ T n))∧Below w.heap.size w w':=by
 obtain⟨cap,h1,h2,c0,_,_,_⟩:=h.head
 unfold maxLen at h2
 by_cases hn:n<0
 ·have HQ:Hid (kidsQ T n= []):=by show _=_;rw[kidsQ,if_neg (by omega)]
  clear h
  go_enter Tryz.func33,Tryz.ntmps33
  go_wp2_with fail
  go_ret
  exact⟨_,rfl,by rw[HQ.out];exact World.ownsRow_nil _ _ _ _,Below.refl _ _⟩
 ·by_cases hge:(T.nodes.length:Int)≤n
  ·have HQ:Hid (kidsQ T n= []):=by show _=_;rw[kidsQ,if_neg (by omega)]
   clear h
   go_enter Tryz.func33,Tryz.ntmps33
   go_wp2_with fail
   go_ret
   exact⟨_,rfl,by rw[HQ.out];exact World.ownsRow_nil _ _ _ _,Below.refl _ _⟩
  ·obtain⟨i,rfl⟩:=Int.eq_ofNat_of_zero_le (by omega:0≤n)
   have hlt:i<T.nodes.length:=by omega
   obtain⟨aa,ac,ka,kc,_,_,_,hk1,hk2,hk3,_,hk,hc,_⟩:=h.node hlt
   obtain⟨ht1,ht2⟩:=h.lt
   have d6:=hc 6 _ rfl
   have hszi:=hsz i hlt
   obtain⟨l,hl⟩: ∃l,l=T.nodes[i].kids:=⟨_,rfl⟩
   rw[←hl]at d6 hk hk1 hszi
   have HQ:Hid (kidsQ T i=l):=by show _=_;rw[kidsQ,if_pos (by omega),kidsF_of T i hlt,hl]
   have HK:=Lib.hid (hk.at.below ((Below.refl _ _).alloc (Nat.le_refl _) (.cells #[] 3)))
   have HE:Hid ((w.alloc (.cells #[] 3)).ownsRow w.heap.size 3 1 (.slice (some ⟨w.heap.size,0,none⟩) 0 0) 0 []):=World.ownsRow_lit w #[] 0 (Nat.le_refl _) (Nat.zero_le _) rfl
   have H3:=Lib.hid hk3.nil
   obtain⟨i0,hi,hz0,hz1,hz2⟩:=info_parts info_int
   have b0:0+l.length≤maxLen:=by unfold maxLen;omega
   have b1:(0+l.length)*8≤140737488355328:=by omega
   have hnl:(intsV l).length=l.length*1:=by rw[intsV_length,Nat.mul_one]
   have HNL:=Lib.hid hnl
   have HZ:Hid (w.heap.size≤(w.alloc (.cells #[] 3)).heap.size):=by show _≤_;simp
   clear h hc hk hl hk3 hsz hnl
   go_enter Tryz.func33,Tryz.ntmps33
   go_wp2_with (at_builtin;refine wpList_append_slice _ rfl _ _ 75 rfl w.heap.size 3 i0 _ 1 8 Tryz.underlying75 hi hz0 hz1 hz2 rfl (by decide) _ 0 [] rfl HE.out ka l.length kc (intsV l) rfl HNL.out H3.out HK.out (intsV_one l) b0 b1 HZ.out ?_;intro v2 w2 hown2 hgr2;simp only[Nat.zero_add,List.nil_append]at hown2;have HO2:=Lib.hid hown2;have HG2:=Lib.hid hgr2;clear hown2 hgr2)
   go_ret
   exact⟨_,rfl,by rw[HQ.out];exact HO2.out,((Below.refl _ _).alloc (Nat.le_refl _) _).grown HG2.out HZ.out (fun b h=>(HE.out.lt b h).1)⟩
end
end Go.Proofs.YtgepobccoffnaaaGreatDoor
namespace Go.Proofs.YtgepobccoffnaaaGreatDoor
open Go.RowKit Mem
def rootN:ND:=⟨false,0,⟨#[]⟩,[],⟨#[]⟩, -1,[]⟩
theorem heap_new_at {w:World} {o:Obj} {n:Nat} (h:w.heap.size=n):(w.alloc o).heap[n]?=some o:=by
 subst h
 exact heap_alloc_new w o
end Go.Proofs.YtgepobccoffnaaaGreatDoor
end
