/- Texts joined for a claim: RMkTp: plain laws and contracts. No conditions beyond those that each lemma types. -/
import Derived.Test.YtgepobccoffnaaaGreatDoorQ41
set_option linter.unusedVariables false
set_option linter.unusedSimpArgs false
namespace Go.Proofs.YtgepobccoffnaaaGreatDoor.Rd
open Mem
theorem escP_ok (attr:Bool): ∀(s:Str) (skip:Bool),OkB s→OkB (escG attr skip s)
 | [],skip,_=>by cases skip <;>exact fun _ h=>by cases h
 |d::r,true,h=>by
  rw[escG]
  exact escP_ok attr r false fun y hy=>h y (List.mem_cons_of_mem _ hy)
 |d::r,false,h=>by
  have hr:OkB r:=fun y hy=>h y (List.mem_cons_of_mem _ hy)
  rw[escG]
  split
  ·refine OkB.append ?_ (escP_ok attr r true hr)
   unfold OkB;decide
  ·refine OkB.append ?_ (escP_ok attr r false hr)
   unfold escOne
   split
   ·unfold OkB;decide
   ·split
    ·unfold OkB;decide
    ·split
     ·unfold OkB;decide
     ·split
      ·unfold OkB;decide
      ·intro x hx
       rw[List.mem_singleton.1 hx]
       exact h d List.mem_cons_self
theorem textP_all {m:MkM} (hc:m.closed=true) (hm:m.mode≠2) (x:Str) {k:Int} (hx:textF m x=([],x,k)) (hx2:x= []∨ ∃y,x=60::y): ∀(n:Nat) (s:Str),s.length≤n→(∀c∈s,c≠60)→textF m (s++x)=(allS s false,x,k):=by
 intro n
 induction n with
 |zero =>
  intro s hs _
  obtain rfl:s= []:=List.eq_nil_of_length_eq_zero (by omega)
  rw[List.nil_append,hx,allS_nil]
 |succ n ih =>
  intro s hs h
  cases s with
  |nil=>rw[List.nil_append,hx,allS_nil]
  |cons c r =>
   simp only[List.length_cons]at hs
   have h60:=h c List.mem_cons_self
   have hr: ∀c∈r,c≠60:=fun y hy=>h y (List.mem_cons_of_mem _ hy)
   have i1:=ih r (by omega) hr
   rw[List.cons_append,textF.eq_2,if_neg h60,allS_cons]
   by_cases h38:c=38
   ·rw[if_pos ⟨h38,hm⟩,if_neg (by rw[hc];simp)]
    have ht:takeF (c::(r++x)) false=takeF (c::r) false:=by
     rcases hx2 with rfl|⟨y,rfl⟩
     ·rw[List.append_nil]
     ·have:=takeF_stop (c::r) y false
      rwa [List.cons_append]at this
    rw[ht]
    have hle:=takeF_le (c::r) false
    simp only[List.length_cons]at hle
    by_cases h0:(takeF (c::r) false).2=0
    ·rw[if_pos h0,h0,if_neg (fun hh=>hh.2 rfl)]
     simp only[Nat.zero_sub,List.drop_zero]
     rw[i1,h38]
     rfl
    ·rw[if_neg h0,if_pos ⟨h38,h0⟩,List.drop_append_of_le_length (by omega)]
     obtain⟨j,hj⟩: ∃j,(takeF (c::r) false).2=j+1:=⟨(takeF (c::r) false).2-1,by omega⟩
     rw[hj,Nat.add_sub_cancel,List.drop_succ_cons,ih (r.drop j) (by rw[List.length_drop];omega) (fun y hy=>hr y (List.mem_of_mem_drop hy))]
   ·rw[if_neg (fun hh=>h38 hh.1),if_neg (fun hh=>h38 hh.1),i1]
theorem putP_same: ∀s:Str,(∀c∈s,c≠13∧c≠0)→putF false s=s
 | [],_=>rfl
 |c::s,h=>by
  obtain⟨h1,h2⟩:=h c List.mem_cons_self
  rw[putF,show(c==13)=false from beq_eq_false_iff_ne.2 h1,putP_same s fun x hx=>h x (List.mem_cons_of_mem _ hx)]
  unfold putOne
  rw[if_neg (by simp),if_neg h1,if_neg h2]
  rfl
theorem esc_at {t:Str} (ht:OkB t):textF (newP (escS false t)) (newP (escS false t)).buf=(t,[],1):=by
 have ho: ∀c∈escS false t,c≠13∧c≠0:=fun c hc=>by have:=escP_ok false t false ht c hc;exact⟨this.2,this.1⟩
 have hb:(newP (escS false t)).buf=escS false t:=putP_same _ ho
 rw[hb]
 have h1:=textP_all (m:=newP (escS false t)) rfl (by show(0:Int)≠2;decide) [] (by rw[textF]) (.inl rfl) _ (escS false t) (Nat.le_refl _) (fun c hc=>(escG_signs false t false c hc).1)
 rw[List.append_nil,allS_escS]at h1
 exact h1
def endP (s:Str) (cd:Bool):MkM:= {newP s with buf:= [],cdata:=cd}
theorem read_esc {t:Str} (ht:OkB t) (hne:t≠ []):readF (newP (escS false t))=(some (textM t),endP (escS false t) false)∧liteB (newP (escS false t))=true:=by
 have hx:=esc_at ht
 have e:oneF (newP (escS false t))=(textM t,true,false,endP (escS false t) false):=by
  unfold oneF
  rw[if_pos (show(newP (escS false t)).pass=0 from rfl)]
  unfold stepF
  rw[hx]
  simp only
  rw[if_pos hne]
  rfl
 refine⟨by rw[readF_told rfl (by rw[e]),e],?_⟩
 unfold liteB
 rw[hx]
 rw[show decide (t≠ [])=true from decide_eq_true hne]
 rfl
theorem read_end (s:Str) (cd:Bool):readF (endP s cd)=(none,endP s cd)∧liteB (endP s cd)=true:=by
 have hx:textF (endP s cd) (endP s cd).buf=([],[],1):=by show textF _ []=_;rw[textF]
 have e:oneF (endP s cd)=(noM,false,true,endP s cd):=by
  unfold oneF
  rw[if_pos (show(endP s cd).pass=0 from rfl)]
  unfold stepF
  rw[hx]
  rfl
 refine⟨by rw[readF_stop rfl (by rw[e]) (by rw[e]),e],?_⟩
 unfold liteB
 rw[hx]
 rfl
end Go.Proofs.YtgepobccoffnaaaGreatDoor.Rd
