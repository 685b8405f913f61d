/- Texts joined for a claim: FmB, ForH: plain laws and contracts. No conditions beyond those that each lemma types. -/
import Derived.Test.YtgepobccoffnaaaGreatDoorT10
import Derived.Deep.Cut
import Derived.Deep.CutRange
import Derived.Test.YtgepobccoffnaaaGreatDoorT01
import Derived.BigQuiet
import Derived.Deep.QuietTactic
import Derived.Deep.RegionWith
import Derived.Test.YtgepobccoffnaaaGreatDoorRows
set_option linter.unusedVariables false
set_option linter.unusedSimpArgs false
set_option maxRecDepth 100000
set_option maxHeartbeats 8000000
section
namespace Go.Proofs.YtgepobccoffnaaaGreatDoor
open Go.RowKit Mem
def LI (w0:World) (B tb sb lb:Nat) (ex:Nat→Prop) (T:TreeD) (l ent:List Int) (on:Bool) (w:World):Prop :=
 ∃ge,LstO w lb tb sb ge ent on∧SI w0 B tb sb (fun k=>ex k∨SB lb ge k) T l w∧(∀k,SB lb ge k→w0.heap.size≤k∧ ¬ex k)∧ent.length≤1000000
section
variable {w0 w w':World} {B B' tb sb lb:Nat} {ex:Nat→Prop} {T T':TreeD} {l l' ent ent':List Int} {on on':Bool}
theorem SI.exlt (h:SI w0 B tb sb ex T l w): ∀k,ex k→k<w.heap.size:=by
 obtain⟨g,gs,far,h1,h2,h3,h4,h5⟩:=h
 exact fun k hk=>(h1.tree.far_lt k (h4 k hk)).1
theorem LI.wf (h:LI w0 B tb sb lb ex T l ent on w):WF T:=by
 obtain⟨ge,h1,h2,h3⟩:=h
 exact h2.wf
theorem LI.len (h:LI w0 B tb sb lb ex T l ent on w):T.nodes.length≤1000000:=by
 obtain⟨ge,h1,h2,h3⟩:=h
 exact h2.len
theorem LI.below (h:LI w0 B tb sb lb ex T l ent on w):Below w0.heap.size w0 w:=by
 obtain⟨ge,h1,h2,h3⟩:=h
 exact h2.below
theorem LI.short (h:LI w0 B tb sb lb ex T l ent on w):l.length≤1000000∧ent.length≤1000000:=by
 obtain⟨ge,h1,h2,h3,h4⟩:=h
 exact⟨h2.short,h4⟩
theorem LI.world (h:LI w0 B tb sb lb ex T l ent on w) (hb:Below w.heap.size w w'):LI w0 B tb sb lb ex T l ent on w':=by
 obtain⟨ge,h1,h2,h3⟩:=h
 exact⟨ge,h1.below hb,h2.world hb,h3⟩
theorem LI.exlt (h:LI w0 B tb sb lb ex T l ent on w): ∀k,ex k→k<w.heap.size:=by
 obtain⟨ge,h1,h2,h3⟩:=h
 exact fun k hk=>h2.exlt k (.inl hk)
theorem LI.si_step {ge:Option Nat} (h1:LstO w lb tb sb ge ent on) (h3: ∀k,SB lb ge k→w0.heap.size≤k∧ ¬ex k) (h4:ent.length≤1000000) (hs:SI w0 B' tb sb (fun k=>ex k∨SB lb ge k) T' l' w') (hk:Keeps (Own w0 fun k=>ex k∨SB lb ge k) w w') :
 LI w0 B' tb sb lb ex T' l' ent on w'∧Keeps (Own w0 ex) w w' :=
 ⟨⟨ge,h1.kept hk (fun _ hk' h=>h.2 (.inr hk')),hs,h3,h4⟩,hk.mono fun _ _ h=>⟨h.1,fun hx=>h.2 (.inl hx)⟩⟩
theorem LI.lst_step {ge ge':Option Nat} (h1:SI w0 B tb sb (fun k=>ex k∨SB lb ge k) T l w) (h3: ∀k,SB lb ge k→w0.heap.size≤k∧ ¬ex k) (h4:ent'.length≤1000000) (hl:LstO w' lb tb sb ge' ent' on') (hk:Keeps (SB lb ge) w w') (hg: ∀k,ge'=some k→ge=some k∨w.heap.size≤k) :
 LI w0 B tb sb lb ex T l ent' on' w'∧Keeps (Own w0 ex) w w':=by
 have hlt:=hl.lt
 refine⟨⟨ge',hl,h1.foreign hk (fun k hk'=>⟨.inr hk',(h3 k hk').1⟩) (fun k hk'=> ?_),fun k hk'=> ?_,h4⟩,hk.mono fun k _ hk'=>h3 k hk'⟩
 ·rcases hk' with hk'|hk'|hk'
  ·exact⟨.inl (.inl hk'),Nat.lt_of_lt_of_le (h1.exlt k (.inl hk')) hk.size⟩
  ·exact⟨.inl (.inr (.inl hk')),hlt k (.inl hk')⟩
  ·exact⟨(hg k hk').imp (fun e=> .inr (.inr e)) id,hlt k (.inr hk')⟩
 ·rcases hk' with e|e
  ·exact h3 k (.inl e)
  ·rcases hg k e with e'|e'
   ·exact h3 k (.inr e')
   ·have:=h1.below.size
    refine⟨by omega,fun hx=> ?_⟩
    have:=h1.exlt k (.inl hx)
    omega
theorem LI.foreign {ex':Nat→Prop} (h:LI w0 B tb sb lb ex T l ent on w) {F:Nat→Prop} (hk:Keeps F w w') (hF: ∀k,F k→ex k∧w0.heap.size≤k) (he: ∀k,ex' k→(ex k∨w.heap.size≤k)∧k<w'.heap.size):LI w0 B tb sb lb ex' T l ent on w':=by
 obtain⟨ge,h1,h2,h3,h4⟩:=h
 have hlt:=h1.lt
 have hs:=hk.size
 refine⟨ge,h1.kept hk fun k hk' hx=>(h3 k hk').2 (hF k hx).1,h2.foreign hk (fun k hk'=>⟨.inl (hF k hk').1,(hF k hk').2⟩) (fun k hk'=> ?_),fun k hk'=>⟨(h3 k hk').1,fun hx=> ?_⟩,h4⟩
 ·rcases hk' with hk'|hk'
  ·exact⟨(he k hk').1.imp .inl id,(he k hk').2⟩
  ·exact⟨.inl (.inr hk'),Nat.lt_of_lt_of_le (hlt k hk') hs⟩
 ·rcases(he k hx).1 with e|e
  ·exact(h3 k hk').2 e
  ·have:=hlt k hk';omega
theorem LI.cells (h:LI w0 B tb sb lb ex T l ent on w): ∃a c,w.cell? ⟨lb,0,none⟩=some (.pointer (some ⟨tb,0,none⟩))∧w.cell? ⟨lb,1,none⟩=some (.pointer (some ⟨sb,0,none⟩))∧w.cell? ⟨lb,2,none⟩=some (.slice a ent.length c)∧w.cell? ⟨lb,3,none⟩=some (.bool on)∧At w a (intsV ent)∧c≤maxLen∧ent.length≤c:=by
 obtain⟨ge,h1,h2,h3⟩:=h
 obtain⟨a,c,c0,c1,c2,c3,hA,ho,_⟩:=h1.cells
 obtain⟨_,_,he,k1,k2,_⟩:=own_at ho.1
 injection he with _ _ e3
 subst e3
 exact⟨a,c,c0,c1,c2,c3,hA,k2,k1⟩
theorem LI.att (h:LI w0 B tb sb lb ex T l ent on w): ∀i (h:i<T.nodes.length),T.nodes[i].attrs.length≤1048576:=by
 obtain⟨ge,h1,⟨g,gs,far,q1,_⟩,h3⟩:=h
 exact q1.atti
theorem LI.tree (h:LI w0 B tb sb lb ex T l ent on w): ∃g far,TreeO w tb g (farW far T):=by
 obtain⟨ge,h1,⟨g,gs,far,q1,_⟩,h3⟩:=h
 exact⟨g,far,q1.tree⟩
def parentQ (T:TreeD) (n:Int):Int:=if isF T n then parentF T n else -1
theorem Parent_li (h:LI w0 B tb sb lb ex T l ent on w) (n:Int):Calls Tryz.prog 198 #[.pointer (some ⟨tb,0,none⟩),.int .i64 n] w fun e w'=>e= .returned (.int .i64 (parentQ T n))∧w=w':=by
 obtain⟨g,far,hT⟩:=h.tree
 exact parent_any (farW far T) tb g w n hT
theorem Is_li (h:LI w0 B tb sb lb ex T l ent on w) (n:Int):Calls Tryz.prog 218 #[.pointer (some ⟨tb,0,none⟩),.int .i64 n] w fun e w'=>e= .returned (.bool (elemF T n))∧w=w':=by
 obtain⟨g,far,hT⟩:=h.tree
 exact Is_any (farW far T) tb g w n hT
theorem Kids_li (h:LI w0 B tb sb lb ex T l ent on w) (n:Int):Calls Tryz.prog 33 #[.pointer (some ⟨tb,0,none⟩),.int .i64 n] w fun e w'=> ∃v,e= .returned v∧w'.ownsRow w.heap.size 3 1 v (kidsQ T n).length (intsV (kidsQ T n))∧Below w.heap.size w w':=by
 have hwf:=h.wf
 have hlen:=h.len
 obtain⟨g,far,hT⟩:=h.tree
 exact kids_any (farW far T) tb g w n hT (fun i hi=>by
  have hi':i<T.nodes.length:=hi
  have:=kids_short hwf i hi'
  rw[kidsF_of T i hi']at this
  show(T.nodes[i]'hi').kids.length≤_
  omega)
theorem What_li (h:LI w0 B tb sb lb ex T l ent on w) (n:Int) :
 Calls Tryz.prog 49 #[.pointer (some ⟨tb,0,none⟩),.int .i64 n] w fun e w'=> ∃v,e= .returned (.tuple #[.int .i64 (spaceQ T n),.string (nameQ T n),v]) ∧
  w'.ownsRow w.heap.size 57 2 v (attrsQ T n).length (pairsV (attrsQ T n))∧Below w.heap.size w w':=by
 obtain⟨ge,h1,h2,h3⟩:=h
 exact What_si h2 n
theorem STop_li (h:LI w0 B tb sb lb ex T l ent on w):Calls Tryz.prog 50 #[.pointer (some ⟨sb,0,none⟩)] w fun e w'=>e= .returned (.int .i64 (l.getLast?.getD 0))∧ ∃q,w'=w.drewN q:=by
 obtain⟨ge,h1,h2,h3⟩:=h
 exact Top_si h2
theorem SFind_li (h:LI w0 B tb sb lb ex T l ent on w) (n:Int):Calls Tryz.prog 160 #[.pointer (some ⟨sb,0,none⟩),.int .i64 n] w fun e w'=>e= .returned (.int .i64 (rfind l n))∧w=w':=by
 obtain⟨ge,h1,h2,h3⟩:=h
 exact Find_si h2 n
theorem SAll_li (h:LI w0 B tb sb lb ex T l ent on w):Calls Tryz.prog 105 #[.pointer (some ⟨sb,0,none⟩)] w fun e w'=> ∃v,e= .returned v∧w'.ownsRow w.heap.size 3 1 v l.length (intsV l)∧Below w.heap.size w w':=by
 obtain⟨ge,h1,h2,h3⟩:=h
 exact All_si h2
theorem HasNode_li (h:LI w0 B tb sb lb ex T l ent on w) (m:Int):Calls Tryz.prog 220 #[.pointer (some ⟨sb,0,none⟩),.int .i64 m] w fun e w'=>e= .returned (.bool (hasNodeF T l m))∧Below w.heap.size w w':=by
 obtain⟨ge,h1,h2,h3⟩:=h
 exact HasNode_si h2 m
theorem SPop_li (h:LI w0 B tb sb lb ex T l ent on w):Calls Tryz.prog 64 #[.pointer (some ⟨sb,0,none⟩)] w fun e w'=>e= .returned (.int .i64 (l.getLast?.getD 0))∧LI w0 B tb sb lb ex T l.dropLast ent on w'∧Keeps (Own w0 ex) w w':=by
 obtain⟨ge,h1,h2,h3,h4⟩:=h
 exact(Pop_si h2).mono fun e w' ⟨he,hs,hk⟩=>⟨he,LI.si_step h1 h3 h4 hs hk⟩
theorem SPush_li (h:LI w0 B tb sb lb ex T l ent on w) (n:Int) (hl:l.length<1000000):Calls Tryz.prog 113 #[.pointer (some ⟨sb,0,none⟩),.int .i64 n] w fun e w'=>e= .returned (.tuple #[])∧LI w0 B tb sb lb ex T (l++ [n]) ent on w'∧Keeps (Own w0 ex) w w':=by
 obtain⟨ge,h1,h2,h3,h4⟩:=h
 exact(Push_si h2 n hl).mono fun e w' ⟨he,hs,hk⟩=>⟨he,LI.si_step h1 h3 h4 hs hk⟩
theorem Elem_li (h:LI w0 B tb sb lb ex T l ent on w) (sp:Int) (nm:ByteArray) (at':List Pair) (n:Nat) (a:Option Addr) (c:Nat) (hnl:n=at'.length) (hc:a=none→c=0) (hlen:at'.length≤1048576) (ha:At w a (pairsV at')) :
 Calls Tryz.prog 154 #[.pointer (some ⟨tb,0,none⟩),.int .i64 sp,.string nm,.slice a n c] w fun e w' =>
  e= .returned (.tuple #[.int .i64 (mkF T (elemN sp nm at')).2.1,.int .i64 (mkF T (elemN sp nm at')).2.2])∧LI w0 B tb sb lb ex (mkF T (elemN sp nm at')).1 l ent on w'∧Keeps (Own w0 ex) w w':=by
 obtain⟨ge,h1,h2,h3,h4⟩:=h
 exact(Elem_si h2 sp nm at' n a c hnl hc hlen ha).mono fun e w' ⟨he,hs,hk⟩=>⟨he,LI.si_step h1 h3 h4 hs hk⟩
theorem Put_li (h:LI w0 B tb sb lb ex T l ent on w) (a b n:Int):Calls Tryz.prog 155 #[.pointer (some ⟨tb,0,none⟩),.int .i64 a,.int .i64 b,.int .i64 n] w fun e w' =>
 e= .returned (.int .i64 (putE T a b n).2)∧LI w0 B tb sb lb ex (putE T a b n).1 l ent on w'∧Keeps (Own w0 ex) w w':=by
 obtain⟨ge,h1,h2,h3,h4⟩:=h
 exact(Put_si h2 a b n).mono fun e w' ⟨he,hs,hk⟩=>⟨he,LI.si_step h1 h3 h4 hs hk⟩
theorem Like_li (h:LI w0 B tb sb lb ex T l ent on w) (n:Int):Calls Tryz.prog 231 #[.pointer (some ⟨tb,0,none⟩),.int .i64 n] w fun e w' =>
 e= .returned (.tuple #[.int .i64 (likeF T n).2.1,.int .i64 (likeF T n).2.2])∧LI w0 B tb sb lb ex (likeF T n).1 l ent on w'∧Keeps (Own w0 ex) w w':=by
 obtain⟨ge,h1,h2,h3,h4⟩:=h
 exact(Like_si h2 n).mono fun e w' ⟨he,hs,hk⟩=>⟨he,LI.si_step h1 h3 h4 hs hk⟩
theorem Move_li (h:LI w0 B tb sb lb ex T l ent on w) (a b:Int):Calls Tryz.prog 236 #[.pointer (some ⟨tb,0,none⟩),.int .i64 a,.int .i64 b] w fun e w' =>
 e= .returned (.int .i64 (moveE T a b).2)∧LI w0 B tb sb lb ex (moveE T a b).1 l ent on w'∧Keeps (Own w0 ex) w w':=by
 obtain⟨ge,h1,h2,h3,h4⟩:=h
 exact(Move_si h2 a b).mono fun e w' ⟨he,hs,hk⟩=>⟨he,LI.si_step h1 h3 h4 hs hk⟩
theorem TText_li (h:LI w0 B tb sb lb ex T l ent on w) (a b:Int) (s:ByteArray) {B':Nat} (hB:B+s.size≤B') (hB':B'≤9223372036854775807):Calls Tryz.prog 153 #[.pointer (some ⟨tb,0,none⟩),.int .i64 a,.int .i64 b,.string s] w fun e w' =>
 e= .returned (.int .i64 (textE T a b s).2)∧LI w0 B' tb sb lb ex (textE T a b s).1 l ent on w'∧Keeps (Own w0 ex) w w':=by
 obtain⟨ge,h1,h2,h3,h4⟩:=h
 exact(Text_si h2 a b s hB hB').mono fun e w' ⟨he,hs,hk⟩=>⟨he,LI.si_step h1 h3 h4 hs hk⟩
theorem SRemove_li (h:LI w0 B tb sb lb ex T l ent on w) (n:Int):Calls Tryz.prog 114 #[.pointer (some ⟨sb,0,none⟩),.int .i64 n] w fun e w'=>e= .returned (.tuple #[])∧LI w0 B tb sb lb ex T (rmF l n) ent on w'∧Keeps (Own w0 ex) w w':=by
 obtain⟨ge,h1,⟨g,gs,far,q1,q2,q3,q4,q5⟩,h3,h4⟩:=h
 refine(stk_remove w sb tb gs l q2 n (by omega)).mono ?_
 rintro e w' ⟨he,gs',hs,hg,hk⟩
 obtain⟨r1,r2⟩:=SI.stk_step q1 q3 q4 (Nat.le_trans (dropF_len _ _) q5) hk hs hg
 exact⟨he,LI.si_step h1 h3 h4 r1 r2⟩
theorem SSwap_li (h:LI w0 B tb sb lb ex T l ent on w) (o n:Int):Calls Tryz.prog 232 #[.pointer (some ⟨sb,0,none⟩),.int .i64 o,.int .i64 n] w fun e w'=>e= .returned (.tuple #[])∧LI w0 B tb sb lb ex T (swapF l o n) ent on w'∧Keeps (Own w0 ex) w w':=by
 obtain⟨ge,h1,⟨g,gs,far,q1,q2,q3,q4,q5⟩,h3,h4⟩:=h
 refine(stk_swap w sb tb gs l q2 o n (by omega)).mono ?_
 rintro e w' ⟨he,hs,hk⟩
 obtain⟨r1,r2⟩:=SI.stk_step q1 q3 q4 (by
  unfold swapF
  split
  ·rw[List.length_set];exact q5
  ·exact q5) hk hs (fun k hk=> .inl hk)
 exact⟨he,LI.si_step h1 h3 h4 r1 r2⟩
theorem SInsert_li (h:LI w0 B tb sb lb ex T l ent on w) (b n:Int) (hl:l.length<1000000):Calls Tryz.prog 238 #[.pointer (some ⟨sb,0,none⟩),.int .i64 b,.int .i64 n] w fun e w'=>e= .returned (.tuple #[])∧LI w0 B tb sb lb ex T (insF l b n) ent on w'∧Keeps (Own w0 ex) w w':=by
 obtain⟨ge,h1,⟨g,gs,far,q1,q2,q3,q4,q5⟩,h3,h4⟩:=h
 refine(stk_insert w sb tb gs l q2 b n (by omega)).mono ?_
 rintro e w' ⟨he,gs',hs,hg,hk⟩
 obtain⟨r1,r2⟩:=SI.stk_step q1 q3 q4 (by
  unfold insF
  split
  ·have:=rfind_spec l b
   rw[insAt_len _ _ _ (by omega)];omega
  ·omega) hk hs hg
 exact⟨he,LI.si_step h1 h3 h4 r1 r2⟩
theorem drop_li (h:LI w0 B tb sb lb ex T l ent on w) (i:Int) (hi:i<ent.length):Calls Tryz.prog 208 #[.pointer (some ⟨lb,0,none⟩),.int .i64 i] w fun e w'=>e= .returned (.tuple #[])∧LI w0 B tb sb lb ex T l (dropF ent i) on w'∧Keeps (Own w0 ex) w w':=by
 obtain⟨ge,h1,h2,h3,h4⟩:=h
 refine(lst_drop w lb tb sb ge ent on h1 i hi (by omega)).mono ?_
 rintro e w' ⟨he,ge',hs,hg,hk⟩
 exact⟨he,LI.lst_step h2 h3 (Nat.le_trans (dropF_len _ _) h4) hs hk hg⟩
theorem hand_li (h:LI w0 B tb sb lb ex T l ent on w):Calls Tryz.prog 179 #[.pointer (some ⟨lb,0,none⟩)] w fun e w'=>e= .returned (.int .i64 (rfind ent (-1)+1))∧w=w':=by
 obtain⟨ge,h1,h2,h3,h4⟩:=h
 exact lst_hand w lb tb sb ge ent on h1 (by omega)
theorem find_li (h:LI w0 B tb sb lb ex T l ent on w) (n:Int):Calls Tryz.prog 209 #[.pointer (some ⟨lb,0,none⟩),.int .i64 n] w fun e w'=>e= .returned (.int .i64 (rfind ent n))∧w=w':=by
 obtain⟨ge,h1,h2,h3,h4⟩:=h
 exact lst_find w lb tb sb ge ent on h1 n (by omega)
theorem LAll_li (h:LI w0 B tb sb lb ex T l ent on w):Calls Tryz.prog 223 #[.pointer (some ⟨lb,0,none⟩)] w fun e w'=> ∃v,e= .returned v∧w'.ownsRow w.heap.size 3 1 v ent.length (intsV ent)∧Below w.heap.size w w':=by
 obtain⟨ge,h1,h2,h3,h4⟩:=h
 exact lst_all w lb tb sb ge ent on h1 (by omega)
theorem new_li (h:SI w0 B tb sb ex T l w):Calls Tryz.prog 29 #[.pointer (some ⟨tb,0,none⟩),.pointer (some ⟨sb,0,none⟩)] w fun e w'=> ∃lb,e= .returned (.pointer (some ⟨lb,0,none⟩))∧LI w0 B tb sb lb ex T l [] false w'∧Below w.heap.size w w':=by
 refine(lst_new w tb sb).mono ?_
 rintro e w' ⟨he,hs,hb,hlt⟩
 have hsz:=h.below.size
 refine⟨w.heap.size,he,⟨none,hs,h.foreign (F:=fun _=>False) (Keeps.ofBelow hb) (fun _ h=>h.elim) (fun k hk=> ?_),fun k hk=> ?_,Nat.zero_le _⟩,hb⟩
 ·rcases hk with hk|hk|hk
  ·exact⟨.inl hk,Nat.lt_of_lt_of_le (h.exlt k hk) hb.size⟩
  ·exact⟨.inr (by omega),by omega⟩
  ·cases hk
 ·rcases hk with hk|hk
  ·refine⟨by omega,fun hx=> ?_⟩
   have:=h.exlt k hx
   omega
  ·cases hk
end
end Go.Proofs.YtgepobccoffnaaaGreatDoor
namespace Go.Proofs.YtgepobccoffnaaaGreatDoor
open Go.RowKit Mem
def tableN:List ByteArray:= [⟨#[116,97,98,108,101]⟩]
def rowN:List ByteArray:= [⟨#[116,97,98,108,101]⟩,⟨#[116,98,111,100,121]⟩,⟨#[116,102,111,111,116]⟩,⟨#[116,104,101,97,100]⟩,⟨#[116,114]⟩]
def fostR (T:TreeD) (first:Int):List Int→Int×Int
 | []=>(first,0)
 |x::r=>if namedF T x tableN then(if 0≤parentQ T x then(parentQ T x,x)else(r.head?.elim (0,0) fun y=>(y,0)))else fostR T first r
def placeQ (T:TreeD) (l:List Int) (on:Bool) (target:Int):Int×Int :=
 if l= []then(0,0)else
 let t:=if target=0 then l.getLast?.getD 0 else target
 if on&&namedF T t rowN then fostR T (l.head?.getD 0) l.reverse else(t,0)
theorem fostR_step (T:TreeD) (first:Int) (l:List Int) (k:Nat) (h:k<l.length):fostR T first (l.take (k+1)).reverse =
 if namedF T l[k] tableN then(if 0≤parentQ T l[k]then(parentQ T l[k],l[k])else if k=0 then(0,0)else(l.getD (k-1) 0,0))else fostR T first (l.take k).reverse:=by
 rw[List.take_succ_eq_append_getElem h,List.reverse_append,List.reverse_singleton,List.singleton_append,fostR]
 cases k with
 |zero=>rfl
 |succ k =>
  rw[List.take_succ_eq_append_getElem (show k<l.length by omega),List.reverse_append,List.reverse_singleton,List.singleton_append]
  simp only[Nat.add_sub_cancel,List.getD,List.getElem?_eq_getElem (show k<l.length by omega),Option.getD_some]
  rfl
section
variable {w0 w w':World} {B B' tb sb lb:Nat} {ex:Nat→Prop} {T T':TreeD} {l l' ent ent':List Int} {on on':Bool}
theorem named_li (h:LI w0 B tb sb lb ex T l ent on w) (n:Int) (names:List ByteArray) (a:Option Addr) (c:Nat) (ha:At w a (strsV names)) (hl:names.length≤1048576) :
 Calls Tryz.prog 197 #[.pointer (some ⟨lb,0,none⟩),.int .i64 n,.slice a names.length c] w fun e w'=>e= .returned (.bool (namedF T n names))∧Below w.heap.size w w':=by
 obtain⟨sa,sc,c0,_⟩:=h.cells
 have HW:=Lib.hid (What_li h n)
 have HT:=Lib.hid h
 have HA:=Lib.hid ha
 have HN:Hid (namedF T n names=(elemF T n&&((spaceQ T n==0)&&isW names (nameQ T n)))):=by show _=_;rfl
 clear h ha
 cases he:elemF T n <;>cases hs:(spaceQ T n==0)
 all_goals
  rw[he,hs]at HN
  go_enter Tryz.func197,Tryz.ntmps197
  go_wp2_with (first|(go_at_call 49;go_must (refine HW.out.mono ?_;rintro e w1 ⟨v,rfl,_,hb⟩;have c0':=cell_later hb c0;have HE:=Lib.hid (Is_li (HT.out.world hb) n);rw[he]at HE;have HCo:=Lib.hid (contains_any names a c (nameQ T n) w1 (HA.out.below hb) (by omega));have HB:=Lib.hid hb;clear hb))|(go_at_call 218;go_must (refine HE.out.mono ?_;rintro e w2 ⟨rfl,rfl⟩))|(go_at_call 212;go_must (refine HCo.out.mono ?_;rintro e w2 ⟨rfl,rfl⟩)))
  go_ret
  exact⟨ret_bool (by rw[HN.out];simp),HB.out⟩
theorem named1_li (h:LI w0 B tb sb lb ex T l ent on w) (n:Int) (x:ByteArray) :
 Calls Tryz.prog 197 #[.pointer (some ⟨lb,0,none⟩),.int .i64 n,.slice (some ⟨w.heap.size,0,none⟩) 1 1] (w.alloc (.cells #[.string x] 9)) fun e w'=>e= .returned (.bool (namedF T n [x]))∧Below w.heap.size w w':=by
 have hb:=(Below.refl w.heap.size w).alloc (Nat.le_refl _) (.cells #[.string x] 9)
 exact(named_li (h.world hb) n [x] (some ⟨w.heap.size,0,none⟩) 1 (at_alloc rfl rfl) (by simp)).mono fun e w' ⟨he,hb'⟩=>⟨he,belowCall hb hb'⟩
theorem namedT_li (h:LI w0 B tb sb lb ex T l ent on w) (n:Int) :
 Calls Tryz.prog 197 #[.pointer (some ⟨lb,0,none⟩),.int .i64 n,.slice (some ⟨w.heap.size,0,none⟩) 1 1] (w.alloc (.cells #[.string (⟨#[116,97,98,108,101]⟩:ByteArray)] 9)) fun e w'=>e= .returned (.bool (namedF T n tableN))∧Below w.heap.size w w':=named1_li h n _
theorem named5_li (h:LI w0 B tb sb lb ex T l ent on w) (n:Int) :
 Calls Tryz.prog 197 #[.pointer (some ⟨lb,0,none⟩),.int .i64 n,.slice (some ⟨w.heap.size,0,none⟩) 5 5] (w.alloc (.cells #[.string (⟨#[116,97,98,108,101]⟩:ByteArray),.string (⟨#[116,98,111,100,121]⟩:ByteArray),.string (⟨#[116,102,111,111,116]⟩:ByteArray),.string (⟨#[116,104,101,97,100]⟩:ByteArray),.string (⟨#[116,114]⟩:ByteArray)] 9)) fun e w'=>e= .returned (.bool (namedF T n rowN))∧Below w.heap.size w w':=by
 have hb:=(Below.refl w.heap.size w).alloc (Nat.le_refl _) (.cells #[.string (⟨#[116,97,98,108,101]⟩:ByteArray),.string (⟨#[116,98,111,100,121]⟩:ByteArray),.string (⟨#[116,102,111,111,116]⟩:ByteArray),.string (⟨#[116,104,101,97,100]⟩:ByteArray),.string (⟨#[116,114]⟩:ByteArray)] 9)
 exact(named_li (h.world hb) n rowN (some ⟨w.heap.size,0,none⟩) 5 (at_alloc rfl rfl) (by simp[rowN])).mono fun e w' ⟨he,hb'⟩=>⟨he,belowCall hb hb'⟩
theorem Place_li (h:LI w0 B tb sb lb ex T l ent on w) (target:Int) :
 Calls Tryz.prog 152 #[.pointer (some ⟨lb,0,none⟩),.int .i64 target] w fun e w'=>e= .returned (.tuple #[.int .i64 (placeQ T l on target).1,.int .i64 (placeQ T l on target).2])∧Below w.heap.size w w':=by
 obtain⟨sa,sc,c0,c1,_,c3,_⟩:=h.cells
 have hsh:=h.short.1
 have HL:=Lib.hid h
 have HAll:=Lib.hid (SAll_li h)
 by_cases hnil:l= []
 ·have HP:Hid (placeQ T l on target=(0,0)):=Lib.hid (by rw[placeQ,if_pos hnil])
  have hlen:l.length=0:=by rw[hnil];rfl
  clear h
  subst hnil
  go_enter Tryz.func152,Tryz.ntmps152
  go_wp2_with (go_at_call 105;go_must (refine HAll.out.mono ?_;rintro e w1 ⟨v,rfl,ho,hb⟩;obtain⟨va,vc,rfl,_,_⟩:=own_slice ho;have HB:=Lib.hid hb;clear hb ho))
  go_ret2
  exact⟨by rw[HP.out];rfl,HB.out⟩
 ·have hpos:0<l.length:=List.length_pos_iff.2 hnil
  have q0:((l.length:Int)==0)=false:=by rw[beq_eq_false_iff_ne];omega
  obtain⟨t,ht⟩: ∃t,t=(if target=0 then l.getLast?.getD 0 else target):=⟨_,rfl⟩
  have HP:Hid (placeQ T l on target=if on&&namedF T t rowN then fostR T (l.head?.getD 0) l.reverse else(t,0)):=Lib.hid (by rw[placeQ,if_neg hnil,ht])
  clear h hnil
  go_enter Tryz.func152,Tryz.ntmps152
  go_upto_if 18 with(go_at_call 105;go_must (refine HAll.out.mono ?_;rintro e w1 ⟨v,rfl,ho,hb⟩;obtain⟨va,vc,rfl,hat,_⟩:=own_slice ho;have HA:=Lib.hid hat;have HB:=Lib.hid hb;have H1:=Lib.hid (HL.out.world hb);have hvc:=(own_at ho);have d0:=cell_later hb c0;have d1:=cell_later hb c1;have d3:=cell_later hb c3;clear hb ho hat))
  go_cut [1]from 19 to 23 (fun s1 wx=>s1= .int .i64 t∧ ∃q,wx=w1.drewN q)
  case first =>
   by_cases h0:target=0
   ·have HTop:=Lib.hid (STop_li H1.out)
    rw[if_pos h0]at ht
    subst h0
    rw[←ht]at HTop
    go_wp2_with (go_at_call 50;go_must (refine HTop.out.mono ?_;rintro e w2 ⟨rfl,hq⟩;have HQ:=Lib.hid hq;clear hq))
    go_meet
    exact⟨congrArg _ ht.symm,HQ.out⟩
   ·have q1:(target==0)=false:=by simpa using h0
    rw[if_neg h0]at ht
    go_wp2_with fail
    go_meet
    exact⟨by rw[ht],0,rfl⟩
  case rest =>
  obtain⟨rfl,q,rfl⟩:=hcut
  clear ht
  have H2:=Lib.hid (H1.out.world (stk_drewN w1 q))
  have HB2:=Lib.hid (belowCall HB.out (stk_drewN w1 q))
  have HA2:=Lib.hid (HA.out.below (stk_drewN w1 q))
  have d0':(w1.drewN q).cell? ⟨lb,0,none⟩=some (.pointer (some ⟨tb,0,none⟩)):=d0
  have d1':(w1.drewN q).cell? ⟨lb,1,none⟩=some (.pointer (some ⟨sb,0,none⟩)):=d1
  have d3':(w1.drewN q).cell? ⟨lb,3,none⟩=some (.bool on):=d3
  clear d0 d1 d3 H1 HB HA c0 c1 c3
  generalize w1.drewN q=w2 at *
  have HN5:=Lib.hid (named5_li H2.out t)
  cases on
  ·have HP2:Hid (placeQ T l false target=(t,0)):=Lib.hid (by rw[HP.out];rfl)
   go_wp2_with fail
   go_ret2
   exact⟨by rw[HP2.out];rfl,HB2.out⟩
  cases hn5:namedF T t rowN
  ·have HP2:Hid (placeQ T l true target=(t,0)):=Lib.hid (by rw[HP.out,hn5];rfl)
   rw[hn5]at HN5
   go_wp2_with (go_at_call 197;go_must (refine HN5.out.mono ?_;rintro e w3 ⟨rfl,hb⟩;have HB3:=Lib.hid hb;clear hb))
   go_ret2
   exact⟨by rw[HP2.out];rfl,belowCall HB2.out HB3.out⟩
  have HP2:Hid (placeQ T l true target=fostR T (l.head?.getD 0) l.reverse):=Lib.hid (by rw[HP.out,hn5];rfl)
  rw[hn5]at HN5
  have hvm:vc≤9223372036854775807∧l.length≤vc:=by
   obtain⟨_,_,he,k1,k2,_⟩:=hvc
   injection he with _ _ e3
   subst e3
   exact⟨k2,k1⟩
  obtain⟨bb,o,hva⟩:=HA2.out.some_of (by intro h;have:=congrArg List.length h;rw[intsV_length,List.length_nil]at this;omega)
  subst hva
  obtain⟨fst,hfst⟩: ∃fst,fst=l.head?.getD 0:=⟨_,rfl⟩
  rw[←hfst]at HP2
  have hx0:=HA2.out.get (intsV_get l 0 hpos)
  have hf0:l[0]=fst:=by rw[hfst,List.head?_eq_getElem?,List.getElem?_eq_getElem hpos];rfl
  rw[hf0]at hx0
  clear hvc hfst hf0
  go_wp2_with (go_at_call 197;go_must (refine HN5.out.mono ?_;rintro e w3 ⟨rfl,hb⟩;have HB3:=Lib.hid hb;clear hb))
  have H3:=Lib.hid (H2.out.world HB3.out)
  have HBT:=Lib.hid (belowCall HB2.out HB3.out)
  have e0':=cell_later HB3.out d0'
  have e1':=cell_later HB3.out d1'
  have ex0:=cell_later HB3.out hx0
  have HA3:=Lib.hid (HA2.out.below HB3.out)
  clear d0' d1' d3' hx0 HN5
  go_loopw [7] (fun i wr=> ∃k:Nat,k≤l.length∧i= .int .i64 ((k:Int)-1)∧Below w3.heap.size w3 wr∧fostR T fst l.reverse=fostR T fst (l.take k).reverse) (fun i _=>(intOf i+1).toNat)
  case atStart=>exact⟨l.length,Nat.le_refl _,rfl,Below.refl _ _,by rw[List.take_of_length_le (Nat.le_refl _)]⟩
  case round =>
   obtain⟨k,hk,rfl,hb,hv⟩:=hrel
   have HBr:=Lib.hid hb
   have HV:=Lib.hid hv
   clear hv
   cases k with
   |zero =>
    have f0:=cell_later hb ex0
    rw[Nat.add_zero]at f0
    clear hb
    go_wp2_with fail
    go_ret2
    exact⟨by rw[HP2.out,HV.out];rfl,belowCall HBT.out HBr.out⟩
   |succ k =>
    have hlt:k<l.length:=by omega
    have hx:=cell_later hb (HA3.out.get (intsV_get l k hlt))
    have f0:=cell_later hb e0'
    have e1:((k+1:Nat):Int)-1=(k:Int):=by omega
    rw[e1]
    have HN:=Lib.hid (namedT_li (H3.out.world hb) l[k])
    have HST:=Lib.hid (fostR_step T fst l k hlt)
    obtain⟨x,hxx⟩: ∃x,x=l[k]:=⟨_,rfl⟩
    rw[←hxx]at hx HN HST
    have Hr:=Lib.hid (H3.out.world hb)
    clear hb hxx
    cases hnm:namedF T x tableN
    ·rw[hnm]at HN HST
     go_wp2_with (go_at_call 197;go_must (refine HN.out.mono ?_;rintro e w4 ⟨rfl,hb4⟩;have HB4:=Lib.hid hb4;clear hb4))
     go_round
     case rel=>exact⟨k,by omega,by go_num,belowCall HBr.out HB4.out,by rw[HV.out,HST.out];rfl⟩
     case measure=>simp[intOf]
    ·rw[hnm,if_pos rfl]at HST
     rw[hnm]at HN
     go_wp2_with (go_at_call 197;go_must (refine HN.out.mono ?_;rintro e w4 ⟨rfl,hb4⟩;have HB4:=Lib.hid hb4;have z0:=cell_later hb4 f0;have zx:=cell_later hb4 hx;clear hb4))
     have H4:=Lib.hid (Hr.out.world HB4.out)
     have HPar:Hid (∀u,LI w0 B tb sb lb ex T l ent true u→Calls Tryz.prog 198 #[.pointer (some ⟨tb,0,none⟩),.int .i64 x] u fun e w'=>e= .returned (.int .i64 (parentQ T x))∧u=w'):=Lib.hid (fun u hu=>Parent_li hu x)
     have HBx:=Lib.hid (belowCall (belowCall HBT.out HBr.out) HB4.out)
     generalize parentQ T x=pr at *
     refine wp_region_calm (by kernel_rfl) (by kernel_rfl) ?_
     repeat
      with_reducible refine wpQuiet_step (fun K hK=> ?_)
      first
       |(with_reducible apply calm_skip
         ·rfl
         simp only[Act.put,List.setIfInBounds_toArray,List.set_cons_zero,List.set_cons_succ]
         refine hK _ ?_
         clear hK K)
       |(with_reducible apply calm_run
         ·rfl
         ·intro wq hC
          have zz0:=cell_later hC.out z0
          have zzx:=cell_later hC.out zx
          unfold Oper.quietAt
          go_simp
          first|done|(go_at_call 198;go_must (refine(HPar.out _ (H4.out.world hC.out)).mono ?_;rintro e wx ⟨rfl,rfl⟩;exact⟨rfl,hC⟩))|with_reducible rfl|rfl
         simp only[Act.put,List.setIfInBounds_toArray,List.set_cons_zero,List.set_cons_succ]
         refine hK _ ?_
         clear hK K)
     with_reducible refine wpQuiet_nil ?_
     intro wq HQ
     have zz0:=cell_later HQ.out z0
     have zzx:=cell_later HQ.out zx
     have HBy:=Lib.hid (belowCall HBx.out HQ.out)
     by_cases hp:0≤pr
     ·rw[if_pos hp]at HST
      go_wp2_with fail
      refine wp_region_calm (by kernel_rfl) (by kernel_rfl) ?_
      repeat
       with_reducible refine wpQuiet_step (fun K hK=> ?_)
       first
        |(with_reducible apply calm_skip
          ·rfl
          simp only[Act.put,List.setIfInBounds_toArray,List.set_cons_zero,List.set_cons_succ]
          refine hK _ ?_
          clear hK K)
        |(with_reducible apply calm_run
          ·rfl
          ·intro wq hC
           have zzzx:=cell_later hC.out zzx
           unfold Oper.quietAt
           go_simp
           first|done|with_reducible rfl|rfl
          simp only[Act.put,List.setIfInBounds_toArray,List.set_cons_zero,List.set_cons_succ]
          refine hK _ ?_
          clear hK K)
      with_reducible refine wpQuiet_nil ?_
      intro wq HQ
      have zzzx:=cell_later HQ.out zzx
      go_wp2_with fail
      go_ret2
      exact⟨by rw[HP2.out,HV.out,HST.out];rfl,belowCall HBy.out HQ.out⟩
     ·rw[if_neg hp]at HST
      by_cases hk0:k=0
      ·subst hk0
       rw[if_pos rfl]at HST
       go_wp2_with fail
       go_ret2
       exact⟨by rw[HP2.out,HV.out,HST.out];rfl,HBy.out⟩
      ·obtain⟨j,rfl⟩: ∃j,k=j+1:=⟨k-1,by omega⟩
       rw[if_neg hk0]at HST
       have hjl:j<l.length:=by omega
       have hy:=cell_later (belowCall (belowCall HBr.out HB4.out) HQ.out) (HA3.out.get (intsV_get l j hjl))
       have ej:l.getD (j+1-1) 0=l[j]:=by simp[List.getD,List.getElem?_eq_getElem hjl]
       rw[ej]at HST
       generalize l[j]=y at *
       clear hk0 ej
       go_wp2_with fail
       go_ret2
       exact⟨by rw[HP2.out,HV.out,HST.out];rfl,HBy.out⟩
end
end Go.Proofs.YtgepobccoffnaaaGreatDoor
namespace Go.Proofs.YtgepobccoffnaaaGreatDoor
open Go.RowKit Mem
noncomputable def insertL (T:TreeD) (l:List Int) (on:Bool) (sp:Int) (nm:ByteArray) (at':List Pair):TreeD×List Int×Int×Int :=
 let m:=mkF T (elemN sp nm at')
 if m.2.2=0 then((putE m.1 (placeQ m.1 l on 0).1 (placeQ m.1 l on 0).2 m.2.1).1,l++ [m.2.1],m.2.1,0)else(m.1,l,0,m.2.2)
section
variable {w0 w w':World} {B B' tb sb lb:Nat} {ex:Nat→Prop} {T T':TreeD} {l l' ent ent':List Int} {on on':Bool}
theorem Insert_li (h:LI w0 B tb sb lb ex T l ent on w) (hl:l.length<1000000) (sp:Int) (nm:ByteArray) (at':List Pair) (n:Nat) (a:Option Addr) (c:Nat) (hnl:n=at'.length) (hc:a=none→c=0) (hlen:at'.length≤1048576) (ha:At w a (pairsV at')) :
 Calls Tryz.prog 102 #[.pointer (some ⟨lb,0,none⟩),.int .i64 sp,.string nm,.slice a n c] w fun e w' =>
  e= .returned (.tuple #[.int .i64 (insertL T l on sp nm at').2.2.1,.int .i64 (insertL T l on sp nm at').2.2.2])∧LI w0 B tb sb lb ex (insertL T l on sp nm at').1 (insertL T l on sp nm at').2.1 ent on w'∧Keeps (Own w0 ex) w w':=by
 obtain⟨sa,sc,c0,c1,_⟩:=h.cells
 have HE:=Lib.hid (Elem_li h sp nm at' n a c hnl hc hlen ha)
 have HI:Hid (insertL T l on sp nm at'=if(mkF T (elemN sp nm at')).2.2=0 then((putE (mkF T (elemN sp nm at')).1 (placeQ (mkF T (elemN sp nm at')).1 l on 0).1 (placeQ (mkF T (elemN sp nm at')).1 l on 0).2 (mkF T (elemN sp nm at')).2.1).1,l++ [(mkF T (elemN sp nm at')).2.1],(mkF T (elemN sp nm at')).2.1,0)else((mkF T (elemN sp nm at')).1,l,0,(mkF T (elemN sp nm at')).2.2)):=Lib.hid rfl
 generalize mkF T (elemN sp nm at')=m at *
 obtain⟨U,x,er⟩:=m
 simp only at HE HI
 clear h hc ha hnl
 by_cases he:er=0
 ·rw[if_pos he]at HI
  subst he
  go_enter Tryz.func102,Tryz.ntmps102
  go_wp2_with (go_at_call 154;go_must (refine HE.out.mono ?_;rintro e w1 ⟨rfl,h1,k1⟩;have HP:=Lib.hid (Place_li h1 0);have H1:=Lib.hid h1;have K1:=Lib.hid k1;clear h1 k1))
  refine HP.out.mono ?_
  rintro e w2 ⟨rfl,hb2⟩
  have h2:=H1.out.world hb2
  obtain⟨sa2,sc2,d0,d1,_⟩:=h2.cells
  have HB2:=Lib.hid hb2
  generalize placeQ U l on 0=pl at *
  obtain⟨p,b⟩:=pl
  have HPut:=Lib.hid (Put_li h2 p b x)
  clear h2 hb2
  go_wp2_with (go_at_call 155;go_must (refine HPut.out.mono ?_;rintro e w3 ⟨rfl,h3,k3⟩;obtain⟨sa3,sc3,e0,e1,_⟩:=h3.cells;have HPush:=Lib.hid (SPush_li h3 x hl);have K3:=Lib.hid k3;clear h3 k3))
  refine HPush.out.mono ?_
  rintro e w4 ⟨rfl,h4,k4⟩
  have H4:=Lib.hid h4
  have K4:=Lib.hid k4
  clear h4 k4
  go_wp2_with fail
  go_ret2
  rw[HI.out]
  exact⟨rfl,H4.out,((K1.out.trans (Keeps.ofBelow HB2.out)).trans K3.out).trans K4.out⟩
 ·rw[if_neg he]at HI
  have he':(er==0)=false:=by simpa using he
  clear he
  go_enter Tryz.func102,Tryz.ntmps102
  go_wp2_with (go_at_call 154;go_must (refine HE.out.mono ?_;rintro e w1 ⟨rfl,h1,k1⟩;have H1:=Lib.hid h1;have K1:=Lib.hid k1;clear h1 k1))
  go_ret2
  rw[HI.out]
  exact⟨rfl,H1.out,K1.out⟩
theorem Text_li (h:LI w0 B tb sb lb ex T l ent on w) (s:ByteArray) {B':Nat} (hB:B+s.size≤B') (hB':B'≤9223372036854775807) :
 Calls Tryz.prog 98 #[.pointer (some ⟨lb,0,none⟩),.string s] w fun e w' =>
  e= .returned (.int .i64 (textE T (placeQ T l on 0).1 (placeQ T l on 0).2 s).2)∧LI w0 B' tb sb lb ex (textE T (placeQ T l on 0).1 (placeQ T l on 0).2 s).1 l ent on w'∧Keeps (Own w0 ex) w w':=by
 have HP:=Lib.hid (Place_li h 0)
 have HL:=Lib.hid h
 clear h
 obtain⟨p,b,hpl⟩: ∃p b,placeQ T l on 0=(p,b):=⟨_,_,rfl⟩
 rw[hpl]at HP ⊢
 clear hpl
 go_enter Tryz.func98,Tryz.ntmps98
 go_wp2_with fail
 refine HP.out.mono ?_
 rintro e w2 ⟨rfl,hb2⟩
 have h2:=HL.out.world hb2
 obtain⟨sa2,sc2,d0,d1,_⟩:=h2.cells
 have HB2:=Lib.hid hb2
 have HT:=Lib.hid (TText_li h2 p b s hB hB')
 clear h2 hb2
 go_wp2_with (go_at_call 153;go_must (refine HT.out.mono ?_;rintro e w3 ⟨rfl,h3,k3⟩;have H3:=Lib.hid h3;have K3:=Lib.hid k3;clear h3 k3))
 go_ret
 exact⟨rfl,H3.out,(Keeps.ofBelow HB2.out).trans K3.out⟩
theorem Foster_li (h:LI w0 B tb sb lb ex T l ent on w) (b:Bool) :
 Calls Tryz.prog 99 #[.pointer (some ⟨lb,0,none⟩),.bool b] w fun e w'=>e= .returned (.tuple #[])∧LI w0 B tb sb lb ex T l ent b w'∧Keeps (Own w0 ex) w w':=by
 obtain⟨ge,h1,h2,h3,h4⟩:=h
 obtain⟨a,c,c0,c1,c2,c3,hA,ho,f2,f3,hrow,hn,hne⟩:=h1.cells
 have HO:=Lib.hid ho
 have HR:=Lib.hid hrow
 have H2:=Lib.hid h2
 have H3:=Lib.hid h3
 have H4:=Lib.hid h4
 have HNE:=Lib.hid hne
 clear hA ho hrow h1 h2 h3 h4 hne
 go_enter Tryz.func99,Tryz.ntmps99
 go_wp2_with fail
 go_end0
 have hk:Keeps (SB lb ge) w (w.setCell ⟨lb,3,none⟩ (.bool b)):=(Keeps.refl _ _).set (p:=⟨lb,3,none⟩) (.inl (.inl rfl)) _
 have hl:LstO (w.setCell ⟨lb,3,none⟩ (.bool b)) lb tb sb ge ent b:=⟨.slice a ent.length c,Lib.heap_setCell_same (i:=3) HR.out _,HO.out.kept (fun k hk=>heap_setCell_other _ _ _ _ (fun e=>HNE.out (hk.trans (congrArg some e)))),HNE.out⟩
 exact⟨rfl,LI.lst_step H2.out H3.out H4.out hl hk (fun k hk=> .inl hk)⟩
theorem Mark_li (h:LI w0 B tb sb lb ex T l ent on w) (hle:ent.length<1000000) :
 Calls Tryz.prog 120 #[.pointer (some ⟨lb,0,none⟩)] w fun e w'=>e= .returned (.tuple #[])∧LI w0 B tb sb lb ex T l (ent++ [-1]) on w'∧Keeps (Own w0 ex) w w':=by
 obtain⟨ge,h1,h2,h3,h4⟩:=h
 obtain⟨n,hn1⟩: ∃n:Int,n= -1:=⟨_,rfl⟩
 rw[←hn1]
 have HM:=Lib.hid hn1
 have hlt:=h1.lt lb (.inl rfl)
 have hgl:=fun k hk=>h1.lt k (.inr hk)
 obtain⟨a,c,c0,c1,c2,c3,hA,ho,f2,f3,hrow,hn,hne⟩:=h1.cells
 have d1:(w.alloc (.cells #[.int .i64 n] 3)).heap[lb]?=w.heap[lb]?:=heap_alloc_old w _ hlt
 have HQ:=Lib.hid (ho.1.alloc (.cells #[.int .i64 n] 3))
 have HB0:Hid ((Value.slice a ent.length c).ownBlock=ge):=ho.2
 have HN:=Lib.hid (show At (w.alloc (.cells #[.int .i64 n] 3)) (some ⟨w.heap.size,0,none⟩) (intsV [n])from at_alloc rfl rfl)
 obtain⟨i0,hi,hz0,hz1,hz2⟩:=info_parts stk_int
 have b0:ent.length+1≤maxLen:=by unfold maxLen;omega
 have b1:(ent.length+1)*8≤140737488355328:=by omega
 have hsz:lb<(w.alloc (.cells #[.int .i64 n] 3)).heap.size:=by simp;omega
 have HR:=Lib.hid (d1.trans hrow)
 have HNE:Hid (some lb≠(Value.slice a ent.length c).ownBlock):=Lib.hid (by rw[HB0.out];exact hne.symm)
 have HL:=Lib.hid hgl
 have HGS:=Lib.hid hne
 have H2:=Lib.hid h2
 have H3:=Lib.hid h3
 clear hrow ho hne hA d1 h1 h2 h3 hgl
 go_enter Tryz.func120,Tryz.ntmps120
 rw[←hn1]
 clear hn1
 go_wp2_with (at_builtin;go_must (refine wpList_append_lies _ rfl _ _ 75 rfl 0 3 i0 _ 1 8 Tryz.underlying75 hi hz0 hz1 hz2 rfl (by decide) _ ent.length (intsV ent) rfl HQ.out ⟨w.heap.size,0,none⟩ 1 1 (intsV [n]) rfl rfl HN.out.news (intsV_one _) (by decide) b0 b1 (Nat.zero_le _) (w.heap.size+1) (by simp) ?_;intro g2 cap2 w2 hown2 hgr2 hat2 hlt2;have hb2:=(hgr2.block lb hsz HNE.out).trans HR.out;have HRR:=Lib.hid hb2;have s1:=Row.cell (xs:= [.pointer (some ⟨tb,0,none⟩),.pointer (some ⟨sb,0,none⟩),.slice a ent.length c,.bool on]) ⟨_,_,_,_,hb2,rfl,.inr rfl⟩ (j:=2) rfl;have f1:=Row.frozen (xs:= [.pointer (some ⟨tb,0,none⟩),.pointer (some ⟨sb,0,none⟩),.slice a ent.length c,.bool on]) ⟨_,_,_,_,hb2,rfl,.inr rfl⟩ (j:=2) (by simp);have HO2:=Lib.hid hown2;have HG2:=Lib.hid hgr2;have HA2:=Lib.hid hat2;clear hown2 hgr2 hb2 hat2))
 go_end0
 have hg2:ge=some g2∨w.heap.size+1=g2:=by
  rcases HA2.out with h|h
  ·exact .inl (HB0.out.symm.trans h)
  ·exact .inr h.symm
 have hne2:g2≠lb:=by
  rintro rfl
  rcases hg2 with h|h
  ·exact HGS.out h
  ·omega
 have hk:Keeps (SB lb ge) w (w2.setCell ⟨lb,2,none⟩ (.slice (some ⟨g2,0,none⟩) (ent.length+1) cap2)):=(stk_grown ((Keeps.refl _ _).alloc _) HG2.out fun k hk=> .inl (.inr (HB0.out.symm.trans hk))).set (p:=⟨lb,2,none⟩) (.inl (.inl rfl)) _
 have hls:LstO (w2.setCell ⟨lb,2,none⟩ (.slice (some ⟨g2,0,none⟩) (ent.length+1) cap2)) lb tb sb (some g2) (ent++ [n]) on:=by
  refine⟨.slice (some ⟨g2,0,none⟩) (ent.length+1) cap2,Lib.heap_setCell_same (i:=2) HRR.out _,⟨?_,rfl⟩,by simpa using hne2⟩
  have:=own_kept HO2.out (w':=w2.setCell ⟨lb,2,none⟩ (.slice (some ⟨g2,0,none⟩) (ent.length+1) cap2)) fun b hb=>heap_setCell_other _ _ _ _ (by simp only[Value.ownBlock,Option.some.injEq]at hb;subst hb;exact hne2)
  rw[intsV_append,List.length_append]
  exact this
 exact⟨rfl,LI.lst_step H2.out H3.out (by rw[List.length_append,List.length_singleton];omega) hls hk (fun k hk=>by cases hk;exact hg2.imp id (fun h=>by omega))⟩
theorem Remove_li (h:LI w0 B tb sb lb ex T l ent on w) (n:Int) :
 Calls Tryz.prog 168 #[.pointer (some ⟨lb,0,none⟩),.int .i64 n] w fun e w'=>e= .returned (.tuple #[])∧LI w0 B tb sb lb ex T l (rmF ent n) on w'∧Keeps (Own w0 ex) w w':=by
 have HF:=Lib.hid (find_li h n)
 have HD:=Lib.hid (drop_li h (rfind ent n) (rfind_spec ent n).2.1)
 clear h
 go_enter Tryz.func168,Tryz.ntmps168
 go_wp2_with (first|(go_at_call 209;go_must (refine HF.out.mono ?_;rintro e w1 ⟨rfl,rfl⟩))|(go_at_call 208;go_must (refine HD.out.mono ?_;rintro e w1 ⟨rfl,h1,k1⟩;have H1:=Lib.hid h1;have K1:=Lib.hid k1;clear h1 k1)))
 go_end0
 exact⟨rfl,H1.out,K1.out⟩
end
end Go.Proofs.YtgepobccoffnaaaGreatDoor
end
section
namespace Go.Proofs.YtgepobccoffnaaaGreatDoor
open Go.RowKit Mem
theorem pair_bne (p q:Pair):(!((p.1.toList==q.1.toList)&&(p.2.toList==q.2.toList)))= !decide (p=q):=by
 rcases p with⟨p1,p2⟩
 rcases q with⟨q1,q2⟩
 congr 1
 by_cases h1:p1=q1
 ·by_cases h2:p2=q2
  ·simp[h1,h2]
  ·have:p2.toList≠q2.toList:=fun e=>h2 (toList_inj e)
   simp[h2,this]
 ·have:p1.toList≠q1.toList:=fun e=>h1 (toList_inj e)
  simp[h1,this]
theorem attr_under:Tryz.prog.underlying 57=some (.struct (Tryz.prog.fieldsOf 57)):=by kernel_rfl
theorem attr_stood:Tryz.prog.stoodInHeld 57=false:=by kernel_rfl
theorem eql_attr (p q:Pair) (u:World):(binOp .eql 57 (.agg #[.string p.1,.string p.2]) (.agg #[.string q.1,.string q.2])).run Tryz.prog u= .ok (.bool (decide (p=q))) u:=by
 rw[←Bool.not_not (decide (p=q)),←pair_bne,run_eql_struct,show(10000:Nat)=9999+1 from rfl,run_equalIn_agg _ _ _ _ _ attr_under attr_stood]
 simp[go_sem,Op.eqFields]
 by_cases h1:p.1.toList=q.1.toList <;>by_cases h2:p.2.toList=q.2.toList <;>simp[h1,h2]
end Go.Proofs.YtgepobccoffnaaaGreatDoor
end
