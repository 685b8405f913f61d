/- Texts joined for a claim: FmA: plain laws and contracts. No conditions beyond those that each lemma types. -/
import Derived.Test.YtgepobccoffnaaaGreatDoorT09
set_option linter.unusedVariables false
set_option linter.unusedSimpArgs false
set_option maxRecDepth 100000
set_option maxHeartbeats 8000000
section
namespace Go.Proofs.YtgepobccoffnaaaGreatDoor
open Go.RowKit Mem
def LstO (w:World) (lb tb sb:Nat) (ge:Option Nat) (l:List Int) (on:Bool):Prop :=
 ∃v,w.heap[lb]?=some (.cells #[.pointer (some ⟨tb,0,none⟩),.pointer (some ⟨sb,0,none⟩),v,.bool on] 99 (0,0))∧OwnI w v ge l∧ge≠some lb
section
variable {w w':World} {lb tb sb:Nat} {ge:Option Nat} {l:List Int} {on:Bool}
theorem LstO.lt (h:LstO w lb tb sb ge l on): ∀k,SB lb ge k→k<w.heap.size:=by
 obtain⟨v,h1,h2,_⟩:=h
 rintro k (rfl|hk)
 ·exact row_lt h1
 ·exact h2.lt k hk
theorem LstO.kept {F:Nat→Prop} (h:LstO w lb tb sb ge l on) (hk:Keeps F w w') (hF: ∀k,SB lb ge k→ ¬F k):LstO w' lb tb sb ge l on:=by
 have hlt:=h.lt
 obtain⟨v,h1,h2,h3⟩:=h
 exact⟨v,(hk.block lb (hlt lb (.inl rfl)) (hF lb (.inl rfl))).trans h1,h2.kept fun k hk'=>hk.block k (hlt k (.inr hk')) (hF k (.inr hk')),h3⟩
theorem LstO.below (h:LstO w lb tb sb ge l on) (hb:Below w.heap.size w w'):LstO w' lb tb sb ge l on:=h.kept (F:=fun _=>False) (Keeps.ofBelow hb) fun _ _ h=>h
theorem LstO.cells (h:LstO w lb tb sb ge l on): ∃a c,w.cell? ⟨lb,0,none⟩=some (.pointer (some ⟨tb,0,none⟩))∧w.cell? ⟨lb,1,none⟩=some (.pointer (some ⟨sb,0,none⟩))∧w.cell? ⟨lb,2,none⟩=some (.slice a l.length c)∧w.cell? ⟨lb,3,none⟩=some (.bool on) ∧
 At w a (intsV l)∧OwnI w (.slice a l.length c) ge l∧w.frozen? ⟨lb,2,none⟩=false∧w.frozen? ⟨lb,3,none⟩=false ∧
 w.heap[lb]?=some (.cells #[.pointer (some ⟨tb,0,none⟩),.pointer (some ⟨sb,0,none⟩),.slice a l.length c,.bool on] 99 (0,0))∧(a=none→c=0)∧ge≠some lb:=by
 obtain⟨v,h1,h2,h3⟩:=h
 obtain⟨a,c,rfl,hat,hn⟩:=own_slice h2.1
 have hr:Row w lb [.pointer (some ⟨tb,0,none⟩),.pointer (some ⟨sb,0,none⟩),.slice a l.length c,.bool on]:=⟨_,_,_,_,h1,rfl,.inr rfl⟩
 exact⟨a,c,hr.cell (j:=0) rfl,hr.cell (j:=1) rfl,hr.cell (j:=2) rfl,hr.cell (j:=3) rfl,hat,h2,hr.frozen (j:=2) (by simp),hr.frozen (j:=3) (by simp),h1,hn,h3⟩
end
section
variable (w:World) (lb tb sb:Nat) (ge:Option Nat) (l:List Int) (on:Bool)
theorem lst_new:Calls Tryz.prog 29 #[.pointer (some ⟨tb,0,none⟩),.pointer (some ⟨sb,0,none⟩)] w fun e w'=>e= .returned (.pointer (some ⟨w.heap.size,0,none⟩))∧LstO w' w.heap.size tb sb none [] false∧Below w.heap.size w w'∧w.heap.size<w'.heap.size:=by
 go_enter Tryz.func29,Tryz.ntmps29
 go_wp2
 go_ret
 exact⟨rfl,⟨.slice none 0 0,heap_alloc_new _ _,OwnI.nil _,by simp⟩,(Below.refl _ _).alloc (Nat.le_refl _) _,by simp⟩
theorem lst_find (h:LstO w lb tb sb ge l on) (n:Int) (hl:l.length≤1048576):Calls Tryz.prog 209 #[.pointer (some ⟨lb,0,none⟩),.int .i64 n] w fun e w'=>e= .returned (.int .i64 (rfind l n))∧w=w':=by
 obtain⟨a,c,_,_,c1,_,hat,_⟩:=h.cells
 have HA:=Lib.hid hat
 clear h hat
 go_enter Tryz.func209,Tryz.ntmps209
 go_wp2_with fail
 go_loop [5] (fun q=> ∃k:Nat,k≤l.length∧q= .int .i64 ((k:Int)-1)∧ ∀(j:Nat) (h:j<l.length),k≤j→l[j]≠n) (fun q=>(intOf q+1).toNat)
 case atStart=>exact⟨l.length,Nat.le_refl _,rfl,fun j h h'=>absurd h (by omega)⟩
 case round =>
  obtain⟨k,hk,rfl,hno⟩:=hrel
  have HN:=Lib.hid hno
  clear hno
  cases k with
  |zero =>
   have HR:Hid (rfind l n= -1):=Lib.hid (rfind_eq (by omega) (by omega) (fun j h _=>HN.out j h (by omega)) (fun j h e=>absurd e (by omega)))
   go_wp2_with fail
   go_ret
   exact⟨ret_int (by rw[HR.out] <;>rfl),rfl⟩
  |succ k =>
   obtain⟨bb,o,rfl⟩:=HA.out.some_of (by intro h;have:=congrArg List.length h;rw[intsV_length,List.length_nil]at this;omega)
   have hx:=HA.out.get (intsV_get l k (by omega))
   have e1:((k+1:Nat):Int)-1=(k:Int):=by omega
   rw[e1]
   by_cases hq:l[k]=n
   ·have HR:Hid (rfind l n=k):=Lib.hid (rfind_eq (by omega) (by omega) (fun j h hj=>HN.out j h (by omega)) (fun j h e=>(by obtain rfl:k=j:=(by omega);exact hq)))
    have q0:(l[k]==n)=true:=by rw[beq_iff_eq];exact hq
    have HQ:=Lib.hid hq
    clear hq
    go_wp2_with fail
    go_ret
    exact⟨ret_int (by rw[HR.out]),rfl⟩
   ·have q0:(l[k]==n)=false:=by rw[beq_eq_false_iff_ne];exact hq
    have HQ:=Lib.hid hq
    clear hq
    go_wp2_with fail
    go_round
    case rel=>exact⟨k,by omega,by go_num,fun j h hj=>if h':k<j then HN.out j h h' else(by obtain rfl:k=j:=(by omega);exact HQ.out)⟩
    case measure=>simp[intOf]
theorem lst_hand (h:LstO w lb tb sb ge l on) (hl:l.length≤1048576):Calls Tryz.prog 179 #[.pointer (some ⟨lb,0,none⟩)] w fun e w'=>e= .returned (.int .i64 (rfind l (-1)+1))∧w=w':=by
 obtain⟨a,c,_,_,c1,_,hat,_⟩:=h.cells
 have HA:=Lib.hid hat
 clear h hat
 obtain⟨n,hn⟩: ∃n:Int,n= -1:=⟨_,rfl⟩
 rw[←hn]
 have HNN:=Lib.hid hn
 go_enter Tryz.func179,Tryz.ntmps179
 rw[←hn]
 clear hn
 go_wp2_with fail
 go_loop [3] (fun q=> ∃k:Nat,k≤l.length∧q= .int .i64 ((k:Int)-1)∧ ∀(j:Nat) (h:j<l.length),k≤j→l[j]≠n) (fun q=>(intOf q+1).toNat)
 case atStart=>exact⟨l.length,Nat.le_refl _,rfl,fun j h h'=>absurd h (by omega)⟩
 case round =>
  obtain⟨k,hk,rfl,hno⟩:=hrel
  have HN:=Lib.hid hno
  clear hno
  cases k with
  |zero =>
   have HR:Hid (rfind l n= -1):=Lib.hid (rfind_eq (by omega) (by omega) (fun j h _=>HN.out j h (by omega)) (fun j h e=>absurd e (by omega)))
   go_wp2_with fail
   go_ret
   exact⟨ret_int (by rw[HR.out] <;>rfl),rfl⟩
  |succ k =>
   obtain⟨bb,o,rfl⟩:=HA.out.some_of (by intro h;have:=congrArg List.length h;rw[intsV_length,List.length_nil]at this;omega)
   have hx:=HA.out.get (intsV_get l k (by omega))
   have e1:((k+1:Nat):Int)-1=(k:Int):=by omega
   rw[e1]
   by_cases hq:l[k]=n
   ·have HR:Hid (rfind l n=k):=Lib.hid (rfind_eq (by omega) (by omega) (fun j h hj=>HN.out j h (by omega)) (fun j h e=>(by obtain rfl:k=j:=(by omega);exact hq)))
    have q0:(l[k]==n)=true:=by rw[beq_iff_eq];exact hq
    have HQ:=Lib.hid hq
    clear hq
    go_wp2_with fail
    go_ret
    exact⟨ret_int (by rw[HR.out]),rfl⟩
   ·have q0:(l[k]==n)=false:=by rw[beq_eq_false_iff_ne];exact hq
    have HQ:=Lib.hid hq
    clear hq
    go_wp2_with fail
    go_round
    case rel=>exact⟨k,by omega,by go_num,fun j h hj=>if h':k<j then HN.out j h h' else(by obtain rfl:k=j:=(by omega);exact HQ.out)⟩
    case measure=>simp[intOf]
theorem lst_all (h:LstO w lb tb sb ge l on) (hl:l.length≤1048576):Calls Tryz.prog 223 #[.pointer (some ⟨lb,0,none⟩)] w fun e w'=> ∃v,e= .returned v∧w'.ownsRow w.heap.size 3 1 v l.length (intsV l)∧Below w.heap.size w w':=by
 have hlt:=h.lt lb (.inl rfl)
 obtain⟨a,c,_,_,c1,_,hat,hown,_,_,_,hc0,_⟩:=h.cells
 have HK:=Lib.hid (hat.below ((Below.refl _ _).alloc (Nat.le_refl _) (.cells #[] 3)))
 have HE:Hid ((w.alloc (.cells #[] 3)).ownsRow w.heap.size 3 1 (.slice (some ⟨w.heap.size,0,none⟩) 0 0) 0 []):=World.ownsRow_lit w #[] 0 (Nat.le_refl _) (Nat.zero_le _) rfl
 have H3:=Lib.hid hc0
 obtain⟨i0,hi,hz0,hz1,hz2⟩:=info_parts stk_int
 have b0:0+l.length≤maxLen:=by unfold maxLen;omega
 have b1:(0+l.length)*8≤140737488355328:=by omega
 have HNL:=Lib.hid (show(intsV l).length=l.length*1 by rw[intsV_length,Nat.mul_one])
 have HZ:Hid (w.heap.size≤(w.alloc (.cells #[] 3)).heap.size):=by show _≤_;simp
 clear h hat hown hc0
 go_enter Tryz.func223,Tryz.ntmps223
 go_wp2_with (at_builtin;go_must (refine wpList_append_slice _ rfl _ _ 75 rfl w.heap.size 3 i0 _ 1 8 Tryz.underlying75 hi hz0 hz1 hz2 rfl (by decide) _ 0 [] rfl HE.out a l.length c (intsV l) rfl HNL.out H3.out HK.out (intsV_one l) b0 b1 HZ.out ?_;intro v2 w2 hown2 hgr2;simp only[Nat.zero_add,List.nil_append]at hown2;have HO2:=Lib.hid hown2;have HG2:=Lib.hid hgr2;clear hown2 hgr2))
 go_ret
 exact⟨_,rfl,HO2.out,((Below.refl _ _).alloc (Nat.le_refl _) _).grown HG2.out HZ.out (fun b h=>(HE.out.lt b h).1)⟩
end
end Go.Proofs.YtgepobccoffnaaaGreatDoor
namespace Go.Proofs.YtgepobccoffnaaaGreatDoor
open Go.RowKit Mem
section
variable {w:World} {base:Nat} {e:TypeId} {g n cap:Nat}
theorem own_setCells: ∀(vs:List Value) (o:Nat) (w:World) (xs:List Value),w.ownsRow base e 1 (.slice (some ⟨g,0,none⟩) n cap) n xs→o+vs.length≤n →
 (w.setCells g o vs).ownsRow base e 1 (.slice (some ⟨g,0,none⟩) n cap) n (xs.take o++vs++xs.drop (o+vs.length))∧Keeps (· =g) w (w.setCells g o vs)
 | [],o,w,xs,h,_=>by simpa[World.setCells] using ⟨h,Keeps.refl _ _⟩
 |v::r,o,w,xs,h,hn=>by
  have hl:xs.length=n:=by have:=h.1;omega
  have h1:=(h.stored o v).1
  simp only[List.length_cons]at hn
  obtain⟨h2,h3⟩:=own_setCells r (o+1) _ _ h1 (by omega)
  refine⟨?_,((Keeps.refl (· =g) w).set (p:=⟨g,o,none⟩) (.inl rfl) v).trans h3⟩
  rw[World.setCells]
  have e1:(xs.set o v).take (o+1)=xs.take o++ [v]:=by
   rw[List.take_set,List.take_succ_eq_append_getElem (by omega),List.set_append_right _ _ (by rw[List.length_take];omega)]
   have:o-(List.take o xs).length=0:=by rw[List.length_take];omega
   rw[this]
   rfl
  have e2:(xs.set o v).drop (o+1+r.length)=xs.drop (o+(r.length+1)):=by
   rw[List.drop_set_of_lt (by omega)]
   congr 1
   omega
  rw[e1,e2]at h2
  simpa using h2
end
theorem keeps_drewN (F:Nat→Prop) (w:World) (q:Nat):Keeps F w (w.drewN q):=Keeps.ofBelow (stk_drewN w q)
theorem own_drewN {w:World} {base:Nat} {e:TypeId} {size:Nat} {v:Value} {n:Nat} {xs:List Value} (h:w.ownsRow base e size v n xs) (q:Nat):(w.drewN q).ownsRow base e size v n xs:=own_kept h fun _ _=>rfl
theorem own_short {w:World} {base:Nat} {e:TypeId} {a:Option Addr} {n c k:Nat} {xs:List Value} (h:w.ownsRow base e 1 (.slice a n c) n xs) (hk:k≤n):w.ownsRow base e 1 (.slice a k c) k (xs.take k):=by
 rcases h.2 with⟨he,h0⟩|⟨g,cap,cur,he,hbg,hg,hnc,hcm,hcs,htake⟩
 ·obtain rfl:k=0:=by omega
  have:=h.1
  injection he with e1 e2 e3
  subst e1 e3
  exact⟨by simp,.inl ⟨rfl,rfl⟩⟩
 ·injection he with e1 _ e3
  subst e1 e3
  have hl:=h.1
  refine⟨by rw[List.length_take];omega,.inr ⟨g,c,cur,rfl,hbg,hg,by omega,hcm,hcs,?_⟩⟩
  rw[←htake,List.take_take,Nat.min_eq_left (by omega),Nat.mul_one]
theorem own_ints {w:World} {base:Nat} {g n c:Nat} {l:List Int} (h:w.ownsRow base 3 1 (.slice (some ⟨g,0,none⟩) n c) n (intsV l)):l.length=n∧(∀j,j<l.length→w.cell? ⟨g,0+j,none⟩=some (.int .i64 (l.getD j 0)))∧ ∀j,w.frozen? ⟨g,j,none⟩=false:=by
 have hl:l.length=n:=by have:=h.1;rw[intsV_length]at this;omega
 refine⟨hl,fun j hj=> ?_,h.frozenAt⟩
 have:=(own_row h).cell (intsV_get l j hj)
 rw[Nat.zero_add,this]
 simp[List.getD,List.getElem?_eq_getElem hj]
theorem del_any (w:World) (base g c i:Nat) (l:List Int) (h:w.ownsRow base 3 1 (.slice (some ⟨g,0,none⟩) l.length c) l.length (intsV l)) (hi:i<l.length) :
 Calls Tryz.prog 161 #[.slice (some ⟨g,0,none⟩) l.length c,.int .i64 i,.int .i64 (i+1)] w fun e w' =>
  e= .returned (.slice (some ⟨g,0,none⟩) (l.length-1) c)∧w'.ownsRow base 3 1 (.slice (some ⟨g,0,none⟩) (l.length-1) c) (l.length-1) (intsV (l.eraseIdx i))∧Keeps (· =g) w w':=by
 obtain⟨_,hc,hf⟩:=own_ints h
 obtain⟨_,cc,hv,k1,k2,_⟩:=own_at h
 injection hv with _ _ e3
 subst e3
 unfold maxLen at k2
 refine(Any.slices_Delete_int_cells lays2_23 g 0 l.length c i (i+1) l w (Nat.le_refl _) k1 k2 (by omega) (by omega) hc (fun j _=>by rw[Nat.zero_add];exact hf j)).mono ?_
 rintro e w' ⟨he,q,rfl⟩
 have h1:i+1-i=1:=by omega
 rw[h1]at he ⊢
 rw[List.take_of_length_le (Nat.le_refl _)]
 refine⟨he,?_,?_⟩
 ·have h2:=(own_setCells (((l.take i++l.drop (i+1))++List.replicate 1 0).map (Value.int .i64)) 0 (w.drewN q) _ (own_drewN h q) (by simp;omega)).1
  have h3:=own_short h2 (k:=l.length-1) (by omega)
  have h4:(intsV (l.eraseIdx i)).length=l.length-1:=by rw[intsV_length,List.length_eraseIdx];simp[hi]
  have e4:List.take (l.length-1) (List.take 0 (intsV l)++List.map (Value.int IntKind.i64) ((l.take i++l.drop (i+1))++List.replicate 1 0)++List.drop (0+(List.map (Value.int IntKind.i64) ((l.take i++l.drop (i+1))++List.replicate 1 0)).length) (intsV l))=intsV (l.eraseIdx i):=by
   rw[List.eraseIdx_eq_take_drop_succ]at h4 ⊢
   rw[List.take_zero,List.nil_append,List.map_append,List.append_assoc]
   exact List.take_left' h4
  rw[e4]at h3
  exact h3
 ·exact(keeps_drewN _ w q).trans (own_setCells _ 0 (w.drewN q) _ (own_drewN h q) (by simp;omega)).2
end Go.Proofs.YtgepobccoffnaaaGreatDoor
namespace Go.Proofs.YtgepobccoffnaaaGreatDoor
open Go.RowKit Mem
theorem own_more {w:World} {base:Nat} {e:TypeId} {g n c:Nat} {xs:List Value} (h:w.ownsRow base e 1 (.slice (some ⟨g,0,none⟩) n c) n xs) (hc:n+1≤c): ∃y,w.ownsRow base e 1 (.slice (some ⟨g,0,none⟩) (n+1) c) (n+1) (xs++ [y]):=by
 rcases h.2 with⟨he,_⟩|⟨g',cap,cur,he,hbg,hg,hnc,hcm,hcs,htake⟩
 ·cases he
 ·injection he with e1 _ e3
  injection e1 with e1
  injection e1 with e1
  subst e1 e3
  have hlt:n<cur.toList.length:=by rw[Array.length_toList];omega
  refine⟨cur.toList[n],by simp[h.1],.inr ⟨g,c,cur,rfl,hbg,hg,hc,hcm,hcs,?_⟩⟩
  rw[Nat.mul_one]at htake ⊢
  rw[List.take_succ_eq_append_getElem hlt,htake]
theorem own_new (w:World) (base n:Nat) (e:TypeId) (A:Array Value) (hb:base≤w.heap.size) (hn:n≤A.size) (hm:A.size≤maxLen):(w.alloc (.cells A e)).ownsRow base e 1 (.slice (some ⟨w.heap.size,0,none⟩) n A.size) n (A.toList.take n) :=
 ⟨by rw[List.length_take,Array.length_toList];omega,.inr ⟨w.heap.size,A.size,A,rfl,hb,heap_alloc_new _ _,hn,hm,by omega,by rw[Nat.mul_one]⟩⟩
def insAt (l:List Int) (i:Nat) (x:Int):List Int:=l.take i++x::l.drop i
theorem insAt_len (l:List Int) (i:Nat) (x:Int) (h:i≤l.length):(insAt l i x).length=l.length+1:=by simp[insAt];omega
theorem intsV_take (l:List Int) (k:Nat):intsV (l.take k)=(intsV l).take k:=by simp[intsV,List.map_take]
theorem intsV_drop (l:List Int) (k:Nat):intsV (l.drop k)=(intsV l).drop k:=by simp[intsV,List.map_drop]
theorem ins_any (w:World) (base:Nat) (a:Option Addr) (c i:Nat) (l:List Int) (x:Int) (vb:Nat) (h:w.ownsRow base 3 1 (.slice a l.length c) l.length (intsV l)) (hi:i≤l.length) (hbase:base≤w.heap.size) (hl:l.length≤1048576)
 (hv:w.heap[vb]?=some (.cells #[.int .i64 x] 3 (0,0))) (hne: ∀k,(Value.slice a l.length c).ownBlock=some k→vb≠k) :
 Calls Tryz.prog 237 #[.slice a l.length c,.int .i64 i,.slice (some ⟨vb,0,none⟩) 1 1] w fun e w' =>
  ∃v',e= .returned v'∧w'.ownsRow base 3 1 v' (l.length+1) (intsV (insAt l i x))∧Keeps (fun k=>(Value.slice a l.length c).ownBlock=some k) w w'∧(∀k,v'.ownBlock=some k→(Value.slice a l.length c).ownBlock=some k∨w.heap.size≤k):=by
 have hvs: ∀j v,[Value.int .i64 x][j]?=some v→w.cell? ⟨vb,0+j,none⟩=some v:=by
  intro j v hj
  rw[Nat.zero_add,cell_of_row w vb j _ _ _ hv]
  simpa using hj
 have h1v: ∀v∈ [Value.int .i64 x],v.oneCell'=true:=by simp[Value.oneCell']
 have hins:intsV (insAt l i x)=(intsV l).take i++Value.int .i64 x::(intsV l).drop i:=by
  rw[insAt,intsV_append,intsV_take]
  show _++(Value.int .i64 x::intsV (l.drop i))=_
  rw[intsV_drop]
 have hxl:(intsV l).length=l.length:=intsV_length l
 rw[hins]
 have hm1:l.length+1≤maxLen:=by unfold maxLen;omega
 have hb1:(l.length+1)*8≤140737488355328:=by omega
 by_cases hin:i<l.length
 ·obtain⟨g,cap,he,_,hnc,hcm⟩:=own_some h (by omega)
  injection he with e1 _ e3
  subst e1
  subst e3
  have hcs: ∀j v,(intsV l)[j]?=some v→w.cell? ⟨g,0+j,none⟩=some v:=fun j v hj=>by rw[Nat.zero_add];exact(own_row h).cell hj
  by_cases hroom:l.length+1≤c
  ·obtain⟨y,hy⟩:=own_more h hroom
   have hcells: ∀j,j<l.length+1→(w.cell? ⟨g,0+j,none⟩).isSome=true:=fun j hj=>by
    have hjl:j<(intsV l++ [y]).length:=by simp[hxl];omega
    rw[Nat.zero_add,(own_row hy).cell (List.getElem?_eq_getElem hjl)]
    rfl
   have hvb:vb≠g:=hne g rfl
   rcases h.2 with⟨he,_⟩|⟨g',cap',cur,he,_,hg,_,_,hcsz,_⟩
   ·cases he
   injection he with e1 _ e3
   injection e1 with e1
   injection e1 with e1
   subst e1 e3
   unfold maxLen at hcm
   have hr:=Any2.slices_Insert_int_shift lays2_23i g 0 l.length c i vb 0 1 1 (intsV l) [.int .i64 x] w hin (by omega) hroom hcm hvb hxl rfl hcs hcells (fun j _=>by rw[Nat.zero_add];exact h.frozenAt j) hvs (intsV_one l) h1v
    3 3 1 c (by simp[World.shape?,hv]) (by simp[World.shape?,hg,hcsz]) (by omega) (frozen_of_row _ _ _ _ _ hv) (frozen_of_row _ _ _ _ _ hv)
   refine hr.mono ?_
   rintro e w' ⟨he,rfl⟩
   obtain⟨h2,k2⟩:=own_setCells ((intsV l).drop i) (0+(i+1)) w.drew _ (own_drewN hy 1) (by rw[List.length_drop,hxl];omega)
   obtain⟨h3,k3⟩:=own_setCells [.int .i64 x] (0+i) _ _ h2 (by simp;omega)
   refine⟨_,he,?_,(((Keeps.refl (· =g) w).drew.trans k2).trans k3).mono (fun k _ hk=>by rw[hk];rfl),fun k hk=> .inl hk⟩
   have e1:(List.take (0+i) (List.take (0+(i+1)) (intsV l++ [y])++(intsV l).drop i++List.drop (0+(i+1)+((intsV l).drop i).length) (intsV l++ [y]))++ [Value.int .i64 x] ++
    List.drop (0+i+1) (List.take (0+(i+1)) (intsV l++ [y])++(intsV l).drop i++List.drop (0+(i+1)+((intsV l).drop i).length) (intsV l++ [y])))=(intsV l).take i++Value.int .i64 x::(intsV l).drop i:=by
    have t1:List.take (i+1) (intsV l++ [y])=(intsV l).take (i+1):=List.take_append_of_le_length (by omega)
    have t2:List.drop (i+1+((intsV l).drop i).length) (intsV l++ [y])= []:=List.drop_of_length_le (by rw[List.length_drop,List.length_append,hxl];simp;omega)
    simp only[Nat.zero_add]
    rw[t1,t2,List.append_nil]
    have t3:((intsV l).take (i+1)).length=i+1:=by rw[List.length_take,hxl];omega
    rw[List.take_append_of_le_length (by omega),List.take_take,Nat.min_eq_left (by omega),List.drop_left' t3]
    simp
   rw[show(0+i+ [Value.int IntKind.i64 x].length)=0+i+1 from rfl,e1]at h3
   exact h3
  ·have hr:=Any2.slices_Insert_int_grow lays2_23i g 0 l.length c i vb 0 1 1 (intsV l) [.int .i64 x] w hin (by omega) hnc (by omega) hb1 hxl rfl hcs hvs (intsV_one l) h1v
   refine hr.mono ?_
   rintro e w' ⟨he,rfl⟩
   have hge:=grownCap_ge w (l.length+1) c 3
   have hle:=grownCap_le_maxLen w (l.length+1) c 3 hm1
   have hz:(Value.int .i64 0).cells.size=1:=rfl
   obtain⟨A,hA⟩: ∃A,A=((intsV l).take i).toArray++Builtin.zeroCells (Value.int .i64 0).cells (l.length+1-i)++Builtin.zeroCells (Value.int .i64 0).cells (grownCap w (l.length+1) c 3-(l.length+1)):=⟨_,rfl⟩
   have hsz:A.size=grownCap w (l.length+1) c 3:=by
    rw[hA]
    simp only[Array.size_append,size_zeroCells,hz,List.size_toArray,List.length_take,hxl]
    omega
   have hA':shelfRen2.t 3=3:=rfl
   rw[hA']at he ⊢
   rw[←hA]
   rw[←hsz]at he hge hle
   have hi0:(A.toList.take (l.length+1)).take i=(intsV l).take i:=by
    rw[List.take_take,Nat.min_eq_left (by omega),hA]
    simp only[Array.toList_append,List.append_assoc]
    exact List.take_left' (by rw[List.length_take,hxl];omega)
   obtain⟨h2,k2⟩:=own_setCells [.int .i64 x] i _ _ (own_drewN (own_new w base (l.length+1) 3 A hbase hge hle) 1) (by simp;omega)
   obtain⟨h3,k3⟩:=own_setCells ((intsV l).drop i) (i+1) _ _ (own_drewN h2 1) (by rw[List.length_drop,hxl];omega)
   refine⟨_,he,?_,?_,fun k hk=> .inr (by simp only[Value.ownBlock,Option.some.injEq]at hk;omega)⟩
   ·have hl2:(A.toList.take (l.length+1)).length=l.length+1:=by
     have:=Array.length_toList (xs:=A)
     rw[List.length_take];omega
    have e1:(List.take (i+1) (List.take i (A.toList.take (l.length+1))++ [Value.int .i64 x]++List.drop (i+1) (A.toList.take (l.length+1)))++(intsV l).drop i ++
     List.drop (i+1+((intsV l).drop i).length) (List.take i (A.toList.take (l.length+1))++ [Value.int .i64 x]++List.drop (i+1) (A.toList.take (l.length+1))))=(intsV l).take i++Value.int .i64 x::(intsV l).drop i:=by
     have t0:(List.take i (A.toList.take (l.length+1))++ [Value.int .i64 x]).length=i+1:=by rw[List.length_append,List.length_take,hl2];simp;omega
     have t1:(List.take i (A.toList.take (l.length+1))++ [Value.int .i64 x]++List.drop (i+1) (A.toList.take (l.length+1))).length=l.length+1:=by rw[List.length_append,t0,List.length_drop,hl2];omega
     have t2:List.drop (i+1+((intsV l).drop i).length) (List.take i (A.toList.take (l.length+1))++ [Value.int .i64 x]++List.drop (i+1) (A.toList.take (l.length+1)))= []:=List.drop_of_length_le (by rw[t1,List.length_drop,hxl];omega)
     rw[t2,List.take_left' t0,hi0,List.append_nil]
     simp
    rw[show i+ [Value.int IntKind.i64 x].length=i+1 from rfl,e1]at h3
    exact h3
   ·have ka:Keeps (fun k=>(Value.slice (some ⟨g,0,none⟩) l.length c).ownBlock=some k∨k=w.heap.size) w (w.alloc (.cells A 3)):=(Keeps.refl _ w).alloc _
    have kk:=(ka.drew.trans (k2.mono fun k _ hk=> .inr hk)).drew.trans (k3.mono fun k _ hk=> .inr hk)
    exact kk.mono fun k hk hh=>by
     rcases hh with hh|hh
     ·exact hh
     ·omega
 ·obtain rfl:i=l.length:=by omega
  have ht:(intsV l).take l.length=intsV l:=List.take_of_length_le (by omega)
  have hd:(intsV l).drop l.length= []:=List.drop_of_length_le (by omega)
  rw[ht,hd]
  by_cases hroom:l.length+1≤c
  ·have hcm:c≤9223372036854775807:=by
    obtain⟨_,_,he,_,hcm,_⟩:=own_at h
    injection he with _ _ e3
    subst e3
    exact hcm
   rcases h.2 with⟨he,_⟩|⟨g,cap',cur,he,_,hg,_,_,hcsz,_⟩
   ·injection he with _ _ e3
    omega
   injection he with e1 _ e3
   subst e1 e3
   obtain⟨y,hy⟩:=own_more h hroom
   have hcells: ∀j,j<1→(w.cell? ⟨g,0+l.length+j,none⟩).isSome=true:=fun j hj=>by
    have hjl:l.length<(intsV l++ [y]).length:=by simp[hxl]
    rw[show 0+l.length+j=l.length from by omega,(own_row hy).cell (List.getElem?_eq_getElem hjl)]
    rfl
   have hr:=Any2.slices_Insert_int_end_room lays2_23i g 0 l.length c vb 0 1 1 [.int .i64 x] w (by omega) hroom hcm rfl hcells (fun j _=>h.frozenAt _) hvs h1v
   refine hr.mono ?_
   rintro e w' ⟨he,rfl⟩
   obtain⟨h2,k2⟩:=own_setCells [.int .i64 x] (0+l.length) w _ hy (by simp)
   refine⟨_,he,?_,k2.mono (fun k _ hk=>by rw[hk];rfl),fun k hk=> .inl hk⟩
   have e1:List.take (0+l.length) (intsV l++ [y])++ [Value.int .i64 x]++List.drop (0+l.length+ [Value.int IntKind.i64 x].length) (intsV l++ [y])=intsV l++ [Value.int .i64 x]:=by
    rw[Nat.zero_add,List.take_left' hxl,List.drop_of_length_le (by simp[hxl]),List.append_nil]
   rw[e1]at h2
   exact h2
  ·obtain⟨_,c',he,hnc,_,hnil,hat⟩:=own_at h
   injection he with e1 _ e3
   subst e1 e3
   have hr:=Any2.slices_Insert_int_end_grow lays2_23i a l.length c vb 0 1 1 (intsV l) [.int .i64 x] w (by omega) hnc (by omega) hb1 hxl rfl (fun h=>by have:=hnil h;omega) (fun ad had=>by
    subst had
    exact hat.news) hvs h1v
   refine hr.mono ?_
   rintro e w' ⟨he,rfl⟩
   have hge:=grownCap_ge w (l.length+1) c 3
   have hle:=grownCap_le_maxLen w (l.length+1) c 3 hm1
   have hz:(Value.int .i64 0).cells.size=1:=rfl
   obtain⟨A,hA⟩: ∃A,A=(intsV l++ [Value.int .i64 x]).toArray++Builtin.zeroCells (Value.int .i64 0).cells (grownCap w (l.length+1) c 3-(l.length+1)):=⟨_,rfl⟩
   have hsz:A.size=grownCap w (l.length+1) c 3:=by
    rw[hA]
    simp only[Array.size_append,size_zeroCells,hz,List.size_toArray,List.length_append,List.length_singleton,hxl]
    omega
   have hA':shelfRen2.t 3=3:=rfl
   rw[hA']at he ⊢
   rw[←hA]
   rw[←hsz]at he hge hle
   have ho:=own_new w.drew base (l.length+1) 3 A hbase hge hle
   have e1:A.toList.take (l.length+1)=intsV l++ [Value.int .i64 x]:=by
    rw[hA]
    simp only[Array.toList_append]
    exact List.take_left' (by simp[hxl])
   rw[e1]at ho
   exact⟨_,he,ho,(Keeps.refl _ w).drew.alloc _,fun k hk=> .inr (by simp only[Value.ownBlock,Option.some.injEq]at hk;omega)⟩
end Go.Proofs.YtgepobccoffnaaaGreatDoor
namespace Go.Proofs.YtgepobccoffnaaaGreatDoor
open Go.RowKit Mem
def dropF (l:List Int) (i:Int):List Int:=if 0≤i then l.eraseIdx i.toNat else l
theorem dropF_len (l:List Int) (i:Int):(dropF l i).length≤l.length:=by
 unfold dropF
 split
 ·rw[List.length_eraseIdx];split <;>omega
 ·exact Nat.le_refl _
def rmF (l:List Int) (n:Int):List Int:=dropF l (rfind l n)
def swapF (l:List Int) (o n:Int):List Int:=if 0≤rfind l o then l.set (rfind l o).toNat n else l
def insF (l:List Int) (b n:Int):List Int:=if 0≤rfind l b then insAt l ((rfind l b).toNat+1) n else l
theorem ownrow_set {w:World} {base:Nat} {g n c:Nat} {l:List Int} (h:w.ownsRow base 3 1 (.slice (some ⟨g,0,none⟩) n c) n (intsV l)) (j:Nat) (x:Int) :
 (w.setCell ⟨g,j,none⟩ (.int .i64 x)).ownsRow base 3 1 (.slice (some ⟨g,0,none⟩) n c) n (intsV (l.set j x)):=by
 have:=(h.stored j (.int .i64 x)).1
 rw[intsV,List.map_set]
 exact this
theorem own_base0 {w:World} {B:Nat} {e:TypeId} {s n:Nat} {v:Value} {xs:List Value} (h:w.ownsRow B e s v n xs):w.ownsRow 0 e s v n xs:=by
 refine⟨h.1,?_⟩
 rcases h.2 with h'|⟨g,cap,cur,h1,h2,h3⟩
 ·exact .inl h'
 ·exact .inr ⟨g,cap,cur,h1,Nat.zero_le _,h3⟩
theorem keeps_then {F G:Nat→Prop} {a b c:World} (h:Keeps F a b) (k:Keeps G b c) (hG: ∀i,G i→F i∨a.heap.size≤i):Keeps F a c :=
 ⟨k.os.trans h.os,k.tape.trans h.tape,k.output.trans h.output,Nat.le_trans h.size k.size,fun i hi hF=>(k.block i (Nat.lt_of_lt_of_le hi h.size) fun hGi=>by
  rcases hG i hGi with h'|h'
  ·exact hF h'
  ·omega).trans (h.block i hi hF)⟩
section
variable (w:World) (sb tb:Nat) (gs:Option Nat) (l:List Int)
theorem stk_remove (h:StkO w sb tb gs l) (n:Int) (hl:l.length≤1048576):Calls Tryz.prog 114 #[.pointer (some ⟨sb,0,none⟩),.int .i64 n] w fun e w' =>
 e= .returned (.tuple #[])∧ ∃gs',StkO w' sb tb gs' (rmF l n)∧(∀k,gs'=some k→gs=some k∨w.heap.size≤k)∧Keeps (SB sb gs) w w':=by
 have HF:=Lib.hid (stk_find w sb tb gs l h n hl)
 have HA:=Lib.hid (stk_all w sb tb gs l h hl)
 have HS:=Lib.hid h
 obtain⟨q1,q2,_,_⟩:=rfind_spec l n
 have hlt:=h.lt sb (.inl rfl)
 clear h
 by_cases h0:0≤rfind l n
 ·have HR:Hid (rmF l n=l.eraseIdx (rfind l n).toNat):=Lib.hid (by rw[rmF,dropF,if_pos h0])
  obtain⟨k,hk⟩:=Int.eq_ofNat_of_zero_le h0
  rw[hk]at HF HR q2
  have hkl:k<l.length:=by omega
  clear hk h0 q1 q2
  go_enter Tryz.func114,Tryz.ntmps114
  go_wp2_with (first|(go_at_call 160;go_must (refine HF.out.mono ?_;rintro e w1 ⟨rfl,rfl⟩))|(go_at_call 105;go_must (refine HA.out.mono ?_;rintro e w1 ⟨v,rfl,ho,hb⟩;have HO:=Lib.hid ho;have HB:=Lib.hid hb;clear ho hb)))
  obtain⟨g1,c1,rfl,hg1,hc1,_⟩:=own_some HO.out (by omega)
  have HD:=Lib.hid (del_any w1 w.heap.size g1 c1 k l HO.out hkl)
  go_wp2_with (go_at_call 161;go_must (refine HD.out.mono ?_;rintro e w2 ⟨rfl,ho2,hk2⟩;have hS1:=HS.out.below HB.out;have hS2:=hS1.kept hk2 (fun j hj e=>(by have:=HS.out.lt j hj;omega));obtain⟨sa,sc,_,_,_,_,f2,hrow2,_,hne⟩:=hS2.cells;have c2:=cell_of_row w2 sb 1 _ _ _ hrow2;have HO2:=Lib.hid ho2;have HK2:=Lib.hid hk2;have HR2:=Lib.hid hrow2;clear ho2 hk2 hrow2 hS1 hS2))
  go_end0
  have hne1:g1≠sb:=by omega
  refine⟨rfl,some g1,⟨.slice (some ⟨g1,0,none⟩) (l.length-1) c1,Lib.heap_setCell_same (i:=1) HR2.out _,⟨?_,rfl⟩,by simpa using hne1⟩,(fun j hj=> .inr (by cases hj;exact hg1)),?_⟩
  ·rw[HR.out,show(l.eraseIdx (k:Int).toNat).length=l.length-1 from by rw[List.length_eraseIdx];simp[hkl]]
   exact own_kept (own_base0 HO2.out) fun b hb=>heap_setCell_other _ _ _ _ (by simp only[Value.ownBlock,Option.some.injEq]at hb;subst hb;exact hne1)
  ·exact(keeps_then (Keeps.ofBelow HB.out) HK2.out (fun i hi=> .inr (by omega))).set (p:=⟨sb,1,none⟩) (.inl (.inl rfl)) _
 ·have HR:Hid (rmF l n=l):=Lib.hid (by rw[rmF,dropF,if_neg h0])
  have h1:rfind l n= -1:=by omega
  rw[h1]at HF
  clear h0 h1 q1 q2
  go_enter Tryz.func114,Tryz.ntmps114
  go_wp2_with (go_at_call 160;go_must (refine HF.out.mono ?_;rintro e w1 ⟨rfl,rfl⟩))
  go_end0
  exact⟨rfl,gs,by rw[HR.out];exact HS.out,fun k hk=> .inl hk,Keeps.refl _ _⟩
theorem stk_swap (h:StkO w sb tb gs l) (o n:Int) (hl:l.length≤1048576):Calls Tryz.prog 232 #[.pointer (some ⟨sb,0,none⟩),.int .i64 o,.int .i64 n] w fun e w' =>
 e= .returned (.tuple #[])∧StkO w' sb tb gs (swapF l o n)∧Keeps (SB sb gs) w w':=by
 have HF:=Lib.hid (stk_find w sb tb gs l h o hl)
 have HS:=Lib.hid h
 obtain⟨q1,q2,_,_⟩:=rfind_spec l o
 by_cases h0:0≤rfind l o
 ·obtain⟨k,hk⟩:=Int.eq_ofNat_of_zero_le h0
  have HR:Hid (swapF l o n=l.set k n):=Lib.hid (by rw[swapF,if_pos h0,hk];rfl)
  rw[hk]at HF q2
  have hkl:k<l.length:=by omega
  obtain⟨a,c,c0,c1,hat,hown,_,hrow,_,hne⟩:=h.cells
  obtain⟨g1,c',he,_,_,_⟩:=own_some hown.1 (by omega)
  injection he with e1 _ _
  subst e1
  have hx:=(own_row hown.1).cell (intsV_get l k hkl)
  have hx':w.cell? ⟨g1,0+k,none⟩=some (.int .i64 l[k]):=by rw[Nat.zero_add];exact hx
  have hf:w.frozen? ⟨g1,0+k,none⟩=false:=hown.1.frozenAt _
  have hf':w.frozen? ⟨g1,k,none⟩=false:=hown.1.frozenAt _
  have HO:=Lib.hid hown
  have HRW:=Lib.hid hrow
  have HNE:=Lib.hid hne
  clear hk h0 q1 q2 h hat hown hrow hne
  go_enter Tryz.func232,Tryz.ntmps232
  go_wp2_with (go_at_call 160;go_must (refine HF.out.mono ?_;rintro e w1 ⟨rfl,rfl⟩))
  go_end0
  have hgs:gs=some g1:=HO.out.2.symm
  have hne1:sb≠g1:=by rintro rfl;exact HNE.out hgs
  refine⟨rfl,⟨.slice (some ⟨g1,0,none⟩) l.length c,(heap_setCell_other _ _ _ _ hne1).trans HRW.out,⟨?_,hgs.symm⟩,HNE.out⟩,(Keeps.refl _ _).set (p:=⟨g1,k,none⟩) (.inl (.inr hgs)) _⟩
  rw[HR.out,List.length_set]
  exact ownrow_set HO.out.1 k n
 ·have HR:Hid (swapF l o n=l):=Lib.hid (by rw[swapF,if_neg h0])
  have h1:rfind l o= -1:=by omega
  rw[h1]at HF
  clear h0 h1 q1 q2 h
  go_enter Tryz.func232,Tryz.ntmps232
  go_wp2_with (go_at_call 160;go_must (refine HF.out.mono ?_;rintro e w1 ⟨rfl,rfl⟩))
  go_end0
  exact⟨rfl,by rw[HR.out];exact HS.out,Keeps.refl _ _⟩
theorem stk_insert (h:StkO w sb tb gs l) (b n:Int) (hl:l.length≤1048576):Calls Tryz.prog 238 #[.pointer (some ⟨sb,0,none⟩),.int .i64 b,.int .i64 n] w fun e w' =>
 e= .returned (.tuple #[])∧ ∃gs',StkO w' sb tb gs' (insF l b n)∧(∀k,gs'=some k→gs=some k∨w.heap.size≤k)∧Keeps (SB sb gs) w w':=by
 have HF:=Lib.hid (stk_find w sb tb gs l h b hl)
 have HA:=Lib.hid (stk_all w sb tb gs l h hl)
 have HS:=Lib.hid h
 obtain⟨q1,q2,_,_⟩:=rfind_spec l b
 have hlt:=h.lt sb (.inl rfl)
 clear h
 by_cases h0:0≤rfind l b
 ·obtain⟨k,hk⟩:=Int.eq_ofNat_of_zero_le h0
  have HR:Hid (insF l b n=insAt l (k+1) n):=Lib.hid (by rw[insF,if_pos h0,hk];rfl)
  rw[hk]at HF q2
  have hkl:k+1≤l.length:=by omega
  clear hk h0 q1 q2
  go_enter Tryz.func238,Tryz.ntmps238
  go_wp2_with (first|(go_at_call 160;go_must (refine HF.out.mono ?_;rintro e w1 ⟨rfl,rfl⟩))|(go_at_call 105;go_must (refine HA.out.mono ?_;rintro e w1 ⟨v,rfl,ho,hb⟩;obtain⟨va,vc,rfl,_,_⟩:=own_slice ho;have HO:=Lib.hid ho;have HB:=Lib.hid hb;clear ho hb)))
  have ho1:=own_below HO.out ((Below.refl w1.heap.size w1).alloc (Nat.le_refl _) (.cells #[.int .i64 n] 3))
  have hb1:=HB.out.alloc HB.out.size (.cells #[.int .i64 n] 3)
  have hvb:=heap_alloc_new w1 (.cells #[.int .i64 n] 3)
  have hsz:(w1.alloc (.cells #[.int .i64 n] 3)).heap.size=w1.heap.size+1:=by simp
  have hs1:=HB.out.size
  have HI:=Lib.hid (ins_any (w1.alloc (.cells #[.int .i64 n] 3)) w.heap.size va vc (k+1) l n w1.heap.size ho1 hkl (by omega) hl hvb (fun j hj=>(by have:=(HO.out.lt j hj).2;omega)))
  have HOB:=Lib.hid (fun j hj=>(HO.out.lt j hj).1)
  have HB1:=Lib.hid hb1
  clear ho1 hb1 hvb
  have hcast:((k+1:Nat):Int)=(k:Int)+1:=by omega
  rw[hcast]at HI
  go_wp2_with (go_at_call 237;go_must (refine HI.out.mono ?_;rintro e w2 ⟨v',rfl,ho2,hk2,hv2⟩;obtain⟨va2,vc2,hv',_,_⟩:=own_slice ho2;subst hv';have hS1:=HS.out.below HB1.out;have hS2:=hS1.kept hk2 (fun j hj e=>(by have:=HS.out.lt j hj;have:=HOB.out j e;omega));obtain⟨sa,sc,_,_,_,_,f2,hrow2,_,hne⟩:=hS2.cells;have c2:=cell_of_row w2 sb 1 _ _ _ hrow2;have HO2:=Lib.hid ho2;have HK2:=Lib.hid hk2;have HR2:=Lib.hid hrow2;have HV2:=Lib.hid hv2;clear ho2 hk2 hrow2 hS1 hS2 hv2))
  go_end0
  have hnew: ∀j,(Value.slice va2 (l.length+1) vc2).ownBlock=some j→w.heap.size≤j:=fun j hj=>by
   rcases HV2.out j hj with h|h
   ·exact HOB.out j h
   ·omega
  have hne1:(Value.slice va2 (l.length+1) vc2).ownBlock≠some sb:=fun e=>by have:=hnew sb e;omega
  refine⟨rfl,(Value.slice va2 (l.length+1) vc2).ownBlock,⟨.slice va2 (l.length+1) vc2,Lib.heap_setCell_same (i:=1) HR2.out _,⟨?_,rfl⟩,hne1⟩,(fun j hj=> .inr (hnew j hj)),?_⟩
  ·rw[HR.out,insAt_len l (k+1) n hkl]
   exact own_kept (own_base0 HO2.out) fun b hb=>heap_setCell_other _ _ _ _ (fun e=>hne1 (hb.trans (congrArg some e)))
  ·exact(keeps_then (Keeps.ofBelow HB1.out) HK2.out (fun i hi=> .inr (HOB.out i hi))).set (p:=⟨sb,1,none⟩) (.inl (.inl rfl)) _
 ·have HR:Hid (insF l b n=l):=Lib.hid (by rw[insF,if_neg h0])
  have h1:rfind l b= -1:=by omega
  rw[h1]at HF
  clear h0 h1 q1 q2
  go_enter Tryz.func238,Tryz.ntmps238
  go_wp2_with (go_at_call 160;go_must (refine HF.out.mono ?_;rintro e w1 ⟨rfl,rfl⟩))
  go_end0
  exact⟨rfl,gs,by rw[HR.out];exact HS.out,fun k hk=> .inl hk,Keeps.refl _ _⟩
end
section
variable (w:World) (lb tb sb:Nat) (ge:Option Nat) (l:List Int) (on:Bool)
theorem lst_drop (h:LstO w lb tb sb ge l on) (i:Int) (hi:i<l.length) (hl:l.length≤1048576):Calls Tryz.prog 208 #[.pointer (some ⟨lb,0,none⟩),.int .i64 i] w fun e w' =>
 e= .returned (.tuple #[])∧ ∃ge',LstO w' lb tb sb ge' (dropF l i) on∧(∀k,ge'=some k→ge=some k∨w.heap.size≤k)∧Keeps (SB lb ge) w w':=by
 have HA:=Lib.hid (lst_all w lb tb sb ge l on h hl)
 have HS:=Lib.hid h
 have hlt:=h.lt lb (.inl rfl)
 clear h
 by_cases h0:0≤i
 ·obtain⟨k,rfl⟩:=Int.eq_ofNat_of_zero_le h0
  have HR:Hid (dropF l k=l.eraseIdx k):=Lib.hid (by rw[dropF,if_pos h0];rfl)
  have hkl:k<l.length:=by omega
  clear h0
  go_enter Tryz.func208,Tryz.ntmps208
  go_wp2_with (go_at_call 223;go_must (refine HA.out.mono ?_;rintro e w1 ⟨v,rfl,ho,hb⟩;have HO:=Lib.hid ho;have HB:=Lib.hid hb;clear ho hb))
  obtain⟨g1,c1,rfl,hg1,hc1,_⟩:=own_some HO.out (by omega)
  have HD:=Lib.hid (del_any w1 w.heap.size g1 c1 k l HO.out hkl)
  go_wp2_with (go_at_call 161;go_must (refine HD.out.mono ?_;rintro e w2 ⟨rfl,ho2,hk2⟩;have hS1:=HS.out.below HB.out;have hS2:=hS1.kept hk2 (fun j hj e=>(by have:=HS.out.lt j hj;omega));obtain⟨sa,sc,_,_,_,_,_,_,f2,_,hrow2,_,hne⟩:=hS2.cells;have c2:=cell_of_row w2 lb 2 _ _ _ hrow2;have HO2:=Lib.hid ho2;have HK2:=Lib.hid hk2;have HR2:=Lib.hid hrow2;clear ho2 hk2 hrow2 hS1 hS2))
  go_end0
  have hne1:g1≠lb:=by omega
  refine⟨rfl,some g1,⟨.slice (some ⟨g1,0,none⟩) (l.length-1) c1,Lib.heap_setCell_same (i:=2) HR2.out _,⟨?_,rfl⟩,by simpa using hne1⟩,(fun j hj=> .inr (by cases hj;exact hg1)),?_⟩
  ·rw[HR.out,show(l.eraseIdx k).length=l.length-1 from by rw[List.length_eraseIdx];simp[hkl]]
   exact own_kept (own_base0 HO2.out) fun b hb=>heap_setCell_other _ _ _ _ (by simp only[Value.ownBlock,Option.some.injEq]at hb;subst hb;exact hne1)
  ·exact(keeps_then (Keeps.ofBelow HB.out) HK2.out (fun i hi=> .inr (by omega))).set (p:=⟨lb,2,none⟩) (.inl (.inl rfl)) _
 ·have HR:Hid (dropF l i=l):=Lib.hid (by rw[dropF,if_neg h0])
  go_enter Tryz.func208,Tryz.ntmps208
  go_wp2_with fail
  go_end0
  exact⟨rfl,ge,by rw[HR.out];exact HS.out,fun k hk=> .inl hk,Keeps.refl _ _⟩
end
end Go.Proofs.YtgepobccoffnaaaGreatDoor
end
