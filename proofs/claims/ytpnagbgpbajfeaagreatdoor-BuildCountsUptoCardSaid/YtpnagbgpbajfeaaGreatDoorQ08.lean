/- Texts joined for a claim: OpenIK: plain laws and contracts. No conditions beyond those that each lemma types. -/
import Derived.Test.YtpnagbgpbajfeaaGreatDoorQ07
set_option linter.unusedVariables false
set_option linter.unusedSimpArgs false
set_option maxRecDepth 100000
set_option maxHeartbeats 8000000
section
namespace Go.Proofs.YtpnagbgpbajfeaaGreatDoor
open Go.RowKit Mem
def takeE (T:TreeD) (n:Int):TreeD×Int:=if isF T n then(takeF T n,0)else(T,47)
theorem node5 {w:World} {tb g:Nat} {T:TreeD} (h:TreeO w tb g T) {n:Nat} (hn:n<T.nodes.length):w.cell? ⟨g,n*7+5,none⟩=some (.int .i64 (parentF T n)):=by
 rw[parentF_of T n hn]
 exact(tree_cells h hn).2.1
theorem take_kid (T:TreeD) (tb g:Nat) (w:World) (n a k:Nat) (hn1:1≤n) (hn:n<T.nodes.length) (ha:a<T.nodes.length) (hp:parentF T n=a) (l:List Int) (hl:l=T.nodes[a].kids) (hk:k<l.length) (hkl:l.length≤2097152)
 (hpl:placeF T a n=k) (hE:l.take k++l.drop (k+1)=l.filter (· !=(n:Int))) (h:TreeO w tb g T)
 (aa:Option Addr) (ac kb kc:Nat) (hk1:l.length≤kc) (hk2:kc≤maxLen) (hkat:AtF (Dat T.far tb g) w (some ⟨kb,0,none⟩) (intsV l))
 (hc: ∀f v,(cells7 T.nodes[a] aa ac (some ⟨kb,0,none⟩) kc)[f]?=some v→w.cell? ⟨g,a*7+f,none⟩=some v) (hf: ∀j,w.frozen? ⟨g,j,none⟩=false) :
 Calls Tryz.prog 199 #[.pointer (some ⟨tb,0,none⟩),.int .i64 n] w fun e w'=>e= .returned (.int .i64 0)∧TreeO w' tb g (takeF T n)∧Keeps (Two tb g) w w':=by
 obtain⟨cap,h1,h2,c0,_,_,_⟩:=h.head
 obtain⟨_,Cs,hne,_⟩:=h.open_
 obtain⟨ht1,ht2⟩:=h.lt
 have HI:=Lib.hid (is_any T tb g w n h)
 have his:isF T n=true:=by simp[isF];omega
 rw[his]at HI
 have HP:=Lib.hid (place_any T tb g w a n ha h)
 rw[hpl]at HP
 have d5:=node5 h hn
 rw[hp]at d5
 have d6:=hc 6 _ rfl
 rw[←hl]at d6
 have HF:Hid (modN (modN T a (setKids (l.filter (· !=(n:Int))))) n (setParent (-1))=takeF T n):=Lib.hid (by rw[takeF,kidsOff,hp,if_pos (by omega),kidsF_of T a ha,←hl])
 have HEE:=Lib.hid hE
 have HT:=Lib.hid h
 have HKA:=Lib.hid (hkat.other (G:=Non) (fun b _ hb=>hb.elim))
 have f6:=hf (a*7+6)
 unfold maxLen at h2 hk2
 have hi':(k:Int)≤(l.length:Int):=by omega
 have hi'':(k:Int)≤(kc:Int):=by omega
 have hw1:IntKind.i64.wrap ((k:Int)+1)=(k:Int)+1:=by rw[IntKind.wrap_i64];omega
 have hi3:(k:Int)+1≤(l.length:Int):=by omega
 have hi4:(k:Int)+1≤(kc:Int):=by omega
 have hi5:(0:Int)≤(k:Int)+1:=by omega
 obtain⟨i0,hi0,hz0,hz1,hz2⟩:=info_parts info_int
 clear h hc hf hkat hl hE hpl his
 go_enter Tryz.func199,Tryz.ntmps199
 go_wp2_with (first|(go_at_call 43;go_must (refine HI.out.mono ?_;rintro e w1 ⟨rfl,rfl⟩))|(go_at_call 195;go_must (refine HP.out.mono ?_;rintro e w1 ⟨rfl,rfl⟩)))
 have K1:=Lib.hid ((Keeps.refl Non w).alloc (.cells #[] 3)).drew
 have O1:Hid ((w.alloc (.cells #[] 3)).drew.ownsRow w.heap.size 3 1 (.slice (some ⟨w.heap.size,0,none⟩) 0 0) 0 []):=Lib.hid (World.ownsRow_lit w #[] 0 (Nat.le_refl _) (Nat.zero_le _) rfl).drew
 have b0:0+k≤maxLen:=by unfold maxLen;omega
 have b1:(0+k)*8≤140737488355328:=by omega
 have b4:k+(l.length-(k+1))≤maxLen:=by unfold maxLen;omega
 have b5:(k+(l.length-(k+1)))*8≤140737488355328:=by omega
 have L1:Hid ((intsV (l.take k)).length=k*1):=Lib.hid (by rw[intsV_length,List.length_take];omega)
 have L2:Hid ((intsV (l.drop (k+1))).length=(l.length-(k+1))*1):=Lib.hid (by rw[intsV_length,List.length_drop];omega)
 have B1:Hid (∀j,(Value.slice (some ⟨w.heap.size,0,none⟩) 0 0).ownBlock=some j→w.heap.size≤j):=Lib.hid (fun j e=>by simp only[Value.ownBlock,Option.some.injEq]at e;omega)
 have HLL:Hid (intsV (l.take k)++intsV (l.drop (k+1))=intsV (l.filter (· !=(n:Int)))):=Lib.hid (by rw[←intsV_append,HEE.out])
 go_region_held3 (fun u=>u.cell? ⟨tb,0,none⟩=some (.slice (some ⟨g,0,none⟩) T.nodes.length cap))
  (first|exact c0|exact non_cell K1.out c0|exact non_cell K26.out c0|exact non_cell K33.out c0|exact non_set K33.out c0 hne)
  (first
    |(refine step_append_slice (by rfl) (.tmp 39) (.tmp 42) _ (by rfl) w.heap.size 3 i0 _ 1 8 Tryz.underlying66 hi0 hz0 hz1 hz2 rfl (by decide) _ 0 [] (by rfl) O1.out (some ⟨kb,0,none⟩) k kc (intsV (l.take k)) (by rfl) L1.out (fun e=>by cases e) (at_take (at_later HKA.out K1.out) k) (intsV_one _) b0 b1 K1.out.size ?_
      intro v26 w26 hown26 hgr26
      simp only[Nat.zero_add,List.nil_append]at hown26
      have K26:Hid (Keeps Non w w26):=Lib.hid (keeps_grown K1.out hgr26 B1.out)
      obtain⟨a26,c26,rfl,_,_,_,_⟩:=own_at hown26
      have O26:=Lib.hid hown26
      clear hown26 hgr26)
    |(refine step_append_slice (by rfl) (.tmp 43) (.tmp 47) _ (by rfl) w.heap.size 3 i0 _ 1 8 Tryz.underlying66 hi0 hz0 hz1 hz2 rfl (by decide) _ k _ (by rfl) O26.out (if kc=k+1 then some ⟨kb,0,none⟩else some ⟨kb,k+1,none⟩) (l.length-(k+1)) (kc-(k+1)) (intsV (l.drop (k+1))) (by rfl) L2.out if_some (at_if (at_later HKA.out K26.out) (k+1) kc hk1) (intsV_one _) b4 b5 K26.out.size ?_
      intro v33 w33 hown33 hgr33
      have K33:Hid (Keeps Non w w33):=Lib.hid (keeps_grown K26.out hgr33 (own_base O26.out))
      have c33:=non_cell K33.out d6
      have f33:=(non_frozen (p:=⟨g,a*7+6,none⟩) K33.out ht2).trans f6
      obtain⟨a33,c33',rfl,_,_,_,_⟩:=own_at hown33
      have O33:=Lib.hid hown33
      clear hown33 hgr33))
 all_goals
  have hT34:=tree_kids (HT.out.below (non_below K33.out)) ha (by rw[←HLL.out];exact O33.out) ht1 ht2 (fun k hk=>(HT.out.far_lt k hk).1)
  obtain⟨⟨cap4,k1,k2,e0⟩,e5,e5'⟩:=tree_cells hT34 (n:=n) (by rw[modN_len];exact hn)
  have hT35:=tree_parent hT34 (n:=n) (by rw[modN_len];exact hn) (-1)
  have hK34:=((non_any (F:=Two tb g) K33.out).set (p:=⟨g,a*7+6,none⟩) (.inl (.inr rfl)) (.slice a33 (k+(l.length-(k+1))) c33')).set (p:=⟨g,n*7+5,none⟩) (.inl (.inr rfl)) (.int .i64 (-1))
  rw[modN_len]at k1 e0
  have HT35:=Lib.hid hT35
  have HK34:=Lib.hid hK34
  unfold maxLen at k2
  clear hT34 hT35 hK34
  go_wp2_with fail
  all_goals
   go_ret
   exact⟨rfl,HF.out▸HT35.out,HK34.out⟩
end Go.Proofs.YtpnagbgpbajfeaaGreatDoor
namespace Go.Proofs.YtpnagbgpbajfeaaGreatDoor
open Go.RowKit Mem
theorem take_none (T:TreeD) (tb g:Nat) (w:World) (n:Nat) (hn1:1≤n) (hn:n<T.nodes.length) (hp:parentF T n= -1) (h:TreeO w tb g T) :
 Calls Tryz.prog 199 #[.pointer (some ⟨tb,0,none⟩),.int .i64 n] w fun e w'=>e= .returned (.int .i64 0)∧TreeO w' tb g (takeF T n)∧Keeps (Two tb g) w w':=by
 obtain⟨cap,h1,h2,c0,_,_,_⟩:=h.head
 have HI:=Lib.hid (is_any T tb g w n h)
 have his:isF T n=true:=by simp[isF];omega
 rw[his]at HI
 have d5:=node5 h hn
 rw[hp]at d5
 have f5:=(tree_cells h hn).2.2
 have HT:=Lib.hid (tree_parent h hn (-1))
 have HF:Hid (modN T n (setParent (-1))=takeF T n):=Lib.hid (by rw[takeF,kidsOff,hp,if_neg (by omega)])
 have HK:=Lib.hid ((Keeps.refl (Two tb g) w).set (p:=⟨g,n*7+5,none⟩) (.inl (.inr rfl)) (.int .i64 (-1)))
 unfold maxLen at h2
 clear h his
 go_enter Tryz.func199,Tryz.ntmps199
 go_wp2_with (first|(go_at_call 43;go_must (refine HI.out.mono ?_;rintro e w1 ⟨rfl,rfl⟩)))
 go_ret
 exact⟨rfl,HF.out▸HT.out,HK.out⟩
theorem take_no (T:TreeD) (tb g:Nat) (w:World) (n:Int) (hn:isF T n=false) (h:TreeO w tb g T) :
 Calls Tryz.prog 199 #[.pointer (some ⟨tb,0,none⟩),.int .i64 n] w fun e w'=>e= .returned (.int .i64 47)∧w=w':=by
 have HI:=Lib.hid (is_any T tb g w n h)
 rw[hn]at HI
 clear h
 go_enter Tryz.func199,Tryz.ntmps199
 go_wp2_with (first|(go_at_call 43;go_must (refine HI.out.mono ?_;rintro e w1 ⟨rfl,rfl⟩)))
 go_ret
 exact⟨rfl,rfl⟩
theorem take_yes (T:TreeD) (tb g:Nat) (w:World) (n:Nat) (hn1:1≤n) (hn:n<T.nodes.length) (hw:WF T) (hlen:T.nodes.length≤2097152) (h:TreeO w tb g T) :
 Calls Tryz.prog 199 #[.pointer (some ⟨tb,0,none⟩),.int .i64 n] w fun e w'=>e= .returned (.int .i64 0)∧TreeO w' tb g (takeF T n)∧Keeps (Two tb g) w w':=by
 have hpar:=hw.par n hn
 by_cases hp:0≤parentF T n
 ·obtain⟨a,ha⟩:=Int.eq_ofNat_of_zero_le hp
  have ha':a<T.nodes.length:=by omega
  have hm:=hw.mem n hn hp
  rw[ha]at hm
  obtain⟨k,k1,k2,k3,_⟩:=idxF_found (kidsF T a) n 0 hm
  have hk:=kids_short hw a ha'
  have hnd:=hw.nodup a ha'
  have hpl:placeF T a n=k:=by
   rw[placeF,if_neg (by omega),show(0:Int)=((0:Nat):Int)from rfl,k2]
   simp
  rw[kidsF_of T a ha']at k1 k3 hk hnd
  obtain⟨aa,ac,ka,kc,_,_,_,hk1,hk2,hk3,_,hkat,hc,hf⟩:=h.node ha'
  rcases hk3 with⟨rfl,rfl⟩|⟨kb,rfl⟩
  ·omega
  ·exact take_kid T tb g w n a k hn1 hn ha' ha _ rfl k1 (by omega) hpl (filter_take_drop _ _ k hnd k3).symm h aa ac kb kc hk1 hk2 hkat hc hf
 ·exact take_none T tb g w n hn1 hn (by omega) h
theorem Take_any (T:TreeD) (tb g:Nat) (w:World) (n:Int) (hw:WF T) (hlen:T.nodes.length≤2097152) (h:TreeO w tb g T) :
 Calls Tryz.prog 199 #[.pointer (some ⟨tb,0,none⟩),.int .i64 n] w fun e w'=>e= .returned (.int .i64 (takeE T n).2)∧TreeO w' tb g (takeE T n).1∧Keeps (Two tb g) w w':=by
 cases hi:isF T n
 ·have he:takeE T n=(T,47):=by rw[takeE,hi];rfl
  rw[he]
  exact(take_no T tb g w n hi h).mono fun e w' ⟨h1,h2⟩=>by
   subst h2
   exact⟨h1,h,Keeps.refl _ _⟩
 ·have he:takeE T n=(takeF T n,0):=by rw[takeE,hi];rfl
  have hb:=isF_lt hi
  obtain⟨i,rfl⟩:=Int.eq_ofNat_of_zero_le (by omega:0≤n)
  rw[he]
  exact take_yes T tb g w i (by omega) (by omega) hw hlen h
theorem idxF_mem: ∀(l:List Int) (x z:Int),0≤idxF l x z→x∈l
 | [],_,_,h=>by simp[idxF]at h
 |y::r,x,z,h=>by
  unfold idxF at h
  split at h
  ·rename_i e;rw[e];exact List.mem_cons_self
  ·exact List.mem_cons_of_mem _ (idxF_mem r x _ h)
theorem placeF_nat (T:TreeD) (a b:Int) (h:0≤placeF T a b): ∃k:Nat,placeF T a b=k∧k≤(kidsF T a).length:=by
 obtain⟨k,hk⟩:=Int.eq_ofNat_of_zero_le h
 refine⟨k,hk,?_⟩
 have:placeF T a b≤(kidsF T a).length:=by
  unfold placeF
  split
  ·exact Int.le_refl _
  ·have:=idxF_lt (kidsF T a) b 0 (by omega)
   omega
 omega
theorem placeF_iff (T:TreeD) (a b:Int):0≤placeF T a b↔b=0∨b∈kidsF T a:=by
 unfold placeF
 split
 ·rename_i e
  simp[e]
 ·rename_i e
  constructor
  ·exact fun h=> .inr (idxF_mem _ _ _ h)
  ·rintro(h|h)
   ·exact absurd h e
   ·obtain⟨k,_,h2,_⟩:=idxF_found (kidsF T a) b 0 h
    rw[show(0:Int)=((0:Nat):Int)from rfl,h2]
    omega
theorem place_take {T:TreeD} (hw:WF T) {n a:Nat} {b:Int} (hn:n<T.nodes.length) (ha:a<T.nodes.length) (hb:b≠n) (h:0≤placeF T a b):0≤placeF (takeF T n) a b:=by
 rw[placeF_iff]at h ⊢
 rcases h with h|h
 ·exact .inl h
 ·right
  rw[takeF_kids hw hn a ha]
  split
  ·simp only[List.mem_filter,bne_iff_ne];exact⟨h,hb⟩
  ·exact h
end Go.Proofs.YtpnagbgpbajfeaaGreatDoor
namespace Go.Proofs.YtpnagbgpbajfeaaGreatDoor
open Go.RowKit Mem
noncomputable def putE (T:TreeD) (a b n:Int):TreeD×Int:=if putOk T a b n then(putF T a b n,0)else(T,47)
theorem put_no (T:TreeD) (tb g:Nat) (w:World) (a b n:Int) (hw:WF T) (h:TreeO w tb g T) (hno:putOk T a b n=false) :
 Calls Tryz.prog 150 #[.pointer (some ⟨tb,0,none⟩),.int .i64 a,.int .i64 b,.int .i64 n] w fun e w'=>e= .returned (.int .i64 47)∧w=w':=by
 have H1:=Lib.hid (holds_any T tb g w a h)
 cases h1:holdsF T a
 ·rw[h1]at H1
  clear h hno
  go_enter Tryz.func150,Tryz.ntmps150
  go_wp2_with (first|(go_at_call 194;go_must (refine H1.out.mono ?_;rintro e w1 ⟨rfl,rfl⟩))|(go_at_call 43;go_must (refine H2.out.mono ?_;rintro e w1 ⟨rfl,rfl⟩))|(go_at_call 195;go_must (refine H4.out.mono ?_;rintro e w1 ⟨rfl,rfl⟩))|(go_at_call 198;go_must (refine H5.out.mono ?_;rintro e w1 ⟨rfl,rfl⟩)))
  go_ret
  exact⟨rfl,rfl⟩
 have H2:=Lib.hid (is_any T tb g w n h)
 rw[h1]at H1
 cases h2:isF T n
 ·rw[h2]at H2
  clear h hno
  go_enter Tryz.func150,Tryz.ntmps150
  go_wp2_with (first|(go_at_call 194;go_must (refine H1.out.mono ?_;rintro e w1 ⟨rfl,rfl⟩))|(go_at_call 43;go_must (refine H2.out.mono ?_;rintro e w1 ⟨rfl,rfl⟩))|(go_at_call 195;go_must (refine H4.out.mono ?_;rintro e w1 ⟨rfl,rfl⟩))|(go_at_call 198;go_must (refine H5.out.mono ?_;rintro e w1 ⟨rfl,rfl⟩)))
  go_ret
  exact⟨rfl,rfl⟩
 rw[h2]at H2
 cases h3:(b==n)
 rotate_left
 ·clear h hno
  go_enter Tryz.func150,Tryz.ntmps150
  go_wp2_with (first|(go_at_call 194;go_must (refine H1.out.mono ?_;rintro e w1 ⟨rfl,rfl⟩))|(go_at_call 43;go_must (refine H2.out.mono ?_;rintro e w1 ⟨rfl,rfl⟩))|(go_at_call 195;go_must (refine H4.out.mono ?_;rintro e w1 ⟨rfl,rfl⟩))|(go_at_call 198;go_must (refine H5.out.mono ?_;rintro e w1 ⟨rfl,rfl⟩)))
  go_ret
  exact⟨rfl,rfl⟩
 have ha:=holdsF_lt hw.pos h1
 obtain⟨a,rfl⟩:=Int.eq_ofNat_of_zero_le ha.1
 have H4:=Lib.hid (place_any T tb g w a b (by omega) h)
 cases h4:decide (placeF T a b<0)
 rotate_left
 ·clear h hno
  go_enter Tryz.func150,Tryz.ntmps150
  go_wp2_with (first|(go_at_call 194;go_must (refine H1.out.mono ?_;rintro e w1 ⟨rfl,rfl⟩))|(go_at_call 43;go_must (refine H2.out.mono ?_;rintro e w1 ⟨rfl,rfl⟩))|(go_at_call 195;go_must (refine H4.out.mono ?_;rintro e w1 ⟨rfl,rfl⟩))|(go_at_call 198;go_must (refine H5.out.mono ?_;rintro e w1 ⟨rfl,rfl⟩)))
  go_ret
  exact⟨rfl,rfl⟩
 have H5:=Lib.hid (below_any T tb g w a n (by omega) hw h)
 cases h5:belowF T a n
 ·exfalso
  have:putOk T a b n=true:=by
   simp only[putOk,Bool.and_eq_true,h1,h2,h5,Bool.not_false,decide_eq_true_eq,true_and,and_true,bne,h3]
   have:=of_decide_eq_false h4
   omega
  rw[this]at hno
  cases hno
 ·rw[h5]at H5
  clear h hno
  go_enter Tryz.func150,Tryz.ntmps150
  go_wp2_with (first|(go_at_call 194;go_must (refine H1.out.mono ?_;rintro e w1 ⟨rfl,rfl⟩))|(go_at_call 43;go_must (refine H2.out.mono ?_;rintro e w1 ⟨rfl,rfl⟩))|(go_at_call 195;go_must (refine H4.out.mono ?_;rintro e w1 ⟨rfl,rfl⟩))|(go_at_call 198;go_must (refine H5.out.mono ?_;rintro e w1 ⟨rfl,rfl⟩)))
  go_ret
  exact⟨rfl,rfl⟩
theorem put_yes (T:TreeD) (tb g:Nat) (w:World) (a b n:Int) (hw:WF T) (hlen:T.nodes.length≤2097152) (h:TreeO w tb g T) (hok:putOk T a b n=true) :
 Calls Tryz.prog 150 #[.pointer (some ⟨tb,0,none⟩),.int .i64 a,.int .i64 b,.int .i64 n] w fun e w'=>e= .returned (.int .i64 0)∧TreeO w' tb g (putF T a b n)∧Keeps (Two tb g) w w':=by
 have hok':=hok
 simp only[putOk,Bool.and_eq_true,Bool.not_eq_true',decide_eq_true_eq]at hok'
 obtain⟨⟨⟨⟨h1,h2⟩,h3⟩,h4⟩,h5⟩:=hok'
 have h3':(b==n)=false:=by simpa[bne] using h3
 have hbn:b≠n:=by simpa using h3
 have ha:=holdsF_lt hw.pos h1
 have hn:=isF_lt h2
 obtain⟨a,rfl⟩:=Int.eq_ofNat_of_zero_le ha.1
 obtain⟨n,rfl⟩:=Int.eq_ofNat_of_zero_le (by omega:0≤n)
 have ha':a<T.nodes.length:=by omega
 have hn':n<T.nodes.length:=by omega
 have H1:=Lib.hid (holds_any T tb g w a h)
 have H2:=Lib.hid (is_any T tb g w n h)
 have H4:=Lib.hid (place_any T tb g w a b ha' h)
 have H5:=Lib.hid (below_any T tb g w a n (by omega) hw h)
 rw[h1]at H1
 rw[h2]at H2
 rw[h5]at H5
 have H6:=Lib.hid (take_yes T tb g w n (by omega) hn' hw hlen h)
 have hk:=kids_short (takeF_wf hw hn' (by omega)) a (by rw[takeF_len];exact ha')
 rw[takeF_len]at hk
 obtain⟨j,hj,hjk⟩:=placeF_nat (takeF T n) a b (place_take hw hn' ha' hbn h4)
 have HF:Hid (insertF (takeF T n) a j n=putF T a b n):=Lib.hid (by rw[putF,hj];rfl)
 have HJ:=Lib.hid hj
 have h4': ¬(placeF T a b<0):=by omega
 clear h hok h3 h4 hbn
 go_enter Tryz.func150,Tryz.ntmps150
 go_wp2_with (first|(go_at_call 194;go_must (refine H1.out.mono ?_;rintro e w1 ⟨rfl,rfl⟩))|(go_at_call 43;go_must (refine H2.out.mono ?_;rintro e w1 ⟨rfl,rfl⟩))|(go_at_call 195;go_must (refine H4.out.mono ?_;rintro e w1 ⟨rfl,rfl⟩))|(go_at_call 198;go_must (refine H5.out.mono ?_;rintro e w1 ⟨rfl,rfl⟩)))
 refine H6.out.mono ?_
 rintro e w2 ⟨rfl,hT2,hK2⟩
 have HT2:=Lib.hid hT2
 have HK2:=Lib.hid hK2
 have H7:=Lib.hid (place_any (takeF T n) tb g w2 a b (by rw[takeF_len];exact ha') hT2)
 rw[HJ.out]at H7
 have H8:=Lib.hid (insert_any (takeF T n) tb g w2 a j n (by rw[takeF_len];exact ha') (by rw[takeF_len];exact hn') hjk (by omega) hT2)
 rw[HF.out]at H8
 clear hT2 hK2 H4 HJ
 go_wp2_with (first|(go_at_call 195;go_must (refine H7.out.mono ?_;rintro e w1 ⟨rfl,rfl⟩)))
 refine H8.out.mono ?_
 rintro e w3 ⟨rfl,hT3,hK3⟩
 have HT3:=Lib.hid hT3
 have HK3:=Lib.hid (HK2.out.trans hK3)
 clear hT3 hK3
 go_wp2_with fail
 go_ret
 exact⟨rfl,HT3.out,HK3.out⟩
theorem Put_any (T:TreeD) (tb g:Nat) (w:World) (a b n:Int) (hw:WF T) (hlen:T.nodes.length≤2097152) (h:TreeO w tb g T) :
 Calls Tryz.prog 150 #[.pointer (some ⟨tb,0,none⟩),.int .i64 a,.int .i64 b,.int .i64 n] w fun e w'=>e= .returned (.int .i64 (putE T a b n).2)∧TreeO w' tb g (putE T a b n).1∧Keeps (Two tb g) w w':=by
 cases hok:putOk T a b n
 ·have he:putE T a b n=(T,47):=by rw[putE,hok];rfl
  rw[he]
  exact(put_no T tb g w a b n hw h hok).mono fun e w' ⟨h1,h2⟩=>by
   subst h2
   exact⟨h1,h,Keeps.refl _ _⟩
 ·have he:putE T a b n=(putF T a b n,0):=by rw[putE,hok];rfl
  rw[he]
  exact put_yes T tb g w a b n hw hlen h hok
theorem putE_wf {T:TreeD} (hw:WF T) (a b n:Int):WF (putE T a b n).1∧(putE T a b n).1.nodes.length=T.nodes.length∧(putE T a b n).1.most=T.most:=by
 cases hok:putOk T a b n
 ·have he:putE T a b n=(T,47):=by rw[putE,hok];rfl
  rw[he]
  exact⟨hw,rfl,rfl⟩
 ·have he:putE T a b n=(putF T a b n,0):=by rw[putE,hok];rfl
  rw[he]
  exact⟨putF_wf hw hok,putF_len _ _ _ _,putF_most _ _ _ _⟩
end Go.Proofs.YtpnagbgpbajfeaaGreatDoor
end
