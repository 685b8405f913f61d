/- Texts joined for a claim: OpenLV: plain laws and contracts. No conditions beyond those that each lemma types. -/
import Derived.Test.YtgepobccoffnaaaGreatDoorT05
set_option linter.unusedVariables false
set_option linter.unusedSimpArgs false
set_option maxRecDepth 100000
set_option maxHeartbeats 8000000
section
namespace Go.Proofs.YtgepobccoffnaaaGreatDoor
open Go.RowKit Mem
def prevF (T:TreeD) (a:Int) (i:Nat):Int:=((kidsF T a)[i-1]?).getD 0
def textAt (T:TreeD) (a b:Int) (s:ByteArray):TreeD×Int :=
 if 0<(placeF T a b).toNat∧elemF T (prevF T a (placeF T a b).toNat)=false then(modN T (prevF T a (placeF T a b).toNat) (addText s),0)
 else if(T.nodes.length:Int)-1<T.most then(insertF (addF T (textN s)) a (placeF T a b).toNat T.nodes.length,0)else(T,43)
def textE (T:TreeD) (a b:Int) (s:ByteArray):TreeD×Int :=
 if holdsF T a&&decide (0≤placeF T a b)then(if s.size=0 then(T,0)else textAt T a b s)else(T,47)
theorem keeps_two {tb g g':Nat} {w w1 w2:World} (h1:Keeps (Two tb g) w w1) (h2:Keeps (Two tb g') w1 w2) (hg:g'=g∨w.heap.size≤g'):Keeps (Two tb g) w w2 :=
 ⟨h2.os.trans h1.os,h2.tape.trans h1.tape,h2.output.trans h1.output,Nat.le_trans h1.size h2.size,fun k hk hF=>(h2.block k (Nat.lt_of_lt_of_le hk h1.size) (by
  rintro(h|h)
  ·exact hF (.inl h)
  ·rcases hg with rfl|hg
   ·exact hF (.inr h)
   ·omega)).trans (h1.block k hk hF)⟩
theorem text_no (T:TreeD) (tb g:Nat) (w:World) (a b:Int) (s:ByteArray) (hp:0<T.nodes.length) (h:TreeO w tb g T) (hno:(holdsF T a&&decide (0≤placeF T a b))=false) :
 Calls Tryz.prog 153 #[.pointer (some ⟨tb,0,none⟩),.int .i64 a,.int .i64 b,.string s] w fun e w'=>e= .returned (.int .i64 47)∧w=w':=by
 have H1:=Lib.hid (holds_any T tb g w a h)
 cases h1:holdsF T a
 ·rw[h1]at H1
  clear h hno
  go_enter Tryz.func153,Tryz.ntmps153
  go_wp2_with (first|(go_at_call 199;go_must (refine H1.out.mono ?_;rintro e w1 ⟨rfl,rfl⟩))|(go_at_call 200;go_must (refine H4.out.mono ?_;rintro e w1 ⟨rfl,rfl⟩)))
  go_ret
  exact⟨rfl,rfl⟩
 have ha:=holdsF_lt hp h1
 obtain⟨a,rfl⟩:=Int.eq_ofNat_of_zero_le ha.1
 have H4:=Lib.hid (place_any T tb g w a b (by omega) h)
 rw[h1]at H1 hno
 have h4:placeF T a b<0:=by simpa using hno
 clear h hno
 go_enter Tryz.func153,Tryz.ntmps153
 go_wp2_with (first|(go_at_call 199;go_must (refine H1.out.mono ?_;rintro e w1 ⟨rfl,rfl⟩))|(go_at_call 200;go_must (refine H4.out.mono ?_;rintro e w1 ⟨rfl,rfl⟩)))
 go_ret
 exact⟨rfl,rfl⟩
theorem text_empty (T:TreeD) (tb g:Nat) (w:World) (a:Nat) (b:Int) (s:ByteArray) (ha:a<T.nodes.length) (h:TreeO w tb g T) (h1:holdsF T a=true) (h4:0≤placeF T a b) (hs:s.size=0) :
 Calls Tryz.prog 153 #[.pointer (some ⟨tb,0,none⟩),.int .i64 a,.int .i64 b,.string s] w fun e w'=>e= .returned (.int .i64 0)∧w=w':=by
 have H1:=Lib.hid (holds_any T tb g w a h)
 have H4:=Lib.hid (place_any T tb g w a b ha h)
 rw[h1]at H1
 have h4': ¬(placeF T a b<0):=by omega
 obtain rfl:s=⟨#[]⟩:=ByteArray.ext (Array.eq_empty_of_size_eq_zero hs)
 clear h h4
 go_enter Tryz.func153,Tryz.ntmps153
 go_wp2_with (first|(go_at_call 199;go_must (refine H1.out.mono ?_;rintro e w1 ⟨rfl,rfl⟩))|(go_at_call 200;go_must (refine H4.out.mono ?_;rintro e w1 ⟨rfl,rfl⟩)))
 go_ret
 exact⟨rfl,rfl⟩
theorem size_toList_ne {s:ByteArray} (hs:s.size≠0):(s.toList== [])=false:=by
 rw[beq_eq_false_iff_ne]
 intro e
 have:=size_toList s
 rw[e]at this
 exact hs (by simpa using this.symm)
theorem text_longer (T:TreeD) (tb g:Nat) (w:World) (a j k:Nat) (b:Int) (s:ByteArray) (ha:a<T.nodes.length) (hk1:k<T.nodes.length) (h:TreeO w tb g T) (h1:holdsF T a=true) (h4:placeF T a b=(j:Int)+1) (hs:s.size≠0)
 (l:List Int) (hl:l=T.nodes[a].kids) (hj:j<l.length) (hlk:l[j]=k) (hkl:l.length≤2097152) (hel:T.nodes[k].elem=false) (hts:T.nodes[k].text.size+s.size≤9223372036854775807) :
 Calls Tryz.prog 153 #[.pointer (some ⟨tb,0,none⟩),.int .i64 a,.int .i64 b,.string s] w fun e w'=>e= .returned (.int .i64 0)∧TreeO w' tb g (modN T k (addText s))∧Keeps (Two tb g) w w':=by
 have H1:=Lib.hid (holds_any T tb g w a h)
 have H4:=Lib.hid (place_any T tb g w a b ha h)
 rw[h1]at H1
 rw[h4]at H4
 have h4': ¬((j:Int)+1<0):=by omega
 have h4'':(0:Int)<(j:Int)+1:=by omega
 have hw1:IntKind.i64.wrap ((j:Int)+1-1)=(j:Int):=by rw[IntKind.wrap_i64];omega
 have hw2:IntKind.i64.wrap (j:Int)=(j:Int):=by rw[IntKind.wrap_i64];omega
 have hs':=size_toList_ne hs
 obtain⟨cap,p1,p2,c0,_,_,_⟩:=h.head
 obtain⟨aa,ac,ka,kc,_,_,_,hk4,hk5,_,_,hkat,hc,_⟩:=h.node ha
 have d6:=hc 6 _ rfl
 rw[←hl]at d6 hkat hk4
 obtain⟨kb,ko,rfl,e1⟩:=hkat.at _ _ (intsV_get l j hj)
 rw[hlk]at e1
 obtain⟨aa',ac',ka',kc',_,_,_,_,_,_,_,_,hc',hf'⟩:=h.node hk1
 have d0:=hc' 0 _ rfl
 have d4:=hc' 4 _ rfl
 rw[Nat.add_zero]at d0
 rw[hel]at d0
 have f4:=hf' (k*7+4)
 have HT:=Lib.hid (tree_text h hk1 s)
 have HK:=Lib.hid ((Keeps.refl (Two tb g) w).set (p:=⟨g,k*7+4,none⟩) (.inl (.inr rfl)) (.string (T.nodes[k].text++s)))
 unfold maxLen at p2 hk5
 have hts': ¬(9223372036854775807<T.nodes[k].text.size+s.size):=by omega
 clear h h4 hs hc hc' hf' hkat hl hlk
 go_enter Tryz.func153,Tryz.ntmps153
 go_wp2_with (first|(go_at_call 199;go_must (refine H1.out.mono ?_;rintro e w1 ⟨rfl,rfl⟩))|(go_at_call 200;go_must (refine H4.out.mono ?_;rintro e w1 ⟨rfl,rfl⟩)))
 go_ret
 exact⟨rfl,HT.out,HK.out⟩
theorem text_full (T:TreeD) (tb g:Nat) (w:World) (a i:Nat) (b:Int) (s:ByteArray) (ha:a<T.nodes.length) (hn:T.nodes.length≤1048576) (h:TreeO w tb g T) (h1:holdsF T a=true) (h4:placeF T a b=i) (hs:s.size≠0)
 (hprev:0<i→ ∃(l:List Int) (k:Nat) (hk:k<T.nodes.length) (hj:i-1<l.length),l=T.nodes[a].kids∧l[i-1]=k∧l.length≤2097152∧T.nodes[k].elem=true)
 (hm: ¬((T.nodes.length:Int)-1<T.most)) :
 Calls Tryz.prog 153 #[.pointer (some ⟨tb,0,none⟩),.int .i64 a,.int .i64 b,.string s] w fun e w'=>e= .returned (.int .i64 43)∧ ∃g',TreeO w' tb g' T∧Keeps (Two tb g) w w'∧(g'=g∨w.heap.size≤g'):=by
 have he:mkF T ⟨false,0,⟨#[]⟩,[],s, -1,[]⟩=(T,0,43):=by rw[mkF,if_neg hm]
 have H1:=Lib.hid (holds_any T tb g w a h)
 have H4:=Lib.hid (place_any T tb g w a b ha h)
 rw[h1]at H1
 have hs':=size_toList_ne hs
 have HM:=Lib.hid (make_any T tb g w false 0 0 ⟨#[]⟩ s [] 0 none 0 rfl (fun _=>rfl) (by decide) hn h (At.nil _ _))
 rw[he]at HM
 rw[h4]at H4
 have HT:=Lib.hid h
 cases i with
 |zero =>
  have h4': ¬(((0:Nat):Int)<0):=by omega
  have h4'': ¬((0:Int)<((0:Nat):Int)):=by omega
  clear h h4 hprev
  go_enter Tryz.func153,Tryz.ntmps153
  go_wp2_with (first|(go_at_call 199;go_must (refine H1.out.mono ?_;rintro e w1 ⟨rfl,rfl⟩))|(go_at_call 200;go_must (refine H4.out.mono ?_;rintro e w1 ⟨rfl,rfl⟩)))
  refine HM.out.mono ?_
  rintro e w2 ⟨g',hK2,hg2,rfl,hT2⟩
  have HK2:=Lib.hid hK2
  have HT2:=Lib.hid hT2
  clear hK2 hT2
  go_wp2_with fail
  go_ret
  exact⟨rfl,g',HT2.out,HK2.out,hg2⟩
 |succ j =>
  obtain⟨l,k,hk1,hj,hl,hlk,hkl,hel⟩:=hprev (Nat.succ_pos _)
  simp only[Nat.add_sub_cancel]at hj hlk
  rw[show((j+1:Nat):Int)=(j:Int)+1 from by omega]at H4
  have h4': ¬((j:Int)+1<0):=by omega
  have h4'':(0:Int)<(j:Int)+1:=by omega
  have hw1:IntKind.i64.wrap ((j:Int)+1-1)=(j:Int):=by rw[IntKind.wrap_i64];omega
  have hw2:IntKind.i64.wrap (j:Int)=(j:Int):=by rw[IntKind.wrap_i64];omega
  obtain⟨cap,p1,p2,c0,_,_,_⟩:=h.head
  obtain⟨aa,ac,ka,kc,_,_,_,hk4,hk5,_,_,hkat,hc,_⟩:=h.node ha
  have d6:=hc 6 _ rfl
  rw[←hl]at d6 hkat hk4
  obtain⟨kb,ko,rfl,e1⟩:=hkat.at _ _ (intsV_get l j hj)
  rw[hlk]at e1
  obtain⟨aa',ac',ka',kc',_,_,_,_,_,_,_,_,hc',hf'⟩:=h.node hk1
  have d0:=hc' 0 _ rfl
  rw[Nat.add_zero]at d0
  rw[hel]at d0
  unfold maxLen at p2 hk5
  clear h h4 hs hc hc' hf' hkat hl hlk hprev
  go_enter Tryz.func153,Tryz.ntmps153
  go_wp2_with (first|(go_at_call 199;go_must (refine H1.out.mono ?_;rintro e w1 ⟨rfl,rfl⟩))|(go_at_call 200;go_must (refine H4.out.mono ?_;rintro e w1 ⟨rfl,rfl⟩)))
  refine HM.out.mono ?_
  rintro e w2 ⟨g',hK2,hg2,rfl,hT2⟩
  have HK2:=Lib.hid hK2
  have HT2:=Lib.hid hT2
  clear hK2 hT2
  go_wp2_with fail
  go_ret
  exact⟨rfl,g',HT2.out,HK2.out,hg2⟩
theorem text_new (T:TreeD) (tb g:Nat) (w:World) (a i:Nat) (b:Int) (s:ByteArray) (ha:a<T.nodes.length) (hn:T.nodes.length≤1048576) (h:TreeO w tb g T) (h1:holdsF T a=true) (h4:placeF T a b=i) (hs:s.size≠0)
 (hprev:0<i→ ∃(l:List Int) (k:Nat) (hk:k<T.nodes.length) (hj:i-1<l.length),l=T.nodes[a].kids∧l[i-1]=k∧l.length≤2097152∧T.nodes[k].elem=true)
 (hik:i≤(kidsF T a).length) (hik2:(kidsF T a).length≤2097152) (hm:(T.nodes.length:Int)-1<T.most) :
 Calls Tryz.prog 153 #[.pointer (some ⟨tb,0,none⟩),.int .i64 a,.int .i64 b,.string s] w fun e w'=>e= .returned (.int .i64 0)∧ ∃g',TreeO w' tb g' (insertF (addF T (textN s)) a i T.nodes.length)∧Keeps (Two tb g) w w'∧(g'=g∨w.heap.size≤g'):=by
 have he:mkF T ⟨false,0,⟨#[]⟩,[],s, -1,[]⟩=(addF T (textN s),(T.nodes.length:Int),0):=by rw[mkF,if_pos hm];rfl
 have hal:(addF T (textN s)).nodes.length=T.nodes.length+1:=by simp[addF]
 have H1:=Lib.hid (holds_any T tb g w a h)
 have H4:=Lib.hid (place_any T tb g w a b ha h)
 rw[h1]at H1
 have hs':=size_toList_ne hs
 have HM:=Lib.hid (make_any T tb g w false 0 0 ⟨#[]⟩ s [] 0 none 0 rfl (fun _=>rfl) (by decide) hn h (At.nil _ _))
 rw[he]at HM
 rw[h4]at H4
 have HT:=Lib.hid h
 cases i with
 |zero =>
  have h4': ¬(((0:Nat):Int)<0):=by omega
  have h4'': ¬((0:Int)<((0:Nat):Int)):=by omega
  clear h h4 hprev
  go_enter Tryz.func153,Tryz.ntmps153
  go_wp2_with (first|(go_at_call 199;go_must (refine H1.out.mono ?_;rintro e w1 ⟨rfl,rfl⟩))|(go_at_call 200;go_must (refine H4.out.mono ?_;rintro e w1 ⟨rfl,rfl⟩)))
  refine HM.out.mono ?_
  rintro e w2 ⟨g',hK2,hg2,rfl,hT2⟩
  have HK2:=Lib.hid hK2
  have H8:=Lib.hid (insert_any (addF T (textN s)) tb g' w2 a _ T.nodes.length (by rw[hal];omega) (by rw[hal];omega) (by rw[addF_kids T _ a ha];exact hik) (by rw[addF_kids T _ a ha];exact hik2) hT2)
  clear hK2 hT2
  go_wp2_with fail
  refine H8.out.mono ?_
  rintro e w3 ⟨rfl,hT3,hK3⟩
  have HT3:=Lib.hid hT3
  have HK3:=Lib.hid (keeps_two HK2.out hK3 hg2)
  clear hT3 hK3
  go_wp2_with fail
  go_ret
  exact⟨rfl,g',HT3.out,HK3.out,hg2⟩
 |succ j =>
  obtain⟨l,k,hk1,hj,hl,hlk,hkl,hel⟩:=hprev (Nat.succ_pos _)
  simp only[Nat.add_sub_cancel]at hj hlk
  rw[show((j+1:Nat):Int)=(j:Int)+1 from by omega]at H4
  have h4': ¬((j:Int)+1<0):=by omega
  have h4'':(0:Int)<(j:Int)+1:=by omega
  have hw1:IntKind.i64.wrap ((j:Int)+1-1)=(j:Int):=by rw[IntKind.wrap_i64];omega
  have hw2:IntKind.i64.wrap (j:Int)=(j:Int):=by rw[IntKind.wrap_i64];omega
  obtain⟨cap,p1,p2,c0,_,_,_⟩:=h.head
  obtain⟨aa,ac,ka,kc,_,_,_,hk4,hk5,_,_,hkat,hc,_⟩:=h.node ha
  have d6:=hc 6 _ rfl
  rw[←hl]at d6 hkat hk4
  obtain⟨kb,ko,rfl,e1⟩:=hkat.at _ _ (intsV_get l j hj)
  rw[hlk]at e1
  obtain⟨aa',ac',ka',kc',_,_,_,_,_,_,_,_,hc',hf'⟩:=h.node hk1
  have d0:=hc' 0 _ rfl
  rw[Nat.add_zero]at d0
  rw[hel]at d0
  unfold maxLen at p2 hk5
  clear h h4 hs hc hc' hf' hkat hl hlk hprev
  go_enter Tryz.func153,Tryz.ntmps153
  go_wp2_with (first|(go_at_call 199;go_must (refine H1.out.mono ?_;rintro e w1 ⟨rfl,rfl⟩))|(go_at_call 200;go_must (refine H4.out.mono ?_;rintro e w1 ⟨rfl,rfl⟩)))
  refine HM.out.mono ?_
  rintro e w2 ⟨g',hK2,hg2,rfl,hT2⟩
  have HK2:=Lib.hid hK2
  have H8:=Lib.hid (insert_any (addF T (textN s)) tb g' w2 a _ T.nodes.length (by rw[hal];omega) (by rw[hal];omega) (by rw[addF_kids T _ a ha];exact hik) (by rw[addF_kids T _ a ha];exact hik2) hT2)
  clear hK2 hT2
  rw[show((j+1:Nat):Int)=(j:Int)+1 from by omega]at H8
  go_wp2_with fail
  refine H8.out.mono ?_
  rintro e w3 ⟨rfl,hT3,hK3⟩
  have HT3:=Lib.hid hT3
  have HK3:=Lib.hid (keeps_two HK2.out hK3 hg2)
  clear hT3 hK3
  go_wp2_with fail
  go_ret
  exact⟨rfl,g',HT3.out,HK3.out,hg2⟩
end Go.Proofs.YtgepobccoffnaaaGreatDoor
namespace Go.Proofs.YtgepobccoffnaaaGreatDoor
open Go.RowKit Mem
theorem elemF_nat {T:TreeD} {n:Int} (h:elemF T n=true): ∃k:Nat,∃h:k<T.nodes.length,n=k∧1≤k∧T.nodes[k].elem=true:=by
 have hi:=isF_lt (T:=T) (a:=n) (by unfold elemF at h;exact(Bool.and_eq_true_iff.1 h).1)
 obtain⟨k,rfl⟩:=Int.eq_ofNat_of_zero_le (by omega:0≤n)
 have hk:k<T.nodes.length:=by omega
 exact⟨k,hk,rfl,by omega,by rw[←elemF_of T k (by omega) hk];exact h⟩
theorem prevF_of {T:TreeD} (hw:WF T) {a i:Nat} (ha:a<T.nodes.length) (hi:0<i) (hik:i≤(kidsF T a).length) :
 ∃(k:Nat) (hk:k<T.nodes.length) (hj:i-1<T.nodes[a].kids.length),T.nodes[a].kids[i-1]=k∧prevF T a i=k∧elemF T k=T.nodes[k].elem∧1≤k:=by
 have hj:i-1<(kidsF T a).length:=by omega
 have hm:=hw.kid a ha _ (List.getElem_mem hj)
 obtain⟨k,hk⟩:=Int.eq_ofNat_of_zero_le (by omega:0≤(kidsF T a)[i-1])
 have hkl:k<T.nodes.length:=by omega
 have hk1:1≤k:=by omega
 have hkk:=kidsF_of T a ha
 have hj':i-1<T.nodes[a].kids.length:=by rw[←hkk];exact hj
 refine⟨k,hkl,hj',?_,?_,elemF_of T k hk1 hkl,hk1⟩
 ·rw[←hk]
  simp only[hkk]
 ·simp[prevF,hj,hk]
theorem Text_any (T:TreeD) (tb g:Nat) (w:World) (a b:Int) (s:ByteArray) (hw:WF T) (hn:T.nodes.length≤1048576) (hts: ∀i (h:i<T.nodes.length),T.nodes[i].text.size+s.size≤9223372036854775807) (h:TreeO w tb g T) :
 Calls Tryz.prog 153 #[.pointer (some ⟨tb,0,none⟩),.int .i64 a,.int .i64 b,.string s] w fun e w'=>e= .returned (.int .i64 (textE T a b s).2)∧ ∃g',TreeO w' tb g' (textE T a b s).1∧Keeps (Two tb g) w w'∧(g'=g∨w.heap.size≤g'):=by
 cases hok:(holdsF T a&&decide (0≤placeF T a b))
 ·have he:textE T a b s=(T,47):=by rw[textE,hok];rfl
  rw[he]
  exact(text_no T tb g w a b s hw.pos h hok).mono fun e w' ⟨h1,h2⟩=>by
   subst h2
   exact⟨h1,g,h,Keeps.refl _ _,.inl rfl⟩
 ·have he:textE T a b s=if s.size=0 then(T,0)else textAt T a b s:=by rw[textE,hok];rfl
  rw[he]
  obtain⟨h1,h4⟩:=Bool.and_eq_true_iff.1 hok
  have h4:=of_decide_eq_true h4
  have ha:=holdsF_lt hw.pos h1
  obtain⟨a,rfl⟩:=Int.eq_ofNat_of_zero_le ha.1
  have ha':a<T.nodes.length:=by omega
  by_cases hs:s.size=0
  ·rw[if_pos hs]
   exact(text_empty T tb g w a b s ha' h h1 h4 hs).mono fun e w' ⟨h1,h2⟩=>by
    subst h2
    exact⟨h1,g,h,Keeps.refl _ _,.inl rfl⟩
  ·rw[if_neg hs]
   obtain⟨i,hi,hik⟩:=placeF_nat T a b h4
   have hks:=kids_short hw a ha'
   have hkk:=kidsF_of T a ha'
   have hin:(placeF T a b).toNat=i:=by rw[hi];rfl
   rw[textAt,hin]
   by_cases hp:0<i∧elemF T (prevF T a i)=false
   ·rw[if_pos hp]
    obtain⟨k,hk,hj,e1,e2,e3,_⟩:=prevF_of hw ha' hp.1 hik
    rw[e2]at hp ⊢
    obtain⟨j,rfl⟩: ∃j,i=j+1:=⟨i-1,by omega⟩
    exact(text_longer T tb g w a j k b s ha' hk h h1 (by rw[hi];omega) hs _ rfl (by simpa using hj) (by simpa using e1) (by rw[←hkk];omega) (by rw[←e3];exact hp.2) (hts k hk)).mono fun e w' ⟨h1,h2,h3⟩=>⟨h1,g,h2,h3,.inl rfl⟩
   ·rw[if_neg hp]
    have hprev:0<i→ ∃(l:List Int) (k:Nat) (hk:k<T.nodes.length) (hj:i-1<l.length),l=T.nodes[a].kids∧l[i-1]=k∧l.length≤2097152∧T.nodes[k].elem=true:=by
     intro h0
     obtain⟨k,hk,hj,e1,e2,e3,_⟩:=prevF_of hw ha' h0 hik
     refine⟨_,k,hk,hj,rfl,e1,by rw[←hkk];omega,?_⟩
     rw[←e3,←e2]
     cases hh:elemF T (prevF T a i)
     ·exact absurd ⟨h0,hh⟩ hp
     ·rfl
    by_cases hm:(T.nodes.length:Int)-1<T.most
    ·rw[if_pos hm]
     exact text_new T tb g w a i b s ha' hn h h1 hi hs hprev hik (by omega) hm
    ·rw[if_neg hm]
     exact text_full T tb g w a i b s ha' hn h h1 hi hs hprev hm
theorem insert_new_wf {T:TreeD} (hw:WF T) (d:ND) (hp:d.parent= -1) (hk:d.kids= []) {a i:Nat} (ha:a<T.nodes.length) (hH:holdsF T a=true):WF (insertF (addF T d) a i T.nodes.length):=by
 have hl:(addF T d).nodes.length=T.nodes.length+1:=by simp[addF]
 have hpos:=hw.pos
 refine insertF_wf (addF_wf hw d hp hk) (by omega) (by omega) (by omega) (by rw[addF_holds T d a ha];exact hH) (by simp[addF,parentF,hp]) fun hr=> ?_
 have key: ∀m:Int,Reach (addF T d) (T.nodes.length:Int) m→m<T.nodes.length→False:=by
  intro m hm
  induction hm with
  |here=>intro h;omega
  | @up m h0 _ ih =>
    intro hlt
    obtain⟨k,rfl⟩:=Int.eq_ofNat_of_zero_le (by omega:0≤m)
    refine ih ?_
    rw[addF_parent T d k (by omega)]
    exact(hw.par k (by omega)).2
 exact key a hr (by omega)
theorem textE_wf {T:TreeD} (hw:WF T) (a b:Int) (s:ByteArray):WF (textE T a b s).1∧(textE T a b s).1.most=T.most:=by
 unfold textE
 split
 ·rename_i hok
  obtain⟨h1,h4⟩:=Bool.and_eq_true_iff.1 hok
  have ha:=holdsF_lt hw.pos h1
  obtain⟨a,rfl⟩:=Int.eq_ofNat_of_zero_le ha.1
  have ha':a<T.nodes.length:=by omega
  obtain⟨i,hi,hik⟩:=placeF_nat T a b (of_decide_eq_true h4)
  have hin:(placeF T a b).toNat=i:=by rw[hi];rfl
  split
  ·exact⟨hw,rfl⟩
  ·rw[textAt,hin]
   split
   ·rename_i hp
    obtain⟨k,hk,hj,e1,e2,e3,_⟩:=prevF_of hw ha' hp.1 hik
    rw[e2]
    exact⟨addText_wf hw k s,rfl⟩
   ·split
    ·exact⟨insert_new_wf hw (textN s) rfl rfl ha' h1,rfl⟩
    ·exact⟨hw,rfl⟩
 ·exact⟨hw,rfl⟩
end Go.Proofs.YtgepobccoffnaaaGreatDoor
namespace Go.Proofs.YtgepobccoffnaaaGreatDoor
open Go.RowKit Mem
structure TI (w0:World) (B tb:Nat) (T:TreeD) (g:Nat) (w:World):Prop where
 tree:TreeO w tb g T
 wf:WF T
 below:Below w0.heap.size w0 w
 htb:w0.heap.size≤tb
 hg:w0.heap.size≤g
 len:T.nodes.length≤1000000
 most:T.most≤5000
 att: ∀d∈T.nodes,d.attrs.length≤1048576
 txt: ∀d∈T.nodes,d.text.size≤B
theorem two_below {w0 w w':World} {tb g:Nat} (hb:Below w0.heap.size w0 w) (htb:w0.heap.size≤tb) (hg:w0.heap.size≤g) (hk:Keeps (Two tb g) w w'):Below w0.heap.size w0 w' :=
 hb.trans (hk.below (fun k hk=>by rintro(h|h) <;>omega) hb.size)
theorem TI.step {w0 w w':World} {B B' tb g g':Nat} {T T':TreeD} (h:TI w0 B tb T g w) (hk:Keeps (Two tb g) w w') (hT:TreeO w' tb g' T') (hg:g'=g∨w.heap.size≤g') (hw:WF T') (hl:T'.nodes.length≤1000000) (hm:T'.most=T.most)
 (ha: ∀d∈T'.nodes,d.attrs.length≤1048576) (ht: ∀d∈T'.nodes,d.text.size≤B'):TI w0 B' tb T' g' w' where
 tree:=hT
 wf:=hw
 below:=two_below h.below h.htb h.hg hk
 htb:=h.htb
 hg:=by
  have:=h.below.size
  have:=h.hg
  rcases hg with rfl|hg <;>omega
 len:=hl
 most:=by rw[hm];exact h.most
 att:=ha
 txt:=ht
theorem TI.world {w0 w w':World} {B tb g:Nat} {T:TreeD} (h:TI w0 B tb T g w) (hb:Below w.heap.size w w'):TI w0 B tb T g w' :=
 h.step (Keeps.ofBelow hb) (h.tree.below hb) (.inl rfl) h.wf h.len rfl h.att h.txt
theorem TI.atti {w0 w:World} {B tb g:Nat} {T:TreeD} (h:TI w0 B tb T g w): ∀i (h:i<T.nodes.length),T.nodes[i].attrs.length≤1048576:=fun _ _=>h.att _ (List.getElem_mem _)
theorem modN_all {P:ND→Prop} {T:TreeD} {f:ND→ND} (n:Int) (h: ∀d∈T.nodes,P d) (hf: ∀d,P d→P (f d)): ∀d∈(modN T n f).nodes,P d:=by
 intro d hd
 obtain⟨i,hi,rfl⟩:=List.getElem_of_mem hd
 simp only[modN,List.length_modify]at hi
 simp only[modN,List.getElem_modify]
 split
 ·exact hf _ (h _ (List.getElem_mem _))
 ·exact h _ (List.getElem_mem _)
theorem addF_all {P:ND→Prop} {T:TreeD} {d:ND} (h: ∀d∈T.nodes,P d) (hd:P d): ∀x∈(addF T d).nodes,P x:=by
 intro x hx
 simp only[addF,List.mem_append,List.mem_singleton]at hx
 rcases hx with hx|rfl
 ·exact h x hx
 ·exact hd
theorem takeF_all {P:ND→Prop} {T:TreeD} (n:Int) (h: ∀d∈T.nodes,P d) (hk: ∀d l,P d→P (setKids l d)) (hp: ∀d p,P d→P (setParent p d)): ∀d∈(takeF T n).nodes,P d:=by
 refine modN_all _ ?_ fun d hd=>hp d _ hd
 unfold kidsOff
 split
 ·exact modN_all _ h fun d hd=>hk d _ hd
 ·exact h
theorem insertF_all {P:ND→Prop} {T:TreeD} (a:Int) (i:Nat) (n:Int) (h: ∀d∈T.nodes,P d) (hk: ∀d l,P d→P (setKids l d)) (hp: ∀d p,P d→P (setParent p d)): ∀d∈(insertF T a i n).nodes,P d :=
 modN_all _ (modN_all _ h fun d hd=>hk d _ hd) fun d hd=>hp d _ hd
theorem putE_all {P:ND→Prop} {T:TreeD} (a b n:Int) (h: ∀d∈T.nodes,P d) (hk: ∀d l,P d→P (setKids l d)) (hp: ∀d p,P d→P (setParent p d)): ∀d∈(putE T a b n).1.nodes,P d:=by
 unfold putE
 split
 ·exact insertF_all _ _ _ (takeF_all _ h hk hp) hk hp
 ·exact h
theorem textE_all {P Q:ND→Prop} {T:TreeD} (a b:Int) (s:ByteArray) (h: ∀d∈T.nodes,P d) (hPQ: ∀d,P d→Q d) (hs: ∀d,P d→Q (addText s d)) (hn:Q (textN s)) (hk: ∀d l,Q d→Q (setKids l d)) (hp: ∀d p,Q d→Q (setParent p d)): ∀d∈(textE T a b s).1.nodes,Q d:=by
 have hQ: ∀d∈T.nodes,Q d:=fun d hd=>hPQ d (h d hd)
 unfold textE
 split
 ·split
  ·exact hQ
  ·unfold textAt
   split
   ·intro d hd
    obtain⟨i,hi,rfl⟩:=List.getElem_of_mem hd
    simp only[modN,List.length_modify]at hi
    simp only[modN,List.getElem_modify]
    split
    ·exact hs _ (h _ (List.getElem_mem _))
    ·exact hQ _ (List.getElem_mem _)
   ·split
    ·exact insertF_all _ _ _ (addF_all hQ hn) hk hp
    ·exact hQ
 ·exact hQ
theorem mkF_wf {T:TreeD} (hw:WF T) (d:ND) (hp:d.parent= -1) (hk:d.kids= []):WF (mkF T d).1∧(mkF T d).1.most=T.most:=by
 unfold mkF
 split
 ·exact⟨addF_wf hw d hp hk,rfl⟩
 ·exact⟨hw,rfl⟩
theorem mkF_len {T:TreeD} (d:ND) (hl:T.nodes.length≤1000000) (hm:T.most≤5000):(mkF T d).1.nodes.length≤1000000:=by
 unfold mkF
 split
 ·rename_i h
  simp only[addF,List.length_append,List.length_singleton]
  omega
 ·exact hl
theorem mkF_all {P:ND→Prop} {T:TreeD} {d:ND} (h: ∀d∈T.nodes,P d) (hd:P d): ∀x∈(mkF T d).1.nodes,P x:=by
 unfold mkF
 split
 ·exact addF_all h hd
 ·exact h
theorem textE_len {T:TreeD} (a b:Int) (s:ByteArray) (hl:T.nodes.length≤1000000) (hm:T.most≤5000):(textE T a b s).1.nodes.length≤1000000:=by
 unfold textE
 split
 ·split
  ·exact hl
  ·unfold textAt
   split
   ·rw[modN_len];exact hl
   ·split
    ·rename_i h
     rw[insertF_len]
     simp only[addF,List.length_append,List.length_singleton]
     omega
    ·exact hl
 ·exact hl
section
variable {w0 w:World} {B tb g:Nat} {T:TreeD}
theorem Elem_ti (h:TI w0 B tb T g w) (sp:Int) (nm:ByteArray) (l:List Pair) (n:Nat) (a:Option Addr) (c:Nat) (hnl:n=l.length) (hc:a=none→c=0) (hlen:l.length≤1048576) (ha:At w a (pairsV l)) :
 Calls Tryz.prog 154 #[.pointer (some ⟨tb,0,none⟩),.int .i64 sp,.string nm,.slice a n c] w fun e w' =>
  e= .returned (.tuple #[.int .i64 (mkF T (elemN sp nm l)).2.1,.int .i64 (mkF T (elemN sp nm l)).2.2])∧Keeps (Two tb g) w w'∧ ∃g',TI w0 B tb (mkF T (elemN sp nm l)).1 g' w':=by
 refine(Elem_any T tb g w sp nm l n a c hnl hc hlen (by have:=h.len;omega) h.tree ha).mono ?_
 rintro e w' ⟨g',hK,hg,he,hT⟩
 have hw:=mkF_wf h.wf (elemN sp nm l) rfl rfl
 exact⟨he,hK,g',h.step hK hT hg hw.1 (mkF_len _ h.len h.most) hw.2 (mkF_all h.att hlen) (mkF_all h.txt (Nat.zero_le _))⟩
theorem Like_ti (h:TI w0 B tb T g w) (n:Int) :
 Calls Tryz.prog 231 #[.pointer (some ⟨tb,0,none⟩),.int .i64 n] w fun e w' =>
  e= .returned (.tuple #[.int .i64 (likeF T n).2.1,.int .i64 (likeF T n).2.2])∧Keeps (Two tb g) w w'∧ ∃g',TI w0 B tb (likeF T n).1 g' w':=by
 refine(Like_any T tb g w n (by have:=h.len;omega) h.atti h.tree).mono ?_
 rintro e w' ⟨g',hK,hg,he,hT⟩
 refine⟨he,hK,g',?_⟩
 unfold likeF at hT ⊢
 split
 ·rename_i hel
  rw[if_pos hel]at hT
  have hw:=mkF_wf h.wf (elemN (spaceQ T n) (nameQ T n) (attrsQ T n)) rfl rfl
  exact h.step hK hT hg hw.1 (mkF_len _ h.len h.most) hw.2 (mkF_all h.att (attrsQ_short h.atti n)) (mkF_all h.txt (Nat.zero_le _))
 ·rename_i hel
  rw[if_neg hel]at hT
  exact h.step hK hT hg h.wf h.len rfl h.att h.txt
theorem Put_ti (h:TI w0 B tb T g w) (a b n:Int) :
 Calls Tryz.prog 155 #[.pointer (some ⟨tb,0,none⟩),.int .i64 a,.int .i64 b,.int .i64 n] w fun e w' =>
  e= .returned (.int .i64 (putE T a b n).2)∧Keeps (Two tb g) w w'∧TI w0 B tb (putE T a b n).1 g w':=by
 refine(Put_any T tb g w a b n h.wf (by have:=h.len;omega) h.tree).mono ?_
 rintro e w' ⟨he,hT,hK⟩
 have hw:=putE_wf h.wf a b n
 exact⟨he,hK,h.step hK hT (.inl rfl) hw.1 (by rw[hw.2.1];exact h.len) hw.2.2 (putE_all _ _ _ h.att (fun _ _ h=>h) fun _ _ h=>h) (putE_all _ _ _ h.txt (fun _ _ h=>h) fun _ _ h=>h)⟩
theorem Text_ti (h:TI w0 B tb T g w) (a b:Int) (s:ByteArray) {B':Nat} (hB:B+s.size≤B') (hB':B'≤9223372036854775807) :
 Calls Tryz.prog 153 #[.pointer (some ⟨tb,0,none⟩),.int .i64 a,.int .i64 b,.string s] w fun e w' =>
  e= .returned (.int .i64 (textE T a b s).2)∧Keeps (Two tb g) w w'∧ ∃g',TI w0 B' tb (textE T a b s).1 g' w':=by
 refine(Text_any T tb g w a b s h.wf (by have:=h.len;omega) (fun i hi=>by have:=h.txt _ (List.getElem_mem hi);omega) h.tree).mono ?_
 rintro e w' ⟨he,g',hT,hK,hg⟩
 have hw:=textE_wf h.wf a b s
 refine⟨he,hK,g',h.step hK hT hg hw.1 (textE_len _ _ _ h.len h.most) hw.2 (textE_all (P:=fun d=>d.attrs.length≤1048576) _ _ _ h.att (fun _ h=>h) (fun _ h=>h) (Nat.zero_le _) (fun _ _ h=>h) fun _ _ h=>h)
  (textE_all (P:=fun d=>d.text.size≤B) _ _ _ h.txt (fun d hd=>by omega) (fun d hd=> ?_) ?_ (fun _ _ h=>h) fun _ _ h=>h)⟩
 ·show(d.text++s).size≤B'
  rw[ByteArray.size_append]
  omega
 ·show s.size≤B'
  omega
end
end Go.Proofs.YtgepobccoffnaaaGreatDoor
namespace Go.Proofs.YtgepobccoffnaaaGreatDoor
open Go.RowKit Mem
noncomputable def moveF (T:TreeD) (b:Int) (l:List Int):TreeD:=l.foldl (fun T k=>(putE T b 0 k).1) T
noncomputable def moveE (T:TreeD) (a b:Int):TreeD×Int:=if holdsF T a&&holdsF T b&& !belowF T b a then(moveF T b (kidsF T a),0)else(T,47)
theorem moveF_next (T:TreeD) (b:Int) (l:List Int) (k:Nat) (h:k<l.length):moveF T b (l.take (k+1))=(putE (moveF T b (l.take k)) b 0 l[k]).1:=by
 have:l.take (k+1)=l.take k++ [l[k]]:=by rw[List.take_add_one];simp[h]
 rw[this,moveF,List.foldl_append]
 rfl
theorem move_no (T:TreeD) (tb g:Nat) (w:World) (a b:Int) (hw:WF T) (h:TreeO w tb g T) (hno:(holdsF T a&&holdsF T b&& !belowF T b a)=false) :
 Calls Tryz.prog 236 #[.pointer (some ⟨tb,0,none⟩),.int .i64 a,.int .i64 b] w fun e w'=>e= .returned (.int .i64 47)∧w=w':=by
 have H1:=Lib.hid (holds_any T tb g w a h)
 have H2:=Lib.hid (holds_any T tb g w b h)
 cases h1:holdsF T a
 ·by_cases hab:a=b
  ·subst hab
   rw[h1]at H1
   clear h hno
   go_enter Tryz.func236,Tryz.ntmps236
   go_wp2_with (first|(go_at_call 199;go_must (refine H1.out.mono ?_;rintro e w1 ⟨rfl,rfl⟩)))
   go_ret
   exact⟨rfl,rfl⟩
  ·rw[h1]at H1
   clear h hno
   go_enter Tryz.func236,Tryz.ntmps236
   go_wp2_with (first|(go_at_call 199;go_must (refine H1.out.mono ?_;rintro e w1 ⟨rfl,rfl⟩)))
   go_ret
   exact⟨rfl,rfl⟩
 rw[h1]at H1
 cases h2:holdsF T b
 ·have hab:a≠b:=by
   intro e
   rw[e,h2]at h1
   cases h1
  rw[h2]at H2
  clear h hno
  go_enter Tryz.func236,Tryz.ntmps236
  go_wp2_with (first|(go_at_call_of 199 (Value.int .i64 b);go_must (refine H2.out.mono ?_;rintro e w1 ⟨rfl,rfl⟩))|(go_at_call 199;go_must (refine H1.out.mono ?_;rintro e w1 ⟨rfl,rfl⟩))|(go_at_call 203;go_must (refine H3.out.mono ?_;rintro e w1 ⟨rfl,rfl⟩)))
  go_ret
  exact⟨rfl,rfl⟩
 rw[h2]at H2
 have hb:=holdsF_lt hw.pos h2
 have H3:=Lib.hid (below_any T tb g w b a (by omega) hw h)
 cases h3:belowF T b a
 ·rw[h1,h2,h3]at hno
  cases hno
 ·rw[h3]at H3
  clear h hno hb
  by_cases hab:a=b
  ·subst hab
   go_enter Tryz.func236,Tryz.ntmps236
   go_wp2_with (first|(go_at_call 199;go_must (refine H1.out.mono ?_;rintro e w1 ⟨rfl,rfl⟩))|(go_at_call 203;go_must (refine H3.out.mono ?_;rintro e w1 ⟨rfl,rfl⟩)))
   go_ret
   exact⟨rfl,rfl⟩
  ·go_enter Tryz.func236,Tryz.ntmps236
   go_wp2_with (first|(go_at_call_of 199 (Value.int .i64 b);go_must (refine H2.out.mono ?_;rintro e w1 ⟨rfl,rfl⟩))|(go_at_call 199;go_must (refine H1.out.mono ?_;rintro e w1 ⟨rfl,rfl⟩))|(go_at_call 203;go_must (refine H3.out.mono ?_;rintro e w1 ⟨rfl,rfl⟩)))
   go_ret
   exact⟨rfl,rfl⟩
theorem move_yes {w0 w:World} {B tb g:Nat} {T:TreeD} (h:TI w0 B tb T g w) (a b:Int) (hok:(holdsF T a&&holdsF T b&& !belowF T b a)=true) :
 Calls Tryz.prog 236 #[.pointer (some ⟨tb,0,none⟩),.int .i64 a,.int .i64 b] w fun e w'=>e= .returned (.int .i64 0)∧Keeps (Two tb g) w w'∧TI w0 B tb (moveF T b (kidsF T a)) g w':=by
 simp only[Bool.and_eq_true,Bool.not_eq_true']at hok
 obtain⟨⟨h1,h2⟩,h3⟩:=hok
 have H1:=Lib.hid (holds_any T tb g w a h.tree)
 have H2:=Lib.hid (holds_any T tb g w b h.tree)
 have hb:=holdsF_lt h.wf.pos h2
 have ha:=holdsF_lt h.wf.pos h1
 have H3:=Lib.hid (below_any T tb g w b a (by omega) h.wf h.tree)
 have H4:=Lib.hid (kids_any T tb g w a h.tree (fun i hi=>by
  have:=kids_short h.wf i hi
  rw[kidsF_of T i hi]at this
  have:=h.len
  omega))
 have hq:kidsQ T a=kidsF T a:=by rw[kidsQ,if_pos ha]
 rw[hq]at H4
 have hab:a≠b:=by
  intro e
  rw[e]at h3
  rw[belowF_true .here]at h3
  cases h3
 rw[h1]at H1
 rw[h2]at H2
 rw[h3]at H3
 obtain⟨l,hl⟩: ∃l,l=kidsF T a:=⟨_,rfl⟩
 rw[←hl]at H4 ⊢
 have hlen:l.length≤1000000:=by
  obtain⟨i,rfl⟩:=Int.eq_ofNat_of_zero_le ha.1
  rw[hl]
  have:=kids_short h.wf i (by omega)
  have:=h.len
  omega
 have HH:=Lib.hid h
 have hlt:=h.tree.lt
 clear h hl hq hb ha
 go_enter Tryz.func236,Tryz.ntmps236
 go_wp2_with (first|(go_at_call_of 199 (Value.int .i64 b);go_must (refine H2.out.mono ?_;rintro e w1 ⟨rfl,rfl⟩))|(go_at_call 199;go_must (refine H1.out.mono ?_;rintro e w1 ⟨rfl,rfl⟩))|(go_at_call 203;go_must (refine H3.out.mono ?_;rintro e w1 ⟨rfl,rfl⟩)))
 refine H4.out.mono ?_
 rintro e w2 ⟨v,rfl,ho,hb2⟩
 obtain⟨a2,c2,rfl,k1,k2,k3,hat2⟩:=own_atF (F:=Two tb g) ho (fun k hk=>by rcases hk with rfl|rfl <;>omega)
 have HT2:=Lib.hid (HH.out.world hb2)
 have HK2:=Lib.hid (Keeps.ofBelow (F:=Two tb g) hb2)
 have HAT:=Lib.hid hat2
 unfold maxLen at k2
 clear ho hb2 hat2 HH H1 H2 H3 H4
 go_wp2_with fail
 go_loopw [29] (fun i wr=> ∃k:Nat,k≤l.length∧i= .int .i64 k∧TI w0 B tb (moveF T b (l.take k)) g wr∧Keeps (Two tb g) w2 wr) (fun i _=>l.length-(intOf i).toNat)
 case atStart=>exact⟨0,Nat.zero_le _,rfl,HT2.out,Keeps.refl _ _⟩
 case round =>
  obtain⟨k,hk,rfl,hT,hK⟩:=hrel
  have HT:=Lib.hid hT
  have HK:=Lib.hid hK
  by_cases hlt2:k<l.length
  ·obtain⟨b',o',rfl,e1⟩:=(HAT.out.kept hK).at _ _ (intsV_get l k hlt2)
   have HP:=Lib.hid (Put_ti hT b 0 l[k])
   rw[←moveF_next T b l k hlt2]at HP
   clear hT hK k3
   go_wp2_with fail
   refine HP.out.mono ?_
   rintro e w3 ⟨rfl,hK3,hT3⟩
   have HT3:=Lib.hid hT3
   have HK3:=Lib.hid (HK.out.trans hK3)
   clear hT3 hK3
   go_wp2_with fail
   go_roundw
   case rel=>exact⟨k+1,by omega,by go_num,HT3.out,HK3.out⟩
   case measure=>simp[intOf];omega
  ·have he:l.take k=l:=List.take_of_length_le (by omega)
   rw[he]at HT
   clear hT hK k3
   go_wp2_with fail
   go_ret
   exact⟨rfl,HK2.out.trans HK.out,HT.out⟩
theorem Move_ti {w0 w:World} {B tb g:Nat} {T:TreeD} (h:TI w0 B tb T g w) (a b:Int) :
 Calls Tryz.prog 236 #[.pointer (some ⟨tb,0,none⟩),.int .i64 a,.int .i64 b] w fun e w'=>e= .returned (.int .i64 (moveE T a b).2)∧Keeps (Two tb g) w w'∧TI w0 B tb (moveE T a b).1 g w':=by
 cases hok:(holdsF T a&&holdsF T b&& !belowF T b a)
 ·have he:moveE T a b=(T,47):=by rw[moveE,hok];rfl
  rw[he]
  exact(move_no T tb g w a b h.wf h.tree hok).mono fun e w' ⟨h1,h2⟩=>by
   subst h2
   exact⟨h1,Keeps.refl _ _,h⟩
 ·have he:moveE T a b=(moveF T b (kidsF T a),0):=by rw[moveE,hok];rfl
  rw[he]
  exact move_yes h a b hok
end Go.Proofs.YtgepobccoffnaaaGreatDoor
end
