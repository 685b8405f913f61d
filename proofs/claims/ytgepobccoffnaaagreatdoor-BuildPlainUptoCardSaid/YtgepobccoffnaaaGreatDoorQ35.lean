/- Texts joined for a claim: RRefsLaws, RRefsJ, RRefsC, RRefsF, RRefsD, RRefsG, RRefsE: plain laws and contracts. No conditions beyond those that each lemma types. -/
import Derived.Test.YtgepobccoffnaaaGreatDoorQ34
import Derived.LoopTactic
import Derived.Deep.WholeRow
set_option linter.unusedVariables false
set_option linter.unusedSimpArgs false
set_option maxRecDepth 100000
set_option maxHeartbeats 8000000
namespace Go.Proofs.YtgepobccoffnaaaGreatDoor.Rd
section
open Mem
theorem digsF_le (b:Nat): ∀(k:Nat) (s:Str) (v:Nat),(digsF b k s v).1≤s.length∧(digsF b k s v).1≤k
 |0,_,_=>⟨Nat.zero_le _,Nat.zero_le _⟩
 |_+1,[],_=>⟨Nat.zero_le _,Nat.zero_le _⟩
 |k+1,c::r,v=>by
  unfold digsF
  cases digF b c with
  |none=>exact⟨Nat.zero_le _,Nat.zero_le _⟩
  |some d =>
   have:=digsF_le b k r (min (v*b+d) 0x110000)
   exact⟨by simp only[List.length_cons];omega,by simp only;omega⟩
theorem digsF_stays (b:Nat) (x:Str): ∀(k:Nat) (s:Str) (v:Nat),((digsF b k s v).1<s.length∨(∀c,x.head?=some c→digF b c=none))→digsF b k (s++x) v=digsF b k s v
 |0,s,v,_=>by cases s <;>rfl
 |k+1,[],v,h=>by
  rcases h with h|h
  ·simp at h
  ·cases x with
   |nil=>rfl
   |cons c r =>
    have:=h c rfl
    simp[digsF,this]
 |k+1,c::r,v,h=>by
  rw[List.cons_append]
  unfold digsF at h ⊢
  cases hd:digF b c with
  |none=>rfl
  |some d =>
   rw[hd]at h
   have:=digsF_stays b x k r (min (v*b+d) 0x110000) (h.imp (fun h=>by simp only[List.length_cons]at h;omega) id)
   simp only[this]
theorem headN_le (s:Str):headN s≤s.length∧headN s≤1:=by
 unfold headN xB
 cases s with
 |nil=>simp
 |cons c r=>simp only[List.length_cons];split <;>omega
theorem numN_le (s:Str):numN s≤s.length:=by
 have h1:=headN_le s
 have h2:=digsF_le (baseN s) 16 (s.drop (headN s)) 0
 unfold numN numG
 rw[List.length_drop]at h2
 omega
theorem head_stays {s x:Str} (h:s≠ []∨xB x=false):xB (s++x)=xB s:=by
 cases s with
 |nil=>simpa[xB] using h
 |cons c r=>rfl
theorem numG_stays {s x:Str} (h:numN s<s.length∨(xB x=false∧ ∀c,x.head?=some c→digF 10 c=none∧digF 16 c=none)):headN (s++x)=headN s∧baseN (s++x)=baseN s∧numG (s++x)=numG s:=by
 have hx:xB (s++x)=xB s:=head_stays (h.imp (fun h e=>by subst e;simp at h) fun h=>h.1)
 have h1:headN (s++x)=headN s:=by unfold headN;rw[hx]
 have h2:baseN (s++x)=baseN s:=by unfold baseN;rw[hx]
 refine⟨h1,h2,?_⟩
 have hl:=headN_le s
 unfold numG
 rw[h1,h2,List.drop_append_of_le_length hl.1]
 refine digsF_stays _ _ _ _ _ ?_
 refine h.imp (fun h=> ?_) fun h c hc=> ?_
 ·unfold numN numG at h
  rw[List.length_drop]
  omega
 ·have:=h.2 c hc
  unfold baseN
  split
  ·exact this.2
  ·exact this.1
theorem takeNum_le (r:Str):(takeNum r).2≤r.length+2:=by
 have h:=numN_le r
 unfold takeNum
 split
 ·exact Nat.zero_le _
 ·simp only
  split
  ·rename_i h'
   have:r.drop (numN r)≠ []:=by intro e;rw[e]at h';simp at h'
   have:numN r<r.length:=by
    rcases Nat.lt_or_ge (numN r) r.length with h2|h2
    ·exact h2
    ·exact absurd (List.drop_of_length_le h2) this
   omega
  ·omega
theorem drop_head {s x:Str} {n:Nat} (h:n<s.length):((s++x).drop n).head?=(s.drop n).head?:=by
 rw[List.drop_append_of_le_length (by omega)]
 cases hd:s.drop n with
 |nil=>have:=congrArg List.length hd;simp at this;omega
 |cons c r=>rfl
theorem takeNum_stays {r x:Str} (h:numN r<r.length∨(xB x=false∧(∀c,x.head?=some c→digF 10 c=none∧digF 16 c=none)∧x.head?≠some 59)):takeNum (r++x)=takeNum r:=by
 obtain⟨h1,h2,h3⟩:=numG_stays (s:=r) (x:=x) (h.imp id fun h=>⟨h.1,h.2.1⟩)
 have hn:numN (r++x)=numN r:=by unfold numN;rw[h1,h3]
 unfold takeNum
 rw[h3,hn]
 have hc:(((r++x).drop (numN r)).head?=some 59)↔((r.drop (numN r)).head?=some 59):=by
  rcases Nat.lt_or_ge (numN r) r.length with hl|hl
  ·rw[drop_head hl]
  ·rcases h with h|h
   ·omega
   ·have hle:=numN_le r
    have he:numN r=r.length:=by omega
    rw[he,List.drop_left,List.drop_length]
    simp[h.2.2]
 simp only[hc]
theorem refused_stays {r x:Str} {attr:Bool} (hf:findF (r++x)=findF r)
 (h:(findF r).2=r.length→0<r.length→(r.getLast?=some 59∨((x.head?).map wordB).getD false=false)):refused (r++x) attr=refused r attr:=by
 have hle:=findF_le r
 unfold refused
 rw[hf,List.take_append_of_le_length hle]
 rcases Nat.lt_or_ge (findF r).2 r.length with hl|hl
 ·rw[drop_head hl]
 ·have he:(findF r).2=r.length:=by omega
  rw[he,List.drop_left,List.drop_length,List.take_length]
  rcases Nat.eq_zero_or_pos r.length with h0|h0
  ·simp[h0]
  ·rcases h he h0 with h|h <;>simp[h]
theorem takeName_le (r:Str) (attr:Bool):(takeName r attr).2≤r.length+1:=by
 have:=findF_le r
 unfold takeName
 split
 ·exact Nat.zero_le _
 ·simp only;omega
theorem takeName_stays {r x:Str} {attr:Bool} (hf:findF (r++x)=findF r)
 (h:(findF r).2=r.length→0<r.length→(r.getLast?=some 59∨((x.head?).map wordB).getD false=false)):takeName (r++x) attr=takeName r attr:=by
 unfold takeName
 rw[hf,refused_stays hf h]
theorem takeF_hash (r:Str) (attr:Bool):takeF (38::35::r) attr=takeNum r:=by simp[takeF]
theorem takeF_amp {r:Str} (h:r.head?≠some 35) (attr:Bool):takeF (38::r) attr=takeName r attr:=by
 cases r with
 |nil=>simp[takeF]
 |cons c r =>
  have hc: ¬35=c:=fun e=>h (by simp[e])
  simp[takeF,hc]
theorem takeF_other {c:UInt8} {r:Str} (h:c≠38) (attr:Bool):takeF (c::r) attr=([],0):=by
 have hc: ¬38=c:=fun e=>h e.symm
 simp[takeF,hc]
theorem takeF_nil (attr:Bool):takeF [] attr=([],0):=by simp[takeF]
theorem moreF_hash (r:Str):moreF (38::35::r)=(numN r==r.length):=by simp[moreF]
theorem moreF_amp {r:Str} (h:r.head?≠some 35):moreF (38::r)=beginsF r:=by
 cases r with
 |nil=>simp[moreF]
 |cons c r =>
  have hc: ¬35=c:=fun e=>h (by simp[e])
  simp[moreF,hc]
theorem amp_cases (s:Str):(∃r,s=38::35::r)∨(∃r,s=38::r∧r.head?≠some 35)∨(∃c r,s=c::r∧c≠38)∨s= []:=by
 cases s with
 |nil=>exact .inr (.inr (.inr rfl))
 |cons c r =>
  by_cases hc:c=38
  ·subst hc
   cases r with
   |nil=>exact .inr (.inl ⟨[],rfl,by simp⟩)
   |cons d r =>
    by_cases hd:d=35
    ·subst hd;exact .inl ⟨r,rfl⟩
    ·exact .inr (.inl ⟨d::r,rfl,by simpa using hd⟩)
  ·exact .inr (.inr (.inl ⟨c,r,rfl,hc⟩))
theorem takeF_le (s:Str) (attr:Bool):(takeF s attr).2≤s.length:=by
 rcases amp_cases s with⟨r,rfl⟩|⟨r,rfl,h⟩|⟨c,r,rfl,h⟩|rfl
 ·rw[takeF_hash];have:=takeNum_le r;simp only[List.length_cons];omega
 ·rw[takeF_amp h];have:=takeName_le r attr;simp only[List.length_cons];omega
 ·rw[takeF_other h];exact Nat.zero_le _
 ·rw[takeF_nil];exact Nat.zero_le _
theorem takeF_stop (s x:Str) (attr:Bool):takeF (s++60::x) attr=takeF s attr:=by
 rcases amp_cases s with⟨r,rfl⟩|⟨r,rfl,hr⟩|⟨c,r,rfl,hc⟩|rfl
 ·rw[List.cons_append,List.cons_append,takeF_hash,takeF_hash]
  refine takeNum_stays (.inr ⟨rfl,fun c hc=> ?_,by simp⟩)
  obtain rfl:60=c:=by simpa using hc
  exact⟨by decide,by decide⟩
 ·have hr':(r++60::x).head?≠some 35:=by
   cases r with
   |nil=>simp
   |cons c r=>simpa using hr
  rw[List.cons_append,takeF_amp hr',takeF_amp hr]
  have hk: ∀k∈keys,(60:UInt8)∉k.1:=by decide +kernel
  refine takeName_stays (findF_append r _ fun k hk' hp=>prefix_stop (hk k hk') hp) fun _ _=> .inr ?_
  show(some (wordB 60)).getD false=false
  decide
 ·rw[List.cons_append,takeF_other hc,takeF_other hc]
 ·rw[List.nil_append,takeF_other (by decide),takeF_nil]
theorem allF_fuel (attr:Bool): ∀(n:Nat) (s:Str) (k:Nat),s.length≤n→s.length≤k→allF attr k s=allS s attr:=by
 intro n
 induction n with
 |zero =>
  intro s k hs hk
  have:s= []:=List.eq_nil_of_length_eq_zero (by omega)
  subst this
  cases k <;>rfl
 |succ n ih =>
  intro s k hs hk
  cases s with
  |nil=>cases k <;>rfl
  |cons c r =>
   cases k with
   |zero=>simp at hk
   |succ k =>
    simp only[List.length_cons]at hs hk
    unfold allS
    simp only[List.length_cons,allF]
    by_cases h:c=38∧(takeF (c::r) attr).2≠0
    ·rw[if_pos h,if_pos h]
     have hl:((c::r).drop (takeF (c::r) attr).2).length≤r.length:=by
      rw[List.length_drop,List.length_cons];have:=h.2;omega
     rw[ih _ k (by omega) (by omega),ih _ r.length (by omega) hl]
    ·rw[if_neg h,if_neg h,ih r k (by omega) (by omega),ih r r.length (by omega) (Nat.le_refl _)]
theorem allS_nil (attr:Bool):allS [] attr= []:=rfl
theorem allS_cons (c:UInt8) (r:Str) (attr:Bool):allS (c::r) attr=if c=38∧(takeF (c::r) attr).2≠0 then(takeF (c::r) attr).1++allS ((c::r).drop (takeF (c::r) attr).2) attr else c::allS r attr:=by
 rw[allS,List.length_cons,allF]
 by_cases h:c=38∧(takeF (c::r) attr).2≠0
 ·rw[if_pos h,if_pos h]
  have hl:((c::r).drop (takeF (c::r) attr).2).length≤r.length:=by
   rw[List.length_drop,List.length_cons];have:=h.2;omega
  rw[allF_fuel attr _ _ _ (Nat.le_refl _) hl]
 ·rw[if_neg h,if_neg h,allF_fuel attr _ _ _ (Nat.le_refl _) (Nat.le_refl _)]
theorem allS_other {c:UInt8} {r:Str} {attr:Bool} (h:c≠38):allS (c::r) attr=c::allS r attr:=by
 rw[allS_cons,if_neg fun h'=>h h'.1]
theorem allS_name {k:Str×Str} (hk:k∈keys) (hs:k.1.getLast?=some 59) (x:Str) (attr:Bool):allS (38::(k.1++x)) attr=k.2++allS x attr:=by
 have h35: ∀k∈keys,k.1.head?≠some 35∧k.1≠ []:=by decide +kernel
 obtain⟨g1,g2⟩:=h35 k hk
 have hf:=findF_semi hk hs x
 have hr:refused (k.1++x) attr=false:=by
  unfold refused
  rw[hf]
  have h1:=(keys_hit k hk).2.2.1
  have h2:(k.1.length==0)=false:=by simp;exact g2
  simp only[List.take_left,hs,h2]
  simp
 have hh:(k.1++x).head?≠some 35:=by
  cases hk1:k.1 with
  |nil=>exact absurd hk1 g2
  |cons c r=>rw[hk1]at g1;simpa using g1
 have ht:takeF (38::(k.1++x)) attr=(k.2,k.1.length+1):=by rw[takeF_amp hh,takeName,hr,hf];rfl
 rw[allS_cons,ht]
 simp
theorem allS_escG (attr other:Bool): ∀(s:Str) (skip:Bool),allS (escG attr skip s) other=if skip then s.drop 1 else s
 | [],skip=>by cases skip <;>rfl
 |c::r,true=>by
  rw[escG,allS_escG attr other r false]
  rfl
 |c::r,false=>by
  rw[escG]
  by_cases h:c=194∧r.head?=some 160
  ·rw[if_pos h]
   have:=allS_name (k:=([110,98,115,112,59],[194,160])) (by decide +kernel) (by decide) (escG attr true r) other
   rw[show([38,110,98,115,112,59]:Str)++escG attr true r=38::(([110,98,115,112,59],([194,160]:Str)).1++escG attr true r)from rfl,this,allS_escG attr other r true]
   obtain⟨rfl,hr⟩:=h
   cases r with
   |nil=>simp at hr
   |cons d r =>
    obtain rfl:d=160:=by simpa using hr
    rfl
  ·rw[if_neg h]
   unfold escOne
   split
   ·rename_i hc
    have:=allS_name (k:=([97,109,112,59],[38])) (by decide +kernel) (by decide) (escG attr false r) other
    rw[show([38,97,109,112,59]:Str)++escG attr false r=38::(([97,109,112,59],([38]:Str)).1++escG attr false r)from rfl,this,allS_escG attr other r false,hc]
    rfl
   ·split
    ·rename_i hc
     have:=allS_name (k:=([108,116,59],[60])) (by decide +kernel) (by decide) (escG attr false r) other
     rw[show([38,108,116,59]:Str)++escG attr false r=38::(([108,116,59],([60]:Str)).1++escG attr false r)from rfl,this,allS_escG attr other r false,hc]
     rfl
    ·split
     ·rename_i hc
      have:=allS_name (k:=([103,116,59],[62])) (by decide +kernel) (by decide) (escG attr false r) other
      rw[show([38,103,116,59]:Str)++escG attr false r=38::(([103,116,59],([62]:Str)).1++escG attr false r)from rfl,this,allS_escG attr other r false,hc]
      rfl
     ·split
      ·rename_i hc
       have:=allS_name (k:=([113,117,111,116,59],[34])) (by decide +kernel) (by decide) (escG attr false r) other
       rw[show([38,113,117,111,116,59]:Str)++escG attr false r=38::(([113,117,111,116,59],([34]:Str)).1++escG attr false r)from rfl,this,allS_escG attr other r false,hc.1]
       rfl
      ·rename_i hc _ _ _
       rw[List.singleton_append,allS_other hc,allS_escG attr other r false]
       rfl
theorem allS_escS (s:Str) (attr other:Bool):allS (escS attr s) other=s:=by
 rw[escS,allS_escG];rfl
theorem escG_signs (attr:Bool): ∀(s:Str) (skip:Bool),∀c∈escG attr skip s,c≠60∧c≠62∧(attr=true→c≠34)
 | [],skip,c,h=>by cases skip <;>cases h
 |d::r,true,c,h=>escG_signs attr r false c (by rwa [escG]at h)
 |d::r,false,c,h=>by
  rw[escG]at h
  by_cases hd:d=194∧r.head?=some 160
  ·rw[if_pos hd]at h
   rcases List.mem_append.1 h with h|h
   ·have: ∀c∈([38,110,98,115,112,59]:Str),c≠60∧c≠62∧(attr=true→c≠34):=by cases attr <;>decide
    exact this c h
   ·exact escG_signs attr r true c h
  ·rw[if_neg hd]at h
   rcases List.mem_append.1 h with h|h
   ·unfold escOne at h
    split at h
    ·have: ∀c∈([38,97,109,112,59]:Str),c≠60∧c≠62∧(attr=true→c≠34):=by cases attr <;>decide
     exact this c h
    ·split at h
     ·have: ∀c∈([38,108,116,59]:Str),c≠60∧c≠62∧(attr=true→c≠34):=by cases attr <;>decide
      exact this c h
     ·split at h
      ·have: ∀c∈([38,103,116,59]:Str),c≠60∧c≠62∧(attr=true→c≠34):=by cases attr <;>decide
       exact this c h
      ·split at h
       ·have: ∀c∈([38,113,117,111,116,59]:Str),c≠60∧c≠62∧(attr=true→c≠34):=by cases attr <;>decide
        exact this c h
       ·rename_i _ h60 h62 h34
        obtain rfl:c=d:=by simpa using h
        exact⟨h60,h62,fun ha e=>h34 ⟨e,ha⟩⟩
   ·exact escG_signs attr r false c h
theorem escOne_len (attr:Bool) (c:UInt8):(escOne attr c).length≤6:=by
 unfold escOne
 split
 ·decide
 ·split
  ·decide
  ·split
   ·decide
   ·split
    ·decide
    ·simp
theorem escG_len (attr:Bool): ∀(s:Str) (skip:Bool),(escG attr skip s).length≤6*s.length
 | [],skip=>by cases skip <;>simp[escG]
 |d::r,true=>by
  have:=escG_len attr r false
  rw[escG];simp only[List.length_cons];omega
 |d::r,false=>by
  have h1:=escG_len attr r false
  have h2:=escG_len attr r true
  have h3:=escOne_len attr d
  rw[escG]
  split <;>simp only[List.length_append,List.length_cons,List.length_nil] <;>omega
end
section
open Go.RowKit Mem
theorem int_eq {k:IntKind} {a b:Int} (h:a=b):Value.int k a= .int k b:=by rw[h]
theorem digsF_go {b f v:Nat} {c:UInt8} {r:Str} (h:digV c.toNat<b):digsF b (f+1) (c::r) v=((digsF b f r (min (v*b+digV c.toNat) 0x110000)).1+1,(digsF b f r (min (v*b+digV c.toNat) 0x110000)).2):=by
 have:digF b c=some (digV c.toNat):=by rw[digF,if_pos h]
 rw[digsF,this]
theorem digsF_break {b f v:Nat} {c:UInt8} {r:Str} (h: ¬digV c.toNat<b):digsF b (f+1) (c::r) v=(0,v):=by
 have:digF b c=none:=by rw[digF,if_neg h]
 rw[digsF,this]
theorem digsF_fuel {b v:Nat} {r:Str}:digsF b 0 r v=(0,v):=by rw[digsF]
theorem digsF_nil {b f v:Nat}:digsF b f [] v=(0,v):=by cases f <;>rfl
theorem drop_byte (s:ByteArray) (p:Nat) (h:p<s.size):s.toList.drop p=s[p]::s.toList.drop (p+1):=by
 have h':p<s.toList.length:=by rw[size_toList];exact h
 rw[List.drop_eq_getElem_cons h']
 congr 1
 simp only[ByteArray.toList_eq]
 rfl
theorem xB_byte (s:ByteArray) (h:0<s.size):xB s.toList=(s[0]==120||s[0]==88):=by
 have:=drop_byte s 0 h
 rw[List.drop_zero]at this
 rw[this];rfl
theorem xB_empty {s:ByteArray} (h: ¬0<s.size):xB s.toList=false:=by
 have:s.toList= []:=List.eq_nil_of_length_eq_zero (by rw[size_toList];omega)
 rw[this];rfl
theorem head_x {s:Str} (h:xB s=true):headN s=1∧numG s=digsF 16 16 (s.drop 1) 0:=by unfold numG headN baseN;simp[h]
theorem head_n {s:Str} (h:xB s=false):headN s=0∧numG s=digsF 10 16 (s.drop 0) 0:=by unfold numG headN baseN;simp[h]
theorem ret_num {s:Str} {p f v:Nat} {b:Bool} (hh:headN s=f) (hg:numG s=((p-f)+0,v)) (hp:f≤p) (hb:b=decide ((f:Int)<(p:Int))) :
 Ending.returned (.tuple #[.int .i64 p,.int .i64 v,.bool b])= .returned (.tuple #[.int .i64 (numN s),.int .i64 (numG s).2,.bool (decide (0<(numG s).1))]):=by
 have h1:numN s=p:=by unfold numN;rw[hh,hg];show f+(p-f+0)=p;omega
 have h2:decide ((f:Int)<(p:Int))=decide (0<p-f+0):=decide_eq_decide.2 (by omega)
 rw[h1,hg,hb,h2]
theorem byte_ne {b c:UInt8} (h:b≠c):((b.toNat:Int)==(c.toNat:Int))=false:=by
 rw[beq_eq_false_iff_ne]
 intro e
 exact h (UInt8.toNat_inj.1 (by omega))
theorem number_any (s:ByteArray) (w:World) (hs:s.size≤9223372036854775807):Calls Tryz.prog 135 #[.string s] w fun e w'=>e= .returned (.tuple #[.int .i64 (numN s.toList),.int .i64 (numG s.toList).2,.bool (decide (0<(numG s.toList).1))])∧w=w':=by
 by_cases h0:0<s.size
 ·have hne:=ne_empty (s:=s) (by intro h;have:=size_toList s;rw[h]at this;simp at this;omega)
  have hxB:=xB_byte s h0
  by_cases hx:s[0]=120
  ·obtain⟨hh,hg⟩:=head_x (s:=s.toList) (by rw[hxB,hx];rfl)
   have HH:=Lib.hid hh
   have HG:=Lib.hid hg
   clear hh hg hxB
   go_enter Tryz.func135,Tryz.ntmps135
   go_wp2_with fail
   go_loop [5,8] (fun i n=> ∃p v:Nat,1≤p∧p≤17∧p≤s.size∧v≤1114112∧i= .int .i64 p∧n= .int .i64 v∧numG s.toList=((p-1)+(digsF 16 (17-p) (s.toList.drop p) v).1,(digsF 16 (17-p) (s.toList.drop p) v).2)) (fun i _=>s.size-(intOf i).toNat)
   case atStart=>exact⟨1,0,by omega,by omega,by omega,by omega,rfl,rfl,by rw[HG.out,Nat.sub_self,Nat.zero_add]⟩
   case round =>
    obtain⟨p,v,hp0,hp1,hp2,hv,rfl,rfl,hg⟩:=hrel
    have HR:=Lib.hid hg
    clear hg
    by_cases hlt:p<s.size
    ·by_cases hlf:p<17
     ·have hu:=s[p].toNat_lt
      have hdr:=drop_byte s p hlt
      have hfu:17-p=(16-p)+1:=by omega
      rw[hfu,hdr]at HR
      have hval:Calls Tryz.prog 185 #[.int .u8 (s[p].toNat:Nat),.int .i64 16] w _:=value_any s[p].toNat 16 (by omega) w
      by_cases hd:digV s[p].toNat<16
      ·have hg:=digsF_go (f:=16-p) (r:=s.toList.drop (p+1)) (v:=v) hd
       rw[hg]at HR
       obtain⟨d,hdd⟩: ∃d,d=digV s[p].toNat:=⟨_,rfl⟩
       rw[←hdd]at HR hval hd
       rw[decide_eq_true hd]at hval
       have HV:=Lib.hid hval
       clear hval hg hdr hfu hdd
       go_wp2_with (go_at_call 185;go_must (refine HV.out.mono ?_;rintro e w1 ⟨rfl,rfl⟩))
       go_round
       case rel=>exact⟨p+1,min (v*16+d) 1114112,by omega,by omega,by omega,by omega,by go_num,int_eq (by omega),by rw[HR.out,show 17-(p+1)=16-p from by omega,show p+1-1=p-1+1 from by omega];exact Prod.ext (by show _+(_+1)=_+1+_;omega) rfl⟩
       case measure=>simp[intOf];omega
      ·have hg:=digsF_break (f:=16-p) (r:=s.toList.drop (p+1)) (v:=v) hd
       rw[hg]at HR
       rw[decide_eq_false hd]at hval
       have HV:=Lib.hid hval
       clear hval hg hdr hfu hd
       go_wp2_with (go_at_call 185;go_must (refine HV.out.mono ?_;rintro e w1 ⟨rfl,rfl⟩))
       go_ret3
       exact⟨ret_num HH.out HR.out hp0 (decide_eq_decide.2 (by omega)),rfl⟩
     ·have hfu:17-p=0:=by omega
      rw[hfu,digsF_fuel]at HR
      clear hfu
      go_wp2_with fail
      go_ret3
      exact⟨ret_num HH.out HR.out hp0 (decide_eq_decide.2 (by omega)),rfl⟩
    ·have hdr:s.toList.drop p= []:=List.drop_of_length_le (by rw[size_toList];omega)
     rw[hdr,digsF_nil]at HR
     clear hdr
     go_wp2_with fail
     go_ret3
     exact⟨ret_num HH.out HR.out hp0 (decide_eq_decide.2 (by omega)),rfl⟩
  ·by_cases hX:s[0]=88
   ·obtain⟨hh,hg⟩:=head_x (s:=s.toList) (by rw[hxB,hX];rfl)
    have HH:=Lib.hid hh
    have HG:=Lib.hid hg
    clear hh hg hxB hx
    go_enter Tryz.func135,Tryz.ntmps135
    go_wp2_with fail
    go_loop [5,8] (fun i n=> ∃p v:Nat,1≤p∧p≤17∧p≤s.size∧v≤1114112∧i= .int .i64 p∧n= .int .i64 v∧numG s.toList=((p-1)+(digsF 16 (17-p) (s.toList.drop p) v).1,(digsF 16 (17-p) (s.toList.drop p) v).2)) (fun i _=>s.size-(intOf i).toNat)
    case atStart=>exact⟨1,0,by omega,by omega,by omega,by omega,rfl,rfl,by rw[HG.out,Nat.sub_self,Nat.zero_add]⟩
    case round =>
     obtain⟨p,v,hp0,hp1,hp2,hv,rfl,rfl,hg⟩:=hrel
     have HR:=Lib.hid hg
     clear hg
     by_cases hlt:p<s.size
     ·by_cases hlf:p<17
      ·have hu:=s[p].toNat_lt
       have hdr:=drop_byte s p hlt
       have hfu:17-p=(16-p)+1:=by omega
       rw[hfu,hdr]at HR
       have hval:Calls Tryz.prog 185 #[.int .u8 (s[p].toNat:Nat),.int .i64 16] w _:=value_any s[p].toNat 16 (by omega) w
       by_cases hd:digV s[p].toNat<16
       ·have hg:=digsF_go (f:=16-p) (r:=s.toList.drop (p+1)) (v:=v) hd
        rw[hg]at HR
        obtain⟨d,hdd⟩: ∃d,d=digV s[p].toNat:=⟨_,rfl⟩
        rw[←hdd]at HR hval hd
        rw[decide_eq_true hd]at hval
        have HV:=Lib.hid hval
        clear hval hg hdr hfu hdd
        go_wp2_with (go_at_call 185;go_must (refine HV.out.mono ?_;rintro e w1 ⟨rfl,rfl⟩))
        go_round
        case rel=>exact⟨p+1,min (v*16+d) 1114112,by omega,by omega,by omega,by omega,by go_num,int_eq (by omega),by rw[HR.out,show 17-(p+1)=16-p from by omega,show p+1-1=p-1+1 from by omega];exact Prod.ext (by show _+(_+1)=_+1+_;omega) rfl⟩
        case measure=>simp[intOf];omega
       ·have hg:=digsF_break (f:=16-p) (r:=s.toList.drop (p+1)) (v:=v) hd
        rw[hg]at HR
        rw[decide_eq_false hd]at hval
        have HV:=Lib.hid hval
        clear hval hg hdr hfu hd
        go_wp2_with (go_at_call 185;go_must (refine HV.out.mono ?_;rintro e w1 ⟨rfl,rfl⟩))
        go_ret3
        exact⟨ret_num HH.out HR.out hp0 (decide_eq_decide.2 (by omega)),rfl⟩
      ·have hfu:17-p=0:=by omega
       rw[hfu,digsF_fuel]at HR
       clear hfu
       go_wp2_with fail
       go_ret3
       exact⟨ret_num HH.out HR.out hp0 (decide_eq_decide.2 (by omega)),rfl⟩
     ·have hdr:s.toList.drop p= []:=List.drop_of_length_le (by rw[size_toList];omega)
      rw[hdr,digsF_nil]at HR
      clear hdr
      go_wp2_with fail
      go_ret3
      exact⟨ret_num HH.out HR.out hp0 (decide_eq_decide.2 (by omega)),rfl⟩
   ·obtain⟨hh,hg⟩:=head_n (s:=s.toList) (by rw[hxB];simp[hx,hX])
    have HH:=Lib.hid hh
    have HG:=Lib.hid hg
    have hx':((s[0].toNat:Int)==120)=false:=byte_ne hx
    have hX':((s[0].toNat:Int)==88)=false:=byte_ne hX
    clear hh hg hxB hx hX
    go_enter Tryz.func135,Tryz.ntmps135
    go_wp2_with fail
    go_loop [5,8] (fun i n=> ∃p v:Nat,0≤p∧p≤16∧p≤s.size∧v≤1114112∧i= .int .i64 p∧n= .int .i64 v∧numG s.toList=((p-0)+(digsF 10 (16-p) (s.toList.drop p) v).1,(digsF 10 (16-p) (s.toList.drop p) v).2)) (fun i _=>s.size-(intOf i).toNat)
    case atStart=>exact⟨0,0,by omega,by omega,by omega,by omega,rfl,rfl,by rw[HG.out,Nat.sub_self,Nat.zero_add]⟩
    case round =>
     obtain⟨p,v,hp0,hp1,hp2,hv,rfl,rfl,hg⟩:=hrel
     have HR:=Lib.hid hg
     clear hg
     by_cases hlt:p<s.size
     ·by_cases hlf:p<16
      ·have hu:=s[p].toNat_lt
       have hdr:=drop_byte s p hlt
       have hfu:16-p=(15-p)+1:=by omega
       rw[hfu,hdr]at HR
       have hval:Calls Tryz.prog 185 #[.int .u8 (s[p].toNat:Nat),.int .i64 10] w _:=value_any s[p].toNat 10 (by omega) w
       by_cases hd:digV s[p].toNat<10
       ·have hg:=digsF_go (f:=15-p) (r:=s.toList.drop (p+1)) (v:=v) hd
        rw[hg]at HR
        obtain⟨d,hdd⟩: ∃d,d=digV s[p].toNat:=⟨_,rfl⟩
        rw[←hdd]at HR hval hd
        rw[decide_eq_true hd]at hval
        have HV:=Lib.hid hval
        clear hval hg hdr hfu hdd
        go_wp2_with (go_at_call 185;go_must (refine HV.out.mono ?_;rintro e w1 ⟨rfl,rfl⟩))
        go_round
        case rel=>exact⟨p+1,min (v*10+d) 1114112,by omega,by omega,by omega,by omega,by go_num,int_eq (by omega),by rw[HR.out,show 16-(p+1)=15-p from by omega,show p+1-0=p-0+1 from by omega];exact Prod.ext (by show _+(_+1)=_+1+_;omega) rfl⟩
        case measure=>simp[intOf];omega
       ·have hg:=digsF_break (f:=15-p) (r:=s.toList.drop (p+1)) (v:=v) hd
        rw[hg]at HR
        rw[decide_eq_false hd]at hval
        have HV:=Lib.hid hval
        clear hval hg hdr hfu hd
        go_wp2_with (go_at_call 185;go_must (refine HV.out.mono ?_;rintro e w1 ⟨rfl,rfl⟩))
        go_ret3
        exact⟨ret_num HH.out HR.out hp0 (decide_eq_decide.2 (by omega)),rfl⟩
      ·have hfu:16-p=0:=by omega
       rw[hfu,digsF_fuel]at HR
       clear hfu
       go_wp2_with fail
       go_ret3
       exact⟨ret_num HH.out HR.out hp0 (decide_eq_decide.2 (by omega)),rfl⟩
     ·have hdr:s.toList.drop p= []:=List.drop_of_length_le (by rw[size_toList];omega)
      rw[hdr,digsF_nil]at HR
      clear hdr
      go_wp2_with fail
      go_ret3
      exact⟨ret_num HH.out HR.out hp0 (decide_eq_decide.2 (by omega)),rfl⟩
 ·obtain⟨hh,hg⟩:=head_n (xB_empty h0)
  have HH:=Lib.hid hh
  have HG:=Lib.hid hg
  have hem:s.toList.isEmpty=true:=is_empty (List.eq_nil_of_length_eq_zero (by rw[size_toList];omega))
  clear hh hg
  go_enter Tryz.func135,Tryz.ntmps135
  go_wp2_with fail
  go_loop [5,8] (fun i n=> ∃p v:Nat,0≤p∧p≤16∧p≤s.size∧v≤1114112∧i= .int .i64 p∧n= .int .i64 v∧numG s.toList=((p-0)+(digsF 10 (16-p) (s.toList.drop p) v).1,(digsF 10 (16-p) (s.toList.drop p) v).2)) (fun i _=>s.size-(intOf i).toNat)
  case atStart=>exact⟨0,0,by omega,by omega,by omega,by omega,rfl,rfl,by rw[HG.out,Nat.sub_self,Nat.zero_add]⟩
  case round =>
   obtain⟨p,v,hp0,hp1,hp2,hv,rfl,rfl,hg⟩:=hrel
   have HR:=Lib.hid hg
   clear hg
   have hlt: ¬p<s.size:=by omega
   have hdr:s.toList.drop p= []:=List.drop_of_length_le (by rw[size_toList];omega)
   rw[hdr,digsF_nil]at HR
   clear hdr
   go_wp2_with fail
   go_ret3
   exact⟨ret_num HH.out HR.out hp0 (decide_eq_decide.2 (by omega)),rfl⟩
end
section
open Go.RowKit Mem
theorem enc1 {c:Nat} (h:c<128):encF c= [UInt8.ofNat c]:=by rw[encF,if_pos (show c<0x80 from h)]
theorem enc2 {c:Nat} (h1: ¬c<128) (h:c<2048):encF c= [UInt8.ofNat (0xc0+c/64),UInt8.ofNat (0x80+c%64)]:=by rw[encF,if_neg (show ¬c<0x80 from h1),if_pos (show c<0x800 from h)]
theorem enc3 {c:Nat} (h1: ¬c<2048) (h:c<65536):encF c= [UInt8.ofNat (0xe0+c/4096),UInt8.ofNat (0x80+c/64%64),UInt8.ofNat (0x80+c%64)]:=by rw[encF,if_neg (show ¬c<0x80 from by omega),if_neg (show ¬c<0x800 from h1),if_pos (show c<0x10000 from h)]
theorem enc4 {c:Nat} (h1: ¬c<65536):encF c= [UInt8.ofNat (0xf0+c/262144),UInt8.ofNat (0x80+c/4096%64),UInt8.ofNat (0x80+c/64%64),UInt8.ofNat (0x80+c%64)]:=by rw[encF,if_neg (show ¬c<0x80 from by omega),if_neg (show ¬c<0x800 from by omega),if_neg (show ¬c<0x10000 from h1)]
end
section
open Go.RowKit Mem
theorem encF_len4 (c:Nat):(encF c).length≤4:=by
 unfold encF
 split
 ·simp
 ·split
  ·simp
  ·split <;>simp
theorem bytesV_app' (l r:Str):bytesV (l++r)=bytesV l++bytesV r:=by simp[bytesV]
def encR (r:Int):Str:=if charB r then encF r.toNat else encF 0xfffd
def runesV (l:List Int):List Value:=l.map (Value.int .i32)
theorem runesV_get (l:List Int) (k:Nat) (h:k<l.length):(runesV l)[k]?=some (.int .i32 l[k]):=by simp[runesV,h]
theorem charB_iff (n:Int):charB n=true↔(0≤n∧n≤1114111∧ ¬(55296≤n∧n≤57343)):=by
 unfold charB
 simp only[Bool.and_eq_true,Bool.not_eq_true',Bool.and_eq_false_iff,decide_eq_true_eq,decide_eq_false_iff_not]
 omega
theorem u8z {n:Nat} {z:Int} (_:n<256) (hz:z=n):z.toNat.toUInt8=UInt8.ofNat n:=by subst hz;simp[Nat.toUInt8]
theorem encodeRune_char {r:Int} (h:charB r=true):Lib.encodeRune r=encF r.toNat:=by
 obtain⟨h0,h1,h2⟩:=(charB_iff r).1 h
 obtain⟨n,rfl⟩:=Int.eq_ofNat_of_zero_le h0
 rw[Int.toNat_natCast]
 unfold Lib.encodeRune
 by_cases a:n<128
 ·rw[Lib.encodeRuneZ_one (by omega) (by omega),enc1 a]
  simp only[List.map_cons,List.map_nil]
  rw[u8z (n:=n) (by omega) rfl]
 ·by_cases b:n<2048
  ·rw[Lib.encodeRuneZ_two (by omega) (by omega),enc2 a b]
   simp only[List.map_cons,List.map_nil]
   rw[u8z (n:=0xc0+n/64) (by omega) (by omega),u8z (n:=0x80+n%64) (by omega) (by omega)]
  ·by_cases c:n<65536
   ·rw[Lib.encodeRuneZ_three (by omega),enc3 b c]
    simp only[List.map_cons,List.map_nil]
    rw[u8z (n:=0xe0+n/4096) (by omega) (by omega),u8z (n:=0x80+n/64%64) (by omega) (by omega),u8z (n:=0x80+n%64) (by omega) (by omega)]
   ·rw[Lib.encodeRuneZ_four (by omega) (by omega),enc4 c]
    simp only[List.map_cons,List.map_nil]
    rw[u8z (n:=0xf0+n/262144) (by omega) (by omega),u8z (n:=0x80+n/4096%64) (by omega) (by omega),u8z (n:=0x80+n/64%64) (by omega) (by omega),u8z (n:=0x80+n%64) (by omega) (by omega)]
theorem runeCells_char {r:Int} (h:charB r=true):Lib.runeCells r=bytesV (encR r):=by
 rw[encR,if_pos h,←encodeRune_char h]
 exact(Lib.byteCells_encodeRune r).symm
theorem runeCells_bad {r:Int} (h:charB r=false):Lib.runeCells 65533=bytesV (encR r):=by
 rw[encR,h]
 rfl
theorem Encode_any (l:List Int) (a:Option Addr) (c:Nat) (w:World) (hl:l.length≤1099511627776) (hr: ∀r∈l, -2147483648≤r∧r≤2147483647) (ha:At w a (runesV l)) :
 Calls Tryz.prog 187 #[.slice a l.length c] w fun e w'=>e= .returned (.string (strB (l.flatMap encR)))∧Below w.heap.size w w':=by
 have HA:=Lib.hid ha
 have HR:=Lib.hid hr
 clear ha hr
 go_enter Tryz.func187,Tryz.ntmps187
 go_wp2_with fail
 go_loopw [8] (fun i wr=> ∃k:Nat,k≤l.length∧i= .int .i64 k∧Lib.IsBuilderF 84 5 w.heap.size w.heap.size (bytesV ((l.take k).flatMap encR)) wr∧Below w.heap.size w wr∧((l.take k).flatMap encR).length≤4*k) (fun i _=>l.length-(intOf i).toNat)
 case atStart=>exact⟨0,Nat.zero_le _,rfl,Lib.IsBuilderF.of (Lib.fresh_isBuilder 84 5 w),(Below.refl _ _).alloc (Nat.le_refl _) _,by simp⟩
 case round =>
  obtain⟨k,hk,rfl,hI,hb,hlen⟩:=hrel
  have HI:=Lib.hid hI
  have HB:=Lib.hid hb
  have HL:=Lib.hid hlen
  have hsz:=hb.size
  clear hI
  by_cases hlt:k<l.length
  ·obtain⟨b,o,rfl,e1⟩:=(HA.out.below hb) _ _ (runesV_get l k hlt)
   obtain⟨hr0,hr1⟩:=HR.out l[k] (List.getElem_mem hlt)
   have htk:(l.take (k+1)).flatMap encR=(l.take k).flatMap encR++encR l[k]:=by
    rw[List.take_succ_eq_append_getElem hlt,List.flatMap_append];simp
   have HTK:=Lib.hid htk
   obtain⟨r,hrr⟩: ∃r,r=l[k]:=⟨_,rfl⟩
   have HRR:=Lib.hid hrr
   rw[←hrr]at e1 hr0 hr1
   have h4:(encR r).length≤4:=by unfold encR;split <;>exact(encF_len4 _)
   have hbl:(bytesV ((l.take k).flatMap encR)).length+4≤140737488355328:=by rw[bytesV_length];omega
   have HBL:=Lib.hid hbl
   clear hb htk hrr hlen hbl
   cases hc:charB r
   ·have hbad:r<0∨(1114111<r∧0≤r)∨(0≤r∧r≤1114111∧55296≤r∧r≤57343):=by
     have: ¬(0≤r∧r≤1114111∧ ¬(55296≤r∧r≤57343)):=fun h=>by rw[(charB_iff r).2 h]at hc;cases hc
     omega
    have HC:=Lib.hid (runeCells_bad hc)
    clear hc
    rcases hbad with h|⟨h,h'⟩|⟨h,h',h'',h3⟩
    all_goals
     go_wp2_with (go_at_call 216;go_must (refine(WriteRune_any w.heap.size w.heap.size _ 65533 _ (by omega) (by omega) HI.out HBL.out hsz).mono ?_;rintro e W1 ⟨rfl,g1,b1,k1⟩;have HG1:=Lib.hid g1;have HB1:=Lib.hid b1;clear g1 b1 k1))
     go_roundw
     case rel=>exact⟨k+1,by omega,by go_num,by rw[HTK.out,bytesV_app',←HRR.out,←HC.out];exact .inr HG1.out,HB.out.trans HB1.out,by rw[HTK.out,List.length_append,←HRR.out];have:=HL.out;omega⟩
     case measure=>simp[intOf];omega
   ·obtain⟨h,h',h''⟩:=(charB_iff r).1 hc
    have HC:=Lib.hid (runeCells_char hc)
    clear hc
    have h3:r<55296∨(55296≤r∧57343<r):=by omega
    clear h''
    rcases h3 with h3|⟨h3,h4'⟩
    all_goals
     go_wp2_with (go_at_call 216;go_must (refine(WriteRune_any w.heap.size w.heap.size _ r _ hr0 hr1 HI.out HBL.out hsz).mono ?_;rintro e W1 ⟨rfl,g1,b1,k1⟩;have HG1:=Lib.hid g1;have HB1:=Lib.hid b1;clear g1 b1 k1))
     go_roundw
     case rel=>exact⟨k+1,by omega,by go_num,by rw[HTK.out,bytesV_app',←HRR.out,←HC.out];exact .inr HG1.out,HB.out.trans HB1.out,by rw[HTK.out,List.length_append,←HRR.out];have:=HL.out;omega⟩
     case measure=>simp[intOf];omega
  ·clear hb hlen
   go_wp2_with (go_at_call 40;go_must (refine(BString_any w.heap.size w.heap.size _ _ HI.out hsz).mono ?_;rintro e W1 ⟨rfl,g1,b1,k1⟩;have HB1:=Lib.hid b1;clear g1 b1 k1))
   go_ret
   obtain rfl:k=l.length:=by omega
   exact⟨by rw[List.take_length];rfl,HB.out.trans HB1.out⟩
end
section
open Go.RowKit Mem
theorem wpList_val {P:Program} {ops:Array Oper} {rest:List Oper} {o:Oper} {a:Act} {w:World} {Q:Exit→Act→World→Prop} {v:Value} (hgd:o.guard=none) (h:(execOp a.eval o).run P w= .ok (.value v) w)
 (hk:wpList P ops Q rest (a.put o.dst v) w):wpList P ops Q (o::rest) a w :=
 wpList_plain hgd fun K hK=>by unfold Oper.wp;rw[h];exact hK _ _ hk
theorem wpList_new {P:Program} {ops:Array Oper} {rest:List Oper} {o:Oper} {a:Act} {w:World} {Q:Exit→Act→World→Prop} {v:Value} {c:Obj} (hgd:o.guard=none) (h:(execOp a.eval o).run P w= .ok (.value v) (w.alloc c))
 (hk:wpList P ops Q rest (a.put o.dst v) (w.alloc c)):wpList P ops Q (o::rest) a w :=
 wpList_plain hgd fun K hK=>by unfold Oper.wp;rw[h];exact hK _ _ hk
end
section
open Go.RowKit Mem
def odd32:Array Value:= #[.int .i32 8364,.int .i32 129,.int .i32 8218,.int .i32 402,.int .i32 8222,.int .i32 8230,.int .i32 8224,.int .i32 8225,.int .i32 710,.int .i32 8240,.int .i32 352,.int .i32 8249,.int .i32 338,.int .i32 141,.int .i32 381,.int .i32 143,.int .i32 144,.int .i32 8216,.int .i32 8217,.int .i32 8220,.int .i32 8221,.int .i32 8226,.int .i32 8211,.int .i32 8212,.int .i32 732,.int .i32 8482,.int .i32 353,.int .i32 8250,.int .i32 339,.int .i32 157,.int .i32 382,.int .i32 376]
theorem wpList_val_at {P:Program} {ops:Array Oper} {rest:List Oper} {o:Oper} {a:Act} {w:World} {Q:Exit→Act→World→Prop} (d:Nat) (v:Value) (hd:o.dst=some d) (hgd:o.guard=none) (h:(execOp a.eval o).run P w= .ok (.value v) w)
 (hk:wpList P ops Q rest (a.put (some d) v) w):wpList P ops Q (o::rest) a w:=wpList_val (v:=v) hgd h (by rw[hd];exact hk)
theorem wpList_new_at {P:Program} {ops:Array Oper} {rest:List Oper} {o:Oper} {a:Act} {w:World} {Q:Exit→Act→World→Prop} (d:Nat) (v:Value) (c:Obj) (hd:o.dst=some d) (hgd:o.guard=none) (h:(execOp a.eval o).run P w= .ok (.value v) (w.alloc c))
 (hk:wpList P ops Q rest (a.put (some d) v) (w.alloc c)):wpList P ops Q (o::rest) a w:=wpList_new (v:=v) (c:=c) hgd h (by rw[hd];exact hk)
def char9 (n:Nat):Nat:=if 128≤n∧n<160 then oddT.getD (n-128) 0 else n
theorem odd_index: ∀j:Nat,j<32→ ∀w,(Instr.index 205 (.agg odd32) (.int .u8 (j:Nat))).run Tryz.prog w= .ok (.int .i32 (oddT.getD j 0:Nat)) w
 |0,_=>fun _=>by kernel_rfl
 |1,_=>fun _=>by kernel_rfl
 |2,_=>fun _=>by kernel_rfl
 |3,_=>fun _=>by kernel_rfl
 |4,_=>fun _=>by kernel_rfl
 |5,_=>fun _=>by kernel_rfl
 |6,_=>fun _=>by kernel_rfl
 |7,_=>fun _=>by kernel_rfl
 |8,_=>fun _=>by kernel_rfl
 |9,_=>fun _=>by kernel_rfl
 |10,_=>fun _=>by kernel_rfl
 |11,_=>fun _=>by kernel_rfl
 |12,_=>fun _=>by kernel_rfl
 |13,_=>fun _=>by kernel_rfl
 |14,_=>fun _=>by kernel_rfl
 |15,_=>fun _=>by kernel_rfl
 |16,_=>fun _=>by kernel_rfl
 |17,_=>fun _=>by kernel_rfl
 |18,_=>fun _=>by kernel_rfl
 |19,_=>fun _=>by kernel_rfl
 |20,_=>fun _=>by kernel_rfl
 |21,_=>fun _=>by kernel_rfl
 |22,_=>fun _=>by kernel_rfl
 |23,_=>fun _=>by kernel_rfl
 |24,_=>fun _=>by kernel_rfl
 |25,_=>fun _=>by kernel_rfl
 |26,_=>fun _=>by kernel_rfl
 |27,_=>fun _=>by kernel_rfl
 |28,_=>fun _=>by kernel_rfl
 |29,_=>fun _=>by kernel_rfl
 |30,_=>fun _=>by kernel_rfl
 |31,_=>fun _=>by kernel_rfl
 |n+32,h=>absurd h (by omega)
theorem odd_info:(Tryz.prog.info? 205).map (·.size)=some odd32.size:=by kernel_rfl
theorem odd_any (w:World):Calls Tryz.prog 215 #[] w fun e w'=>e= .returned (.agg odd32)∧Below w.heap.size w w':=by
 go_enter Tryz.func215,Tryz.ntmps215
 go_wp2_with ((with_reducible refine wpList_val_at 1 (.agg odd32) rfl rfl (by kernel_rfl) ?_);go_must (refine wpList_store_row rfl 205 _ _ rfl w.heap.size odd32 (by rfl) (by rfl) 205 _ (heap_alloc_last w _) odd_info rfl (by kernel_rfl) ?_);rw[World.setRow_alloc_new];simp only[Act.put,List.setIfInBounds_toArray,List.set_cons_zero,List.set_cons_succ])
 exact bodyPost_ret (v:= .agg odd32) (results_cell_row rfl _ _ w.heap.size 205 odd32 (0,0) _ rfl (heap_alloc_last w _) Tryz.underlying205 rfl odd_info) rfl ⟨rfl,(Below.refl _ _).alloc (Nat.le_refl _) _⟩
theorem LChar_any (n:Nat) (hn:n<256) (w:World):Calls Tryz.prog 186 #[.int .u8 n] w fun e w'=>e= .returned (.int .i32 (char9 n))∧Below w.heap.size w w':=by
 by_cases h1:128≤n
 ·by_cases h2:n<160
  ·have h1':(n:Int)≥128:=by omega
   have h2':(n:Int)<160:=by omega
   obtain⟨j,rfl⟩: ∃j,n=128+j:=⟨n-128,by omega⟩
   have hj:j<32:=by omega
   have hsub:IntKind.u8.wrap (((128+j:Nat):Int)-128)=(j:Int):=by rw[IntWalk.u8_in _ (by omega)];omega
   have hix: ∀w,(Instr.index 205 (.agg odd32) (.int .u8 (128+(j:Int)-128))).run Tryz.prog w= .ok (.int .i32 (oddT.getD j 0:Nat)) w:=by
    rw[show(128+(j:Int)-128)=j from by omega]
    exact odd_index j hj
   go_enter Tryz.func186,Tryz.ntmps186
   go_wp2_with (go_at_call 215;go_must (refine(odd_any _).mono ?_;rintro e w1 ⟨rfl,hb⟩;have HB:=Lib.hid hb;clear hb;generalize odd32=oc at *))
   go_ret
   exact⟨ret_int (by rw[char9,if_pos (by omega),Nat.add_sub_cancel_left];rfl),HB.out⟩
  ·have h1':(n:Int)≥128:=by omega
   have h2': ¬(n:Int)<160:=by omega
   go_enter Tryz.func186,Tryz.ntmps186
   go_wp2_with fail
   go_ret
   exact⟨ret_int (by rw[char9,if_neg (by omega)]),Below.refl _ _⟩
 ·have h1': ¬(n:Int)≥128:=by omega
  go_enter Tryz.func186,Tryz.ntmps186
  go_wp2_with fail
  go_ret
  exact⟨ret_int (by rw[char9,if_neg (by omega)]),Below.refl _ _⟩
end
section
open Go.RowKit Mem
theorem info_u8:(Tryz.prog.info? 5).map (fun i=>(i.zero,i.size,i.bytes))=some (some (.int .u8 0),1,1):=by kernel_rfl
theorem bytesV_one' (l:Str): ∀u∈bytesV l,u.oneCell'=true:=by
 intro u h
 obtain⟨n,_,rfl⟩:=List.mem_map.1 h
 rfl
theorem bytesV_app (l r:Str):bytesV (l++r)=bytesV l++bytesV r:=by simp[bytesV]
end
end Go.Proofs.YtgepobccoffnaaaGreatDoor.Rd
