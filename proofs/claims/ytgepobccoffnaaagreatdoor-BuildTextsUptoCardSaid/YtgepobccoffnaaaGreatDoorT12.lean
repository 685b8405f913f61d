/- Texts joined for a claim: FmC: plain laws and contracts. No conditions beyond those that each lemma types. -/
import Derived.Test.YtgepobccoffnaaaGreatDoorT11
set_option linter.unusedVariables false
set_option linter.unusedSimpArgs false
set_option maxRecDepth 100000
set_option maxHeartbeats 8000000
section
namespace Go.Proofs.YtgepobccoffnaaaGreatDoor
open Go.RowKit Mem
def isP (l:List Pair) (p:Pair):Bool:=l.any fun q=>decide (p=q)
theorem isP_drop (l:List Pair) (p:Pair) (k:Nat) (h:k<l.length):isP (l.drop k) p=(decide (p=l[k])||isP (l.drop (k+1)) p):=by
 rw[List.drop_eq_getElem_cons h,isP,List.any_cons]
 rfl
theorem aindex_any (l:List Pair) (a:Option Addr) (c:Nat) (p:Pair) (w:World) (ha:At w a (pairsV l)) (hl:l.length≤1048576) :
 Calls Tryz.prog 239 #[.slice a l.length c,.agg #[.string p.1,.string p.2]] w fun e w'=> ∃i:Int,e= .returned (.int .i64 i)∧decide (0≤i)=isP l p∧Below w.heap.size w w':=by
 have hb:=(Below.refl w.heap.size w).alloc (Nat.le_refl _) (.cells #[.string p.1,.string p.2] 57)
 have k1:=heap_alloc_new w (.cells #[.string p.1,.string p.2] 57)
 have HA:=Lib.hid (ha.below hb)
 have HB:=Lib.hid hb
 have z0:=cell_of_row _ _ 0 _ _ _ k1
 have z1:=cell_of_row _ _ 1 _ _ _ k1
 have hs:w.heap.size<(w.alloc (.cells #[.string p.1,.string p.2] 57)).heap.size:=by simp
 clear ha hb k1
 go_enter Tryz.func239,Tryz.ntmps239
 go_wp2_with fail
 generalize w.alloc (.cells #[.string p.1,.string p.2] 57)=w1 at *
 go_loopw [8] (fun i wr=> ∃k:Nat,k≤l.length∧i= .int .i64 k∧Below w1.heap.size w1 wr∧isP l p=isP (l.drop k) p) (fun i _=>l.length-(intOf i).toNat)
 case atStart=>exact⟨0,Nat.zero_le _,rfl,Below.refl _ _,rfl⟩
 case round =>
  obtain⟨k,hk,rfl,hbr,hv⟩:=hrel
  have HV:=Lib.hid hv
  have HBr:=Lib.hid hbr
  clear hv
  by_cases hlt:k<l.length
  ·obtain⟨b,o,rfl,hlb,h1,h2⟩:=pair_cells (HA.out.below hbr) hlt
   have y0:=cell_later hbr z0
   have y1:=cell_later hbr z1
   have hne:=eql_attr p l[k]
   clear hbr
   by_cases he:p=l[k]
   ·have HD:Hid (isP (l.drop k) p=true):=Lib.hid (by
     rw[isP_drop l p k hlt,decide_eq_true he];rfl)
    rw[decide_eq_true he]at hne
    obtain⟨q,hq⟩: ∃q,q=l[k]:=⟨_,rfl⟩
    rw[←hq]at h1 h2 hne
    clear he hq
    go_wp2
    go_quiet (fail)
    go_wp2
    go_ret
    exact⟨_,rfl,by rw[HV.out,HD.out];simp,belowCall (belowCall HB.out HBr.out) (stk_drewN _ _)⟩
   ·have HD:Hid (isP (l.drop k) p=isP (l.drop (k+1)) p):=Lib.hid (by
     rw[isP_drop l p k hlt,decide_eq_false he];rfl)
    rw[decide_eq_false he]at hne
    obtain⟨q,hq⟩: ∃q,q=l[k]:=⟨_,rfl⟩
    rw[←hq]at h1 h2 hne
    clear he hq
    go_wp2
    go_quiet (fail)
    go_wp2
    go_roundw
    case rel=>exact⟨k+1,by omega,by go_num,belowCall HBr.out (stk_drewN _ _),by rw[HV.out,HD.out]⟩
    case measure=>simp[intOf];omega
  ·have HD:Hid (isP (l.drop k) p=false):=Lib.hid (by rw[List.drop_of_length_le (by omega)];rfl)
   clear hbr
   go_wp2
   go_ret
   exact⟨-1,rfl,by rw[HV.out,HD.out];rfl,belowCall HB.out HBr.out⟩
theorem acontains_any (l:List Pair) (a:Option Addr) (c:Nat) (p:Pair) (w:World) (ha:At w a (pairsV l)) (hl:l.length≤1048576) :
 Calls Tryz.prog 234 #[.slice a l.length c,.agg #[.string p.1,.string p.2]] w fun e w'=>e= .returned (.bool (isP l p))∧Below w.heap.size w w':=by
 have hb:=(Below.refl w.heap.size w).alloc (Nat.le_refl _) (.cells #[.string p.1,.string p.2] 57)
 have k1:=heap_alloc_new w (.cells #[.string p.1,.string p.2] 57)
 have HC:=Lib.hid (aindex_any l a c p _ (ha.below hb) hl)
 have HB:=Lib.hid hb
 have z0:=cell_of_row _ _ 0 _ _ _ k1
 have z1:=cell_of_row _ _ 1 _ _ _ k1
 clear ha hb k1
 go_enter Tryz.func234,Tryz.ntmps234
 go_wp2_with (go_at_call 239;go_must (refine HC.out.mono ?_;rintro e w2 ⟨i,rfl,hi,hb2⟩;have HI:=Lib.hid hi;have HB2:=Lib.hid hb2;clear hi hb2))
 go_ret
 exact⟨ret_bool HI.out,belowCall HB.out HB2.out⟩
def allIn (a b:List Pair):Bool:=a.all fun p=>isP b p
theorem allIn_step (a b:List Pair) (k:Nat) (h:k<a.length):allIn (a.drop k) b=(isP b a[k]&&allIn (a.drop (k+1)) b):=by
 rw[List.drop_eq_getElem_cons h,allIn,List.all_cons]
 rfl
def likeQ (T:TreeD) (a b:Int):Bool:=(spaceQ T a==spaceQ T b)&&((nameQ T a).toList==(nameQ T b).toList)&&decide ((attrsQ T a).length=(attrsQ T b).length)&&allIn (attrsQ T a) (attrsQ T b)&&allIn (attrsQ T b) (attrsQ T a)
section
variable {w0 w w':World} {B B' tb sb lb:Nat} {ex:Nat→Prop} {T T':TreeD} {l l' ent ent':List Int} {on on':Bool}
theorem like_li (h:LI w0 B tb sb lb ex T l ent on w) (a b:Int) :
 Calls Tryz.prog 224 #[.pointer (some ⟨lb,0,none⟩),.int .i64 a,.int .i64 b] w fun e w'=>e= .returned (.bool (likeQ T a b))∧Below w.heap.size w w':=by
 obtain⟨sa,sc,c0,_⟩:=h.cells
 have HW:=Lib.hid (What_li h a)
 have HT:=Lib.hid h
 have hla:=attrsQ_short h.att a
 have hlb:=attrsQ_short h.att b
 have HN:Hid (likeQ T a b=((spaceQ T a==spaceQ T b)&&((nameQ T a).toList==(nameQ T b).toList)&&decide ((attrsQ T a).length=(attrsQ T b).length)&&allIn (attrsQ T a) (attrsQ T b)&&allIn (attrsQ T b) (attrsQ T a))):=by show _=_;rfl
 have HWb:Hid (∀u,LI w0 B tb sb lb ex T l ent on u→Calls Tryz.prog 49 #[.pointer (some ⟨tb,0,none⟩),.int .i64 b] u fun e w'=> ∃v,e= .returned (.tuple #[.int .i64 (spaceQ T b),.string (nameQ T b),v]) ∧
  w'.ownsRow u.heap.size 57 2 v (attrsQ T b).length (pairsV (attrsQ T b))∧Below u.heap.size u w'):=Lib.hid (fun u hu=>What_li hu b)
 clear h
 generalize spaceQ T a=s1 at *
 generalize spaceQ T b=s2 at *
 generalize nameQ T a=n1 at *
 generalize nameQ T b=n2 at *
 generalize attrsQ T a=l1 at *
 generalize attrsQ T b=l2 at *
 have hne:((l1.length:Int) !=(l2.length:Int))= !decide (l1.length=l2.length):=by
  by_cases hq:l1.length=l2.length
  ·simp[hq]
  ·rw[decide_eq_false hq,Bool.not_false,bne_iff_ne];omega
 go_enter Tryz.func224,Tryz.ntmps224
 go_wp2_with (go_at_call 49;fail)
 refine HW.out.mono ?_
 rintro e w1 ⟨v1,rfl,ho1,hb1⟩
 obtain⟨a1,m1,rfl,_,_,_,hat1⟩:=own_at ho1
 have HA1:=Lib.hid hat1
 have H1:=Lib.hid (HT.out.world hb1)
 have c0':=cell_later hb1 c0
 have HB1:=Lib.hid hb1
 clear ho1 hat1 hb1 c0 HW
 go_wp2_with (go_at_call 49;fail)
 refine(HWb.out _ H1.out).mono ?_
 rintro e w2 ⟨v2,rfl,ho2,hb2⟩
 obtain⟨a2,m2,rfl,_,_,_,hat2⟩:=own_at ho2
 have HA2:=Lib.hid hat2
 have HA1':=Lib.hid (HA1.out.below hb2)
 have HB2:=Lib.hid (belowCall HB1.out hb2)
 clear ho2 hat2 hb2 c0' HWb HA1
 cases hs:(s1==s2)
 ·rw[hs]at HN
  have hs':(s1 !=s2)=true:=by rw[bne,hs];rfl
  go_wp2_with fail
  go_ret
  exact⟨ret_bool (by rw[HN.out];rfl),HB2.out⟩
 have hs':(s1 !=s2)=false:=by rw[bne,hs];rfl
 rw[hs]at HN
 cases hn:(n1.toList==n2.toList)
 ·rw[hn]at HN
  go_wp2_with fail
  go_ret
  exact⟨ret_bool (by rw[HN.out];rfl),HB2.out⟩
 rw[hn]at HN
 by_cases hle:l1.length=l2.length
 ·rw[decide_eq_true hle]at HN
  have hle':((l1.length:Int) !=(l2.length:Int))=false:=by rw[hne,decide_eq_true hle];rfl
  have HLE:=Lib.hid hle
  clear hle hne hs
  go_wp2_with fail
  go_loopw [54] (fun i wr=> ∃k:Nat,k≤l1.length∧i= .int .i64 k∧Below w2.heap.size w2 wr∧allIn l1 l2=allIn (l1.drop k) l2) (fun i _=>l1.length-(intOf i).toNat)
  case atStart=>exact⟨0,Nat.zero_le _,rfl,Below.refl _ _,rfl⟩
  case round =>
   obtain⟨k,hk,rfl,hbr,hv⟩:=hrel
   have HV:=Lib.hid hv
   have HBr:=Lib.hid hbr
   clear hv
   by_cases hlt:k<l1.length
   ·obtain⟨b',o',rfl,hlb',h1,h2⟩:=pair_cells (HA1'.out.below hbr) hlt
    have HST:=Lib.hid (allIn_step l1 l2 k hlt)
    obtain⟨q,hq⟩: ∃q,q=l1[k]:=⟨_,rfl⟩
    rw[←hq]at h1 h2 HST
    have HC:Hid (∀u,Below w2.heap.size w2 u→Calls Tryz.prog 234 #[.slice a2 l2.length m2,.agg #[.string q.1,.string q.2]] u fun e w'=>e= .returned (.bool (isP l2 q))∧Below u.heap.size u w'):=Lib.hid (fun u hu=>acontains_any l2 _ _ q u (HA2.out.below hu) (by omega))
    have hbw:=hbr.alloc hbr.size (.cells #[.string q.1,.string q.2] 57)
    have HBW:=Lib.hid hbw
    clear hq hbr hbw
    cases hin:isP l2 q
    all_goals
     rw[hin]at HST HC
     go_wp2_with (go_at_call 234;go_must (refine(HC.out _ HBW.out).mono ?_;rintro e w4 ⟨rfl,hb4⟩;have HB4:=Lib.hid (belowCall HBW.out hb4);clear hb4))
    ·go_ret
     exact⟨ret_bool (by rw[HN.out,HV.out,HST.out];rfl),belowCall HB2.out HB4.out⟩
    ·go_roundw
     case rel=>exact⟨k+1,by omega,by go_num,HB4.out,by rw[HV.out,HST.out];rfl⟩
     case measure=>simp[intOf];omega
   ·have HE:Hid (allIn (l1.drop k) l2=true):=Lib.hid (by rw[List.drop_of_length_le (by omega)];rfl)
    clear hbr
    have HE1:Hid (allIn l1 l2=true):=Lib.hid (by rw[HV.out,HE.out])
    have HA3:=Lib.hid (HA2.out.below HBr.out)
    have HA4:=Lib.hid (HA1'.out.below HBr.out)
    have HB3:=Lib.hid (belowCall HB2.out HBr.out)
    obtain⟨w3,hw3⟩: ∃w3:World,w3=wr:=⟨_,rfl⟩
    subst hw3
    clear HV HE HBr
    go_wp2_with fail
    go_loopw [65] (fun i wr=> ∃k:Nat,k≤l2.length∧i= .int .i64 k∧Below w3.heap.size w3 wr∧allIn l2 l1=allIn (l2.drop k) l1) (fun i _=>l2.length-(intOf i).toNat)
    case atStart=>exact⟨0,Nat.zero_le _,rfl,Below.refl _ _,rfl⟩
    case round =>
     obtain⟨k,hk,rfl,hbr,hv⟩:=hrel
     have HV:=Lib.hid hv
     have HBr:=Lib.hid hbr
     clear hv
     by_cases hlt:k<l2.length
     ·obtain⟨b',o',rfl,hlb',h1,h2⟩:=pair_cells (HA3.out.below hbr) hlt
      have HST:=Lib.hid (allIn_step l2 l1 k hlt)
      obtain⟨q,hq⟩: ∃q,q=l2[k]:=⟨_,rfl⟩
      rw[←hq]at h1 h2 HST
      have HC:Hid (∀u,Below w3.heap.size w3 u→Calls Tryz.prog 234 #[.slice a1 l1.length m1,.agg #[.string q.1,.string q.2]] u fun e w'=>e= .returned (.bool (isP l1 q))∧Below u.heap.size u w'):=Lib.hid (fun u hu=>acontains_any l1 _ _ q u (HA4.out.below hu) (by omega))
      have hbw:=hbr.alloc hbr.size (.cells #[.string q.1,.string q.2] 57)
      have HBW:=Lib.hid hbw
      clear hq hbr hbw
      cases hin:isP l1 q
      all_goals
       rw[hin]at HST HC
       go_wp2_with (go_at_call 234;go_must (refine(HC.out _ HBW.out).mono ?_;rintro e w4 ⟨rfl,hb4⟩;have HB4:=Lib.hid (belowCall HBW.out hb4);clear hb4))
      ·go_ret
       exact⟨ret_bool (by rw[HN.out,HV.out,HST.out];simp),belowCall HB3.out HB4.out⟩
      ·go_roundw
       case rel=>exact⟨k+1,by omega,by go_num,HB4.out,by rw[HV.out,HST.out];rfl⟩
       case measure=>simp[intOf];omega
     ·have HE:Hid (allIn (l2.drop k) l1=true):=Lib.hid (by rw[List.drop_of_length_le (by omega)];rfl)
      clear hbr
      go_wp2_with fail
      go_ret
      exact⟨ret_bool (by rw[HN.out,HE1.out,HV.out,HE.out];rfl),belowCall HB3.out HBr.out⟩
 ·rw[decide_eq_false hle]at HN
  have hle':((l1.length:Int) !=(l2.length:Int))=true:=by rw[hne,decide_eq_false hle];rfl
  clear hne
  go_wp2_with fail
  go_ret
  exact⟨ret_bool (by rw[HN.out];rfl),HB2.out⟩
end
end Go.Proofs.YtgepobccoffnaaaGreatDoor
namespace Go.Proofs.YtgepobccoffnaaaGreatDoor
open Go.RowKit Mem
def ixs (T:TreeD) (n:Int) (ent:List Int) (h k:Nat):List Nat:=(List.range k).filter fun i=>decide (h≤i)&&likeQ T (ent.getD i 0) n
theorem ixs_start (T:TreeD) (n:Int) (ent:List Int) (h:Nat):ixs T n ent h h= []:=by
 rw[ixs,List.filter_eq_nil_iff]
 intro i hi
 have:i<h:=by simpa using hi
 simp;omega
theorem ixs_step (T:TreeD) (n:Int) (ent:List Int) (h k:Nat) (hk:k<ent.length) (hh:h≤k):ixs T n ent h (k+1)=ixs T n ent h k++if likeQ T ent[k] n then [k]else []:=by
 have hg:ent.getD k 0=ent[k]:=by simp[List.getD,List.getElem?_eq_getElem hk]
 rw[ixs,List.range_succ,List.filter_append,ixs]
 congr 1
 simp only[List.filter_cons,List.filter_nil,decide_eq_true hh,Bool.true_and,hg]
theorem ixs_lt (T:TreeD) (n:Int) (ent:List Int) (h k:Nat): ∀i∈ixs T n ent h k,i<k:=by
 intro i hi
 have:=(List.mem_filter.1 hi).1
 simpa using this
def firstI (l:List Nat):Int:=match l with| []=> -1|i::_=>i
theorem firstI_snoc (l:List Nat) (k:Nat):firstI (l++ [k])=if l.length=0 then(k:Int)else firstI l:=by
 cases l <;>rfl
theorem firstI_lt {l:List Nat} {k:Nat} (h: ∀i∈l,i<k):firstI l<k:=by
 cases l with
 |nil=>show(-1:Int)<_;omega
 |cons i r=>have:=h i List.mem_cons_self;show(i:Int)<_;omega
def handF (ent:List Int):Nat:=(rfind ent (-1)+1).toNat
theorem handF_le (ent:List Int):(handF ent:Int)=rfind ent (-1)+1∧handF ent≤ent.length:=by
 have:=rfind_spec ent (-1)
 unfold handF
 omega
def pushF (T:TreeD) (ent:List Int) (n:Int):List Int :=
 (if 3≤(ixs T n ent (handF ent) ent.length).length then dropF ent (firstI (ixs T n ent (handF ent) ent.length))else ent)++ [n]
section
variable {w0 w w':World} {B B' tb sb lb:Nat} {ex:Nat→Prop} {T T':TreeD} {l l' ent ent':List Int} {on on':Bool}
theorem Push_li (h:LI w0 B tb sb lb ex T l ent on w) (hle0:ent.length<1000000) (n:Int) :
 Calls Tryz.prog 210 #[.pointer (some ⟨lb,0,none⟩),.int .i64 n] w fun e w'=>e= .returned (.tuple #[])∧LI w0 B tb sb lb ex T l (pushF T ent n) on w'∧Keeps (Own w0 ex) w w':=by
 have HH:=Lib.hid (hand_li h)
 obtain⟨hh1,hh2⟩:=handF_le ent
 rw[←hh1]at HH
 have HP:Hid (pushF T ent n=(if 3≤(ixs T n ent (handF ent) ent.length).length then dropF ent (firstI (ixs T n ent (handF ent) ent.length))else ent)++ [n]):=Lib.hid rfl
 generalize handF ent=hd at *
 obtain⟨sa,sc,_,_,c2,_,hA,hcm,hcl⟩:=h.cells
 unfold maxLen at hcm
 have HA:=Lib.hid hA
 have HL:=Lib.hid h
 have HIS:=Lib.hid (ixs_start T n ent hd)
 clear h hA hh1
 go_enter Tryz.func210,Tryz.ntmps210
 go_wp2_with (go_at_call 179;go_must (refine HH.out.mono ?_;rintro e w1 ⟨rfl,rfl⟩))
 go_loopw [4,5,6] (fun f m i wr=> ∃k:Nat,hd≤k∧k≤ent.length∧i= .int .i64 k∧m= .int .i64 (ixs T n ent hd k).length∧f= .int .i64 (firstI (ixs T n ent hd k))∧Below w.heap.size w wr) (fun _ _ i _=>ent.length-(intOf i).toNat)
 case atStart =>
  refine⟨hd,Nat.le_refl _,hh2,rfl,?_,?_,Below.refl _ _⟩
  ·rw[HIS.out];rfl
  ·rw[HIS.out];rfl
 case round =>
  obtain⟨k,hk1,hk2,rfl,rfl,rfl,hbr⟩:=hrel
  have HBr:=Lib.hid hbr
  have d2:=cell_later hbr c2
  have hil:(ixs T n ent hd k).length≤k:=by
   have:=List.length_filter_le (fun i=>decide (hd≤i)&&likeQ T (ent.getD i 0) n) (List.range k)
   rw[List.length_range]at this
   exact this
  by_cases hlt:k<ent.length
  ·obtain⟨b,o,rfl,e1⟩:=(HA.out.below hbr) _ _ (intsV_get ent k hlt)
   have HLk:=Lib.hid (like_li (HL.out.world hbr) ent[k] n)
   have HST:=Lib.hid (ixs_step T n ent hd k hlt hk1)
   have HFS:=Lib.hid (firstI_snoc (ixs T n ent hd k) k)
   obtain⟨x,hx⟩: ∃x,x=ent[k]:=⟨_,rfl⟩
   rw[←hx]at e1 HLk HST
   clear hx hbr
   cases hq:likeQ T x n
   ·rw[hq]at HLk HST
    go_wp2_with (go_at_call 224;go_must (refine HLk.out.mono ?_;rintro e w2 ⟨rfl,hb2⟩;have HB2:=Lib.hid (belowCall HBr.out hb2);clear hb2))
    go_roundw
    case rel=>exact⟨k+1,by omega,by omega,by go_num,by rw[HST.out];simp,by rw[HST.out];simp,HB2.out⟩
    case measure=>simp[intOf];omega
   ·rw[hq,if_pos rfl]at HST
    rw[hq]at HLk
    have HL1:Hid ((ixs T n ent hd (k+1)).length=(ixs T n ent hd k).length+1):=Lib.hid (by rw[HST.out];simp)
    rw[←HST.out]at HFS
    obtain⟨m1,hm1⟩: ∃m,m=(ixs T n ent hd k).length:=⟨_,rfl⟩
    obtain⟨f1,hf1⟩: ∃f,f=firstI (ixs T n ent hd k):=⟨_,rfl⟩
    rw[←hm1]at HFS HL1 hil ⊢
    rw[←hf1]at HFS ⊢
    clear hm1 hf1
    by_cases h0:m1=0
    ·subst h0
     rw[if_pos rfl]at HFS
     go_wp2_with (go_at_call 224;go_must (refine HLk.out.mono ?_;rintro e w2 ⟨rfl,hb2⟩;have HB2:=Lib.hid (belowCall HBr.out hb2);clear hb2))
     go_roundw
     case rel=>exact⟨k+1,by omega,by omega,by go_num,by rw[HL1.out];rfl,by rw[HFS.out],HB2.out⟩
     case measure=>simp[intOf];omega
    ·rw[if_neg h0]at HFS
     have h0':((m1:Int)==0)=false:=by rw[beq_eq_false_iff_ne];omega
     go_wp2_with (go_at_call 224;go_must (refine HLk.out.mono ?_;rintro e w2 ⟨rfl,hb2⟩;have HB2:=Lib.hid (belowCall HBr.out hb2);clear hb2))
     go_roundw
     case rel=>exact⟨k+1,by omega,by omega,by go_num,by rw[HL1.out];go_num,by rw[HFS.out],HB2.out⟩
     case measure=>simp[intOf];omega
  ·obtain rfl:k=ent.length:=by omega
   have HLr:=Lib.hid (HL.out.world hbr)
   have hfl:=firstI_lt (ixs_lt T n ent hd ent.length)
   clear hbr
   go_upto_if 34 with fail
   go_cut []from 34 to 37 (fun wx=> ∃ent3,ent3.length<1000000∧Hid (pushF T ent n=ent3++ [n])∧Hid (LI w0 B tb sb lb ex T l ent3 on wx)∧Hid (Keeps (Own w0 ex) w wx))
   case first =>
    by_cases h3:3≤(ixs T n ent hd ent.length).length
    ·have HD:=Lib.hid (drop_li HLr.out (firstI (ixs T n ent hd ent.length)) hfl)
     have HP3:Hid (pushF T ent n=dropF ent (firstI (ixs T n ent hd ent.length))++ [n]):=Lib.hid (by rw[HP.out,if_pos h3])
     have HLE:Hid ((dropF ent (firstI (ixs T n ent hd ent.length))).length≤ent.length):=Lib.hid (dropF_len _ _)
     generalize dropF ent (firstI (ixs T n ent hd ent.length))=ent3 at *
     generalize firstI (ixs T n ent hd ent.length)=f1 at *
     generalize (ixs T n ent hd ent.length).length=m1 at *
     clear hfl
     go_wp2_with (go_at_call 208;go_must (refine HD.out.mono ?_;rintro e w2 ⟨rfl,h2,k2⟩;have H2:=Lib.hid h2;have K2:=Lib.hid k2;clear h2 k2))
     go_meet
     exact⟨ent3,(by have:=HLE.out;omega),HP3,H2,Lib.hid ((Keeps.ofBelow HBr.out).trans K2.out)⟩
    ·have HP3:Hid (pushF T ent n=ent++ [n]):=Lib.hid (by rw[HP.out,if_neg h3])
     generalize firstI (ixs T n ent hd ent.length)=f1 at *
     generalize (ixs T n ent hd ent.length).length=m1 at *
     clear hfl
     go_wp2_with fail
     go_meet
     exact⟨ent,hle0,HP3,HLr,Lib.hid (Keeps.ofBelow HBr.out)⟩
   case rest =>
   obtain⟨ent3,hl3,HP3,HL3,HKE⟩:=hcut
   obtain⟨ge,h1,h2,h3,h4⟩:=HL3.out
   obtain⟨w3,hw3⟩: ∃w3:World,w3=wc:=⟨_,rfl⟩
   subst hw3
   clear HL HLr HH HA c2 d2 HBr HP
   have hlt:=h1.lt lb (.inl rfl)
   have hgl:=fun k hk=>h1.lt k (.inr hk)
   obtain⟨a,c,c0,c1,c2,c3,hA,ho,f2,f3,hrow,hn,hne⟩:=h1.cells
   have d1:(w3.alloc (.cells #[.int .i64 n] 3)).heap[lb]?=w3.heap[lb]?:=heap_alloc_old w3 _ hlt
   have HQ:=Lib.hid (ho.1.alloc (.cells #[.int .i64 n] 3))
   have HB0:Hid ((Value.slice a ent3.length c).ownBlock=ge):=ho.2
   have HN:=Lib.hid (show At (w3.alloc (.cells #[.int .i64 n] 3)) (some ⟨w3.heap.size,0,none⟩) (intsV [n])from at_alloc rfl rfl)
   obtain⟨i0,hi,hz0,hz1,hz2⟩:=info_parts stk_int
   have b0:ent3.length+1≤maxLen:=by unfold maxLen;omega
   have b1:(ent3.length+1)*8≤140737488355328:=by omega
   have hsz:lb<(w3.alloc (.cells #[.int .i64 n] 3)).heap.size:=by simp;omega
   have HR:=Lib.hid (d1.trans hrow)
   have HNE:Hid (some lb≠(Value.slice a ent3.length c).ownBlock):=Lib.hid (by rw[HB0.out];exact hne.symm)
   have HL:=Lib.hid hgl
   have HGS:=Lib.hid hne
   have H2:=Lib.hid h2
   have H3:=Lib.hid h3
   clear hrow ho hne hA d1 h1 h2 h3 hgl
   go_wp2_with (at_builtin;go_must (refine wpList_append_lies _ rfl _ _ 75 rfl 0 3 i0 _ 1 8 Tryz.underlying75 hi hz0 hz1 hz2 rfl (by decide) _ ent3.length (intsV ent3) rfl HQ.out ⟨w3.heap.size,0,none⟩ 1 1 (intsV [n]) rfl rfl HN.out.news (intsV_one _) (by decide) b0 b1 (Nat.zero_le _) (w3.heap.size+1) (by simp) ?_;intro g2 cap2 w5 hown2 hgr2 hat2 hlt2;have hb2:=(hgr2.block lb hsz HNE.out).trans HR.out;have HRR:=Lib.hid hb2;have s1:=Row.cell (xs:= [.pointer (some ⟨tb,0,none⟩),.pointer (some ⟨sb,0,none⟩),.slice a ent3.length c,.bool on]) ⟨_,_,_,_,hb2,rfl,.inr rfl⟩ (j:=2) rfl;have f1:=Row.frozen (xs:= [.pointer (some ⟨tb,0,none⟩),.pointer (some ⟨sb,0,none⟩),.slice a ent3.length c,.bool on]) ⟨_,_,_,_,hb2,rfl,.inr rfl⟩ (j:=2) (by simp);have HO2:=Lib.hid hown2;have HG2:=Lib.hid hgr2;have HA2:=Lib.hid hat2;clear hown2 hgr2 hb2 hat2))
   go_end0
   have hg2:ge=some g2∨w3.heap.size+1=g2:=by
    rcases HA2.out with h|h
    ·exact .inl (HB0.out.symm.trans h)
    ·exact .inr h.symm
   have hne2:g2≠lb:=by
    rintro rfl
    rcases hg2 with h|h
    ·exact HGS.out h
    ·omega
   have hk:Keeps (SB lb ge) w3 (w5.setCell ⟨lb,2,none⟩ (.slice (some ⟨g2,0,none⟩) (ent3.length+1) cap2)):=(stk_grown ((Keeps.refl _ _).alloc _) HG2.out fun k hk=> .inl (.inr (HB0.out.symm.trans hk))).set (p:=⟨lb,2,none⟩) (.inl (.inl rfl)) _
   have hls:LstO (w5.setCell ⟨lb,2,none⟩ (.slice (some ⟨g2,0,none⟩) (ent3.length+1) cap2)) lb tb sb (some g2) (ent3++ [n]) on:=by
    refine⟨.slice (some ⟨g2,0,none⟩) (ent3.length+1) cap2,Lib.heap_setCell_same (i:=2) HRR.out _,⟨?_,rfl⟩,by simpa using hne2⟩
    have:=own_kept HO2.out (w':=w5.setCell ⟨lb,2,none⟩ (.slice (some ⟨g2,0,none⟩) (ent3.length+1) cap2)) fun b hb=>heap_setCell_other _ _ _ _ (by simp only[Value.ownBlock,Option.some.injEq]at hb;subst hb;exact hne2)
    rw[intsV_append,List.length_append]
    exact this
   have HFIN:=LI.lst_step H2.out H3.out (by rw[List.length_append,List.length_singleton];omega) hls hk (fun k hk=>by cases hk;exact hg2.imp id (fun h=>by omega))
   rw[HP3.out]
   exact⟨rfl,HFIN.1,HKE.out.trans HFIN.2⟩
end
end Go.Proofs.YtgepobccoffnaaaGreatDoor
namespace Go.Proofs.YtgepobccoffnaaaGreatDoor
open Go.RowKit Mem
def findR (T:TreeD) (name:ByteArray):List Int→Int
 | []=>0
 |x::r=>if namedF T x [name]then x else findR T name r
def findF (T:TreeD) (ent:List Int) (name:ByteArray):Int:=findR T name (ent.drop (handF ent)).reverse
theorem findR_step (T:TreeD) (name:ByteArray) (ent:List Int) (h k:Nat) (hk:k<ent.length) (hh:h≤k):findR T name ((ent.take (k+1)).drop h).reverse=if namedF T ent[k] [name]then ent[k]else findR T name ((ent.take k).drop h).reverse:=by
 rw[List.take_succ_eq_append_getElem hk,List.drop_append_of_le_length (by rw[List.length_take];omega),List.reverse_append]
 rfl
section
variable {w0 w w':World} {B B' tb sb lb:Nat} {ex:Nat→Prop} {T T':TreeD} {l l' ent ent':List Int} {on on':Bool}
theorem Find_li (h:LI w0 B tb sb lb ex T l ent on w) (name:ByteArray) :
 Calls Tryz.prog 166 #[.pointer (some ⟨lb,0,none⟩),.string name] w fun e w'=>e= .returned (.int .i64 (findF T ent name))∧Below w.heap.size w w':=by
 have HH:Hid (∀u,LI w0 B tb sb lb ex T l ent on u→Calls Tryz.prog 179 #[.pointer (some ⟨lb,0,none⟩)] u fun e w'=>e= .returned (.int .i64 (rfind ent (-1)+1))∧u=w'):=Lib.hid (fun u hu=>hand_li hu)
 obtain⟨hh1,hh2⟩:=handF_le ent
 rw[←hh1]at HH
 have HP:Hid (findF T ent name=findR T name (ent.drop (handF ent)).reverse):=Lib.hid rfl
 generalize handF ent=hd at *
 obtain⟨sa,sc,_,_,c2,_,hA,hcm,hcl⟩:=h.cells
 unfold maxLen at hcm
 have HA:=Lib.hid hA
 have HL:=Lib.hid h
 clear h hA hh1
 go_enter Tryz.func166,Tryz.ntmps166
 go_wp2_with fail
 go_loopw [5] (fun i wr=> ∃k:Nat,hd≤k∧k≤ent.length∧i= .int .i64 ((k:Int)-1)∧Below w.heap.size w wr∧findR T name (ent.drop hd).reverse=findR T name ((ent.take k).drop hd).reverse) (fun i _=>(intOf i+1).toNat)
 case atStart=>exact⟨ent.length,hh2,Nat.le_refl _,rfl,Below.refl _ _,by rw[List.take_of_length_le (Nat.le_refl _)]⟩
 case round =>
  obtain⟨k,hk1,hk2,rfl,hbr,hv⟩:=hrel
  have HBr:=Lib.hid hbr
  have HV:=Lib.hid hv
  have HLr:=Lib.hid (HL.out.world hbr)
  have d2:=cell_later hbr c2
  clear hv
  by_cases hlt:hd<k
  ·obtain⟨j,rfl⟩: ∃j,k=j+1:=⟨k-1,by omega⟩
   have hj:j<ent.length:=by omega
   obtain⟨b,o,rfl,e1⟩:=(HA.out.below hbr) _ _ (intsV_get ent j hj)
   have HN:=Lib.hid (named1_li HLr.out ent[j] name)
   have HST:=Lib.hid (findR_step T name ent hd j hj (by omega))
   obtain⟨x,hx⟩: ∃x,x=ent[j]:=⟨_,rfl⟩
   rw[←hx]at e1 HN HST
   clear hx hbr
   have e2:((j+1:Nat):Int)-1=(j:Int):=by omega
   rw[e2]
   cases hq:namedF T x [name]
   ·rw[hq]at HN HST
    go_wp2_with (first|(go_at_call 179;go_must (refine(HH.out _ HLr.out).mono ?_;rintro e w2 ⟨rfl,rfl⟩))|(go_at_call 197;go_must (refine HN.out.mono ?_;rintro e w2 ⟨rfl,hb2⟩;have HB2:=Lib.hid (belowCall HBr.out hb2);clear hb2)))
    go_roundw
    case rel=>exact⟨j,by omega,by omega,by go_num,HB2.out,by rw[HV.out,HST.out];rfl⟩
    case measure=>simp[intOf]
   ·rw[hq]at HN HST
    go_wp2_with (first|(go_at_call 179;go_must (refine(HH.out _ HLr.out).mono ?_;rintro e w2 ⟨rfl,rfl⟩))|(go_at_call 197;go_must (refine HN.out.mono ?_;rintro e w2 ⟨rfl,hb2⟩;have f2:=cell_later hb2 d2;have g1:=cell_later hb2 e1;have HB2:=Lib.hid (belowCall HBr.out hb2);clear hb2)))
    go_ret
    exact⟨ret_int (by rw[HP.out,HV.out,HST.out];rfl),HB2.out⟩
  ·obtain rfl:k=hd:=by omega
   have HE:Hid (findR T name ((ent.take k).drop k).reverse=0):=Lib.hid (by rw[List.drop_of_length_le (by rw[List.length_take];omega)];rfl)
   clear hbr
   go_wp2_with (go_at_call 179;go_must (refine(HH.out _ HLr.out).mono ?_;rintro e w2 ⟨rfl,rfl⟩))
   go_ret
   exact⟨ret_int (by rw[HP.out,HV.out,HE.out]),HBr.out⟩
end
end Go.Proofs.YtgepobccoffnaaaGreatDoor
end
