/- Texts joined for a claim: TxF, CuEl, CuSh, TxG: plain laws and contracts. No conditions beyond those that each lemma types. -/
import Derived.Test.YtgepobccoffnaaaGreatDoorT31
import Derived.Test.YtgepobccoffnaaaGreatDoorT46
import Derived.Test.YtgepobccoffnaaaGreatDoorT39
set_option linter.unusedVariables false
set_option linter.unusedSimpArgs false
set_option maxRecDepth 100000
set_option maxHeartbeats 8000000
namespace Go.Proofs.YtgepobccoffnaaaGreatDoor
open Go.RowKit Mem
section
mutual
/-- all texts of a node, one behind the other -/
def allF:NT→ByteArray
 | .mk _ _ _ _ t kids=>t++allsF kids
def allsF:List NT→ByteArray
 | []=>⟨#[]⟩
 |x::r=>allF x++allsF r
end
theorem fo_all {T:TreeD} (hw:WF T) (het: ∀i,elemF T i=true→txL T i= []) {ks D:List Int} {s:List UInt8} (h:Fo (kidsF T) (txL T) ks D s): ∀d,(∀k∈ks,Deep d T k∧1≤k∧k<T.nodes.length)→(allsF (ks.map (readN d T))).toList=s:=by
 induction h with
 |nil=>intro d _;exact empty_list
 | @cons k ks D1 D2 s1 s2 h1 h2 ih1 ih2 =>
   intro d hd
   obtain⟨k1,k2,k3⟩:=hd k List.mem_cons_self
   obtain⟨K,rfl⟩:=Int.eq_ofNat_of_zero_le (show 0≤k by omega)
   have hlt:K<T.nodes.length:=by omega
   have e2:=ih2 d fun j hj=>hd j (List.mem_cons_of_mem _ hj)
   rw[List.map_cons,allsF,ba_app,e2]
   rw[←List.append_assoc]
   congr 1
   cases d with
   |zero=>exact k1.elim
   |succ d =>
    have hx:txL T K=T.nodes[K].text.toList:=by
     unfold txL
     rw[Int.toNat_natCast,List.getElem?_eq_getElem hlt]
     rfl
    cases he:T.nodes[K].elem with
    |true =>
     have heF:elemF T K=true:=by rw[elemF_of T K (by omega) hlt];exact he
     rw[readN_elem d T K hlt he,allF,ba_app,empty_list,het _ heF]
     congr 1
     have hk:T.nodes[K].kids=kidsF T K:=(kidsF_of T K hlt).symm
     rw[hk]
     exact ih1 d fun j hj=>⟨k1 j hj,kid_rng hw hj (by omega)⟩
    |false =>
     have hk:kidsF T K= []:=by
      by_cases e:kidsF T K= []
      ·exact e
      ·have:=hw.holds K hlt e
       unfold holdsF at this
       rw[elemF_of T K (by omega) hlt,he,Bool.or_false,beq_iff_eq]at this
       omega
     rw[hk]at h1
     cases h1
     rw[readN_text d T K hlt he,allF,allsF,ba_app,empty_list,hx]
section
variable {b:BuD} {W:List UInt8}
theorem JB.ends (h:JB W b):(b.endE=0→(allF b.endN).toList=W)∧(b.endE=0∨b.endE=43∨b.endE=44):=by
 have h1:JB W b.endB:=by
  have:=h.done (m:=eofM) ⟨by kernel_rfl,by kernel_rfl,by kernel_rfl⟩ ⟨by kernel_rfl,by kernel_rfl,by kernel_rfl⟩
  rw[show addS eofM= []from rfl,List.append_nil]at this
  exact this
 have hN:b.endN=if b.endE=0 then b.endB.pageN else emptyNT:=rfl
 rw[hN]
 unfold BuD.endE
 by_cases he:b.endB.err=0
 ·rw[if_neg (fun x=>x he)]
  by_cases hd:32<ntDepth b.endB.pageN
  ·rw[if_pos hd]
   exact⟨fun hh=>absurd hh (by decide),.inr (.inr rfl)⟩
  ·rw[if_neg hd]
   refine⟨fun _=> ?_,.inl rfl⟩
   rw[if_pos rfl]
   have ht:=(h1.jt.tl he).1
   generalize b.endB=c at ht ⊢
   obtain⟨D,hc, -⟩:=ht.ch
   have hf:=hc.fo
   rw[ht.k0]at hf
   have h2:=ht.two
   have:=fo_all ht.wf ht.et hf c.S.T.nodes.length fun k hk=>by
    rw[List.mem_singleton.1 hk]
    exact⟨deep_nodes ht.wf 1 (Nat.le_refl _) (by omega),by omega,by omega⟩
   unfold BuD.pageN readK kid0
   rw[ht.k0]
   rw[List.map_cons,List.map_nil,allsF,allsF,ba_app,empty_list,List.append_nil]at this
   exact this
 ·rw[if_pos he]
  have:=h1.jt.er.resolve_left he
  exact⟨fun hh=>absurd hh he,.inr (.inl this)⟩
end
def bodyM:BMark:=⟨2,(⟨#[98,111,100,121]⟩:ByteArray),[],false,⟨#[]⟩⟩
def bodyT:TreeD:=⟨[{rootN with kids:= [1]},{elemN 0 (⟨#[104,116,109,108]⟩:ByteArray) []with parent:=0,kids:= [2,3]},{elemN 0 (⟨#[104,101,97,100]⟩:ByteArray) []with parent:=1},{elemN 0 (⟨#[98,111,100,121]⟩:ByteArray) []with parent:=1}],1000,noFar⟩
theorem body_runs:newB.DoF bodyM=⟨⟨bodyT,[1,3],[]⟩,false,4,0,2,⟨#[]⟩,false,0,⟨#[]⟩,0,0⟩:=by kernel_rfl
theorem four_cases {i:Nat} (h:i<4):i=0∨i=1∨i=2∨i=3:=by omega
theorem body_kids:kidsF bodyT 0= [1]∧kidsF bodyT 1= [2,3]∧kidsF bodyT 2= []∧kidsF bodyT 3= []:=⟨rfl,rfl,rfl,rfl⟩
theorem body_par:parentF bodyT 0= -1∧parentF bodyT 1=0∧parentF bodyT 2=1∧parentF bodyT 3=1:=⟨rfl,rfl,rfl,rfl⟩
theorem body_wf:WF bodyT:=by
 obtain⟨k0,k1,k2,k3⟩:=body_kids
 obtain⟨p0,p1,p2,p3⟩:=body_par
 have hl:bodyT.nodes.length=4:=rfl
 refine⟨by decide,p0,fun i hi=> ?_,fun i hi k hk=> ?_,fun i hi h0=> ?_,fun i hi=> ?_,⟨fun x=>x.toNat,fun i hi h1=> ?_⟩,fun i hi hne=> ?_⟩
 ·rcases four_cases (hl▸hi)with rfl|rfl|rfl|rfl <;>decide +kernel
 ·rcases four_cases (hl▸hi)with rfl|rfl|rfl|rfl
  ·have:k∈([1]:List Int):=hk
   rw[List.mem_singleton.1 this]
   exact⟨by decide,by decide,p1⟩
  ·have:k∈([2,3]:List Int):=hk
   rcases List.mem_cons.1 this with rfl|this
   ·exact⟨by decide,by decide,p2⟩
   ·rw[List.mem_singleton.1 this]
    exact⟨by decide,by decide,p3⟩
  ·have:k∈([]:List Int):=hk
   cases this
  ·have:k∈([]:List Int):=hk
   cases this
 ·rcases four_cases (hl▸hi)with rfl|rfl|rfl|rfl
  ·exact absurd h0 (by decide +kernel)
  ·show(1:Int)∈([1]:List Int);decide
  ·show(2:Int)∈([2,3]:List Int);decide
  ·show(3:Int)∈([2,3]:List Int);decide
 ·rcases four_cases (hl▸hi)with rfl|rfl|rfl|rfl
  ·show([1]:List Int).Nodup;decide
  ·show([2,3]:List Int).Nodup;decide
  ·exact List.nodup_nil
  ·exact List.nodup_nil
 ·rcases four_cases (hl▸hi)with rfl|rfl|rfl|rfl
  ·exact absurd h1 (by decide +kernel)
  ·exact absurd h1 (by decide +kernel)
  ·decide +kernel
  ·decide +kernel
 ·rcases four_cases (hl▸hi)with rfl|rfl|rfl|rfl
  ·rfl
  ·decide +kernel
  ·exact absurd rfl hne
  ·exact absurd rfl hne
theorem body_tx (i:Int):txL bodyT i= []:=by
 unfold txL
 cases e:bodyT.nodes[i.toNat]? with
 |none=>rfl
 |some d =>
  have hd:d∈bodyT.nodes:=List.mem_of_getElem? e
  have h: ∀d∈bodyT.nodes,d.text=⟨#[]⟩:=by
   intro d hd
   simp only[bodyT,List.mem_cons,List.not_mem_nil,or_false]at hd
   rcases hd with rfl|rfl|rfl|rfl <;>rfl
  simp only[Option.map_some,Option.getD_some]
  rw[h d hd]
  exact empty_list
theorem body_jb:JB [] (newB.DoF bodyM):=by
 obtain⟨k0,k1,k2,k3⟩:=body_kids
 rw[body_runs]
 refine⟨⟨rfl,fun _=>⟨⟨body_wf,fun i _=>body_tx i,⟨[1,2,3],?_,by decide⟩,?_,k0,by kernel_rfl,[3],rfl⟩,trivial,?_⟩,.inl rfl⟩,.inl rfl,rfl⟩
 ·have h3:Ch (kidsF bodyT) (txL bodyT) 3 [] [] []:= .top (by rw[k3];exact .nil)
  have h2:Fo (kidsF bodyT) (txL bodyT) [2] [2] []:=by
   have:=Fo.cons (K:=kidsF bodyT) (X:=txL bodyT) (k:=2) (ks:= []) (D1:= []) (s1:= []) (by rw[k2];exact .nil) .nil
   rw[body_tx]at this
   exact this
  have h1:=Ch.next (Pa.one (show kidsF bodyT 1= [2]++3:: []from k1) h2 .nil) h3
  have h0:=Ch.next (Pa.one (show kidsF bodyT 0= []++1:: []from k0) .nil .nil) h1
  rw[body_tx,body_tx]at h0
  exact h0
 ·intro x hx
  rcases List.mem_cons.1 hx with rfl|hx
  ·decide +kernel
  ·rw[List.mem_singleton.1 hx]
   decide +kernel
 ·intro d hd
  have hd':d∈bodyT.nodes:=hd
  simp only[bodyT,List.mem_cons,List.not_mem_nil,or_false]at hd'
  rcases hd' with rfl|rfl|rfl|rfl <;>rfl
end
def sh1:ByteArray:=(⟨#[60,98,62,49,60,112,62,50,60,47,98,62,51]⟩:ByteArray)
def sh2:ByteArray:=(⟨#[60,116,97,98,108,101,62,120,60,116,114,62,60,116,100,62,121]⟩:ByteArray)
def nE (nm:ByteArray) (l:List NT):NT:= .mk 1 0 nm [] ⟨#[]⟩ l
def nT (t:ByteArray):NT:= .mk 2 0 ⟨#[]⟩ [] t []
def tr1:NT:=nE (⟨#[104,116,109,108]⟩:ByteArray) [nE (⟨#[104,101,97,100]⟩:ByteArray) [],nE (⟨#[98,111,100,121]⟩:ByteArray) [nE (⟨#[98]⟩:ByteArray) [nT (⟨#[49]⟩:ByteArray)],nE (⟨#[112]⟩:ByteArray) [nE (⟨#[98]⟩:ByteArray) [nT (⟨#[50]⟩:ByteArray)],nT (⟨#[51]⟩:ByteArray)]]]
def tr2:NT:=nE (⟨#[104,116,109,108]⟩:ByteArray) [nE (⟨#[104,101,97,100]⟩:ByteArray) [],nE (⟨#[98,111,100,121]⟩:ByteArray) [nT (⟨#[120]⟩:ByteArray),nE (⟨#[116,97,98,108,101]⟩:ByteArray) [nE (⟨#[116,98,111,100,121]⟩:ByteArray) [nE (⟨#[116,114]⟩:ByteArray) [nE (⟨#[116,100]⟩:ByteArray) [nT (⟨#[121]⟩:ByteArray)]]]]]]
theorem ev1:litR 100 (Rd.newP sh1.toList) newB=some (tr1,0):=by kernel_rfl
theorem ev2:litR 100 (Rd.newP sh2.toList) newB=some (tr2,0):=by kernel_rfl
mutual
/-- a tree as a text -/
def toldF:NT→ByteArray
 | .mk k _ nm _ t kids=>if k=2 then t else(nm++(mkB [40]++toldsF kids))++mkB [41]
def toldsF:List NT→ByteArray
 | []=>⟨#[]⟩
 |x::r=>toldF x++toldsF r
end
theorem app_nil (b:ByteArray):b++(⟨#[]⟩:ByteArray)=b:=ByteArray.append_empty
theorem nil_app (b:ByteArray):(⟨#[]⟩:ByteArray)++b=b:=ByteArray.empty_append
theorem tolds_append: ∀(l r:List NT),toldsF (l++r)=toldsF l++toldsF r
 | [],r=>(nil_app _).symm
 |x::l,r=>by rw[List.cons_append,toldsF,toldsF,tolds_append l r,ByteArray.append_assoc]
theorem told_take (l:List NT) (j:Nat) (h:j<l.length):toldsF (l.take (j+1))=toldsF (l.take j)++toldF l[j]:=by
 have:l.take (j+1)=l.take j++ [l[j]]:=by rw[List.take_add_one];simp[h]
 rw[this,tolds_append,toldsF,toldsF,app_nil]
theorem told_le (l:List NT) (j:Nat) (_h:j≤l.length):(toldsF (l.take j)).size≤(toldsF l).size:=by
 conv=>rhs;rw[←List.take_append_drop j l,tolds_append]
 rw[ByteArray.size_append]
 omega
theorem told_mem: ∀(l:List NT) (x:NT),x∈l→(toldF x).size≤(toldsF l).size
 | [],_,h=>by simp at h
 |y::r,x,h=>by
  rw[toldsF,ByteArray.size_append]
  rcases List.mem_cons.1 h with h|h
  ·rw[h];omega
  ·have:=told_mem r x h
   omega
theorem told_start:(⟨#[40]⟩:ByteArray)=mkB [40]++toldsF (([]:List NT)):=by rw[toldsF,app_nil];rfl
theorem told_all {kind space:Int} {name text:ByteArray} {kids:List NT} (hk2:kind≠2) (h:(toldF (.mk kind space name [] text kids)).size≤1000000):(toldsF kids).size+2+name.size≤1000000:=by
 rw[toldF,if_neg hk2,ByteArray.size_append,ByteArray.size_append,ByteArray.size_append]at h
 have h1:(mkB [40]).size=1:=rfl
 have h2:(mkB [41]).size=1:=rfl
 omega
theorem told_step (kind space:Int) (name:ByteArray) (a:Option Addr) (an ac:Nat) (text:ByteArray) (ka:Option Addr) (kc:Nat) (kids:List NT) (css:List (List Value)) (w:World)
 (k1:kids.length≤kc) (k2:kc≤maxLen) (k4:AtF Non w ka css.flatten) (hl:css.length=kids.length) (hk: ∀i (h:i<css.length) (h':i<kids.length),NodeC Non w css[i] kids[i]) (hm:(toldF (.mk kind space name [] text kids)).size≤1000000) (hk2:kind≠2)
 (ih: ∀j (h:j<kids.length) (cs:List Value) (u:World),NodeC Non u cs kids[j]→Calls Tryz.prog 16 #[.agg cs.toArray] u fun e u'=>e= .returned (.string (toldF kids[j]))∧Below u.heap.size u u') :
 Calls Tryz.prog 16 #[.agg #[.int .i64 kind,.int .i64 space,.string name,.slice a an ac,.string text,.slice ka kids.length kc]] w fun e w'=>e= .returned (.string (toldF (.mk kind space name [] text kids)))∧Below w.heap.size w w':=by
 have HK4:=Lib.hid k4
 have HK:=Lib.hid hk
 have HIH:=Lib.hid ih
 have HL:=Lib.hid hl
 have hB:=heap_alloc_new w (.cells #[.int .i64 kind,.int .i64 space,.string name,.slice a an ac,.string text,.slice ka kids.length kc] 26)
 have hb:=(Below.refl w.heap.size w).alloc (Nat.le_refl _) (.cells #[.int .i64 kind,.int .i64 space,.string name,.slice a an ac,.string text,.slice ka kids.length kc] 26)
 unfold maxLen at k2
 have HM:=Lib.hid hm
 have hkb:(kind==2)=false:=beq_eq_false_iff_ne.2 hk2
 have HSz:=Lib.hid (told_all (kind:=kind) (space:=space) (name:=name) (text:=text) (kids:=kids) hk2 hm)
 have hkc:kids.length≤9223372036854775807:=by omega
 clear k4 hk ih hl hm
 go_enter Tryz.func16,Tryz.ntmps16
 go_wp2_with fail
 generalize w.alloc (.cells #[.int .i64 kind,.int .i64 space,.string name,.slice a an ac,.string text,.slice ka kids.length kc] 26)=w1 at *
 have HB:=Lib.hid hB
 have HB1:=Lib.hid hb
 clear hB hb
 go_loopw [4,3] (fun i s wr=> ∃j:Nat,j≤kids.length∧i= .int .i64 j∧(∃acc:ByteArray,Hid (acc=mkB [40]++toldsF (kids.take j))∧s= .string acc)∧Below w1.heap.size w1 wr) (fun i _ _=>kids.length-(intOf i).toNat)
 case atStart=>exact⟨0,Nat.zero_le _,rfl,⟨_,Lib.hid told_start,rfl⟩,Below.refl _ _⟩
 case round =>
  obtain⟨j,hj,rfl,⟨acc,HACC,rfl⟩,hbr⟩:=hrel
  have HBr:=Lib.hid hbr
  have HBw:=Lib.hid (HB1.out.trans (hbr.mono HB1.out.size))
  have hBr:=(hbr.block w.heap.size (row_lt HB.out)).trans HB.out
  obtain⟨⟨_,_,_,_,_,c5⟩,_⟩:=cells6 hBr
  have hsz:=told_le kids j hj
  clear hbr hBr
  by_cases hlt:j<kids.length
  ·have hlt':j<css.length:=by rw[HL.out];exact hlt
   have hkw:=Keeps.ofBelow (F:=Non) HBw.out
   have hnode:=(HK.out j hlt' hlt).kept hkw
   have h6: ∀c∈css,c.length=6:=by
    intro c hc
    obtain⟨i,hi,rfl⟩:=List.getElem_of_mem hc
    exact(HK.out i hi (by rw[←HL.out];exact hi)).len
   obtain⟨f0,f1,f2,f3,f4,f5,f6,f7,f8,f9,he⟩:=nodeC_form hnode
   obtain⟨b,o,rfl,e0,e1,e2,e3,e4,e5⟩:=kid_cells h6 (HK4.out.kept hkw) hlt' he
   rw[he]at hnode
   have HC:=Lib.hid (HIH.out j hlt _ wr hnode)
   unfold nodeV at HC
   have hc1:=told_take kids j hlt
   have hszn:=told_le kids (j+1) hlt
   obtain⟨d,hd⟩: ∃d,d=toldF kids[j]:=⟨_,rfl⟩
   rw[←hd]at HC hc1
   have HN:Hid (acc++d=mkB [40]++toldsF (kids.take (j+1))):=Lib.hid (by rw[HACC.out,hc1,ByteArray.append_assoc])
   have hsum:acc.size+d.size≤1000000:=by
    have h1:=congrArg ByteArray.size HN.out
    rw[ByteArray.size_append,ByteArray.size_append]at h1
    have h2:=HSz.out
    have h3:(mkB [40]).size=1:=rfl
    omega
   have hlim: ¬9223372036854775807<acc.size+d.size:=by omega
   clear hkw hnode h6 he hc1 hd hsz hszn hsum
   go_wp2_with fail
   refine HC.out.mono ?_
   rintro e w2 ⟨rfl,hb2⟩
   have HB2:=Lib.hid (belowCall HBr.out hb2)
   clear hb2
   go_wp2_with fail
   go_roundw
   case rel=>exact⟨j+1,by omega,by go_num,⟨_,HN,rfl⟩,HB2.out⟩
   case measure=>simp[intOf];omega
  ·have he:kids.take j=kids:=List.take_of_length_le (by omega)
   obtain⟨⟨_,_,c2,_,_,_⟩,_⟩:=cells6 ((HBr.out.block w.heap.size (row_lt HB.out)).trans HB.out)
   have hn:=HSz.out
   have HV:Hid (toldF (.mk kind space name [] text kids)=(name++acc)++mkB [41]):=Lib.hid (by rw[toldF,if_neg hk2,HACC.out,he])
   have h3:name.size+acc.size+1≤1000000:=by
    have h4:=HM.out
    rw[HV.out,ByteArray.size_append,ByteArray.size_append]at h4
    exact h4
   have hl1: ¬9223372036854775807<name.size+acc.size:=by omega
   have hl2: ¬9223372036854775807<name.size+acc.size+1:=by omega
   clear he hsz hn h3
   go_wp2_with fail
   go_ret
   rw[HV.out]
   exact⟨rfl,HBw.out⟩
theorem told_text (space:Int) (name:ByteArray) (a:Option Addr) (an ac:Nat) (text:ByteArray) (ka:Option Addr) (kn kc:Nat) (w:World) :
 Calls Tryz.prog 16 #[.agg #[.int .i64 2,.int .i64 space,.string name,.slice a an ac,.string text,.slice ka kn kc]] w fun e w'=>e= .returned (.string text)∧Below w.heap.size w w':=by
 go_enter Tryz.func16,Tryz.ntmps16
 go_wp2_with fail
 go_ret
 exact⟨rfl,(Below.refl _ _).alloc (Nat.le_refl _) _⟩
theorem told_any: ∀(m:Nat) (n:NT) (w:World) (cs:List Value),ntCount n≤m→(toldF n).size≤1000000→NodeC Non w cs n→Calls Tryz.prog 16 #[.agg cs.toArray] w fun e w'=>e= .returned (.string (toldF n))∧Below w.heap.size w w'
 |0,.mk _ _ _ _ _ _,_,_,h,_,_=>by
  rw[ntCount]at h
  omega
 |m+1,n,w,cs,h,hm,hn=>by
  cases hn with
  | @mk kind space name a c attrs text ka kc kids css h1 h2 h3 h4 k1 k2 k3 k4 hl hk =>
    rw[ntCount]at h
    by_cases hk2:kind=2
    ·subst hk2
     have e:toldF (.mk 2 space name attrs text kids)=text:=by rw[toldF,if_pos rfl]
     rw[e]
     exact told_text space name a attrs.length c text ka kids.length kc w
    ·have e:toldF (.mk kind space name attrs text kids)=toldF (.mk kind space name [] text kids):=by rw[toldF,toldF]
     rw[e]at hm ⊢
     refine told_step kind space name a attrs.length c text ka kc kids css w k1 k2 k4 hl hk hm hk2 ?_
     intro j hj cs u hc
     have h5:=counts_mem kids kids[j] (List.getElem_mem hj)
     have h6:=told_mem kids kids[j] (List.getElem_mem hj)
     have h7:=told_all (kind:=kind) (space:=space) (name:=name) (text:=text) (kids:=kids) hk2 hm
     exact told_any m kids[j] u cs (by omega) (by omega) hc
theorem told1:toldF tr1=(⟨#[104,116,109,108,40,104,101,97,100,40,41,98,111,100,121,40,98,40,49,41,112,40,98,40,50,41,51,41,41,41]⟩:ByteArray):=by kernel_rfl
theorem told2:toldF tr2=(⟨#[104,116,109,108,40,104,101,97,100,40,41,98,111,100,121,40,120,116,97,98,108,101,40,116,98,111,100,121,40,116,114,40,116,100,40,121,41,41,41,41,41,41]⟩:ByteArray):=by kernel_rfl
theorem cnt1:ntCount tr1=9:=by kernel_rfl
theorem cnt2:ntCount tr2≤20:=by decide +kernel
theorem dep1:ntDepth tr1=5:=by kernel_rfl
theorem build1 (w:World) :
 Calls Tryz.prog 7 #[.string (⟨#[60,98,62,49,60,112,62,50,60,47,98,62,51]⟩:ByteArray)] w fun r w'=> ∃f0 f1 f2 f3 f4 f5 f6 f7 f8 f9,r= .returned (.tuple #[.agg #[.int .i64 f0,.int .i64 f1,.string f2,.slice f3 f4 f5,.string f6,.slice f7 f8 f9],.int .i64 0])∧NodeC Non w' (nodeV f0 f1 f2 f3 f4 f5 f6 f7 f8 f9) tr1∧Below w.heap.size w w':=by
 have h:=Build_lite sh1 _ ev1 w (by decide)
 refine h.mono fun r w' ⟨cs,hr,hn,hb⟩=> ?_
 obtain⟨f0,f1,f2,f3,f4,f5,f6,f7,f8,f9,rfl⟩:=nodeC_form hn
 exact⟨f0,f1,f2,f3,f4,f5,f6,f7,f8,f9,hr,hn.other fun _ _ hx=>hx.elim,hb⟩
theorem build2 (w:World) :
 Calls Tryz.prog 7 #[.string (⟨#[60,116,97,98,108,101,62,120,60,116,114,62,60,116,100,62,121]⟩:ByteArray)] w fun r w'=> ∃f0 f1 f2 f3 f4 f5 f6 f7 f8 f9,r= .returned (.tuple #[.agg #[.int .i64 f0,.int .i64 f1,.string f2,.slice f3 f4 f5,.string f6,.slice f7 f8 f9],.int .i64 0])∧NodeC Non w' (nodeV f0 f1 f2 f3 f4 f5 f6 f7 f8 f9) tr2∧Below w.heap.size w w':=by
 have h:=Build_lite sh2 _ ev2 w (by decide)
 refine h.mono fun r w' ⟨cs,hr,hn,hb⟩=> ?_
 obtain⟨f0,f1,f2,f3,f4,f5,f6,f7,f8,f9,rfl⟩:=nodeC_form hn
 exact⟨f0,f1,f2,f3,f4,f5,f6,f7,f8,f9,hr,hn.other fun _ _ hx=>hx.elim,hb⟩
theorem shown17_any (w:World):Calls Tryz.prog 6 #[] w fun e w'=>e= .returned (.bool true)∧Below w.heap.size w w':=by
 have H1:=Lib.hid (build1 w)
 go_enter Tryz.func6,Tryz.ntmps6
 go_wp2_with fail
 refine H1.out.mono ?_
 rintro e w1 ⟨f0,f1,f2,f3,f4,f5,f6,f7,f8,f9,rfl,hn1,hb1⟩
 have HN1:=Lib.hid hn1
 have HB1:=Lib.hid (hb1.alloc hb1.size (.cells #[.int .i64 f0,.int .i64 f1,.string f2,.slice f3 f4 f5,.string f6,.slice f7 f8 f9] 26))
 have HR1:=Lib.hid (heap_alloc_new w1 (.cells #[.int .i64 f0,.int .i64 f1,.string f2,.slice f3 f4 f5,.string f6,.slice f7 f8 f9] 26))
 have H2:=Lib.hid build2
 clear hn1 hb1
 dsimp only
 go_wp2_with fail
 refine(H2.out _).mono ?_
 rintro e w2 ⟨g0,g1,g2,g3,g4,g5,g6,g7,g8,g9,rfl,hn2,hb2⟩
 obtain⟨W3,hW3⟩: ∃W3,W3=w2.alloc (.cells #[.int .i64 g0,.int .i64 g1,.string g2,.slice g3 g4 g5,.string g6,.slice g7 g8 g9] 26):=⟨_,rfl⟩
 have hb3:Below w.heap.size w W3:=by rw[hW3];exact(belowCall HB1.out hb2).alloc (belowCall HB1.out hb2).size _
 have hra:W3.heap[w1.heap.size]?=some (.cells #[.int .i64 f0,.int .i64 f1,.string f2,.slice f3 f4 f5,.string f6,.slice f7 f8 f9] 26 (0,0)):=by
  have h4:=(hb2.block _ (row_lt HR1.out)).trans HR1.out
  rw[hW3]
  exact(Below.heap_alloc w2 _ _ (row_lt h4)).trans h4
 have hrb:W3.heap[w2.heap.size]?=some (.cells #[.int .i64 g0,.int .i64 g1,.string g2,.slice g3 g4 g5,.string g6,.slice g7 g8 g9] 26 (0,0)):=by rw[hW3];exact heap_alloc_new _ _
 have hna:NodeC Non W3 (nodeV f0 f1 f2 f3 f4 f5 f6 f7 f8 f9) tr1:=by
  rw[hW3]
  exact(HN1.out.kept ((Keeps.refl _ _).alloc _)).kept ((Keeps.ofBelow hb2).alloc _)
 have hnb:NodeC Non W3 (nodeV g0 g1 g2 g3 g4 g5 g6 g7 g8 g9) tr2:=by
  rw[hW3]
  exact hn2.kept ((Keeps.refl _ _).alloc _)
 have CA:=Lib.hid (fun u (hu:Below W3.heap.size W3 u)=>(cells6 ((hu.block _ (row_lt hra)).trans hra)).1)
 have CB:=Lib.hid (fun u (hu:Below W3.heap.size W3 u)=>(cells6 ((hu.block _ (row_lt hrb)).trans hrb)).1)
 have HT1:=Lib.hid (fun u (hu:Below W3.heap.size W3 u)=>told_any 20 tr1 u _ (by decide +kernel) (by rw[told1];decide) (hna.kept (Keeps.ofBelow hu)))
 have HT2:=Lib.hid (fun u (hu:Below W3.heap.size W3 u)=>told_any 20 tr2 u _ cnt2 (by rw[told2];decide) (hnb.kept (Keeps.ofBelow hu)))
 have HC1:=Lib.hid (fun u (hu:Below W3.heap.size W3 u)=>bcount_any 20 tr1 u _ (by decide +kernel) (by decide) (hna.kept (Keeps.ofBelow hu)))
 have HD1:=Lib.hid (fun u (hu:Below W3.heap.size W3 u)=>bdepth_any 20 tr1 u _ (by decide +kernel) (by decide) (hna.kept (Keeps.ofBelow hu)))
 rw[told1]at HT1
 rw[told2]at HT2
 rw[cnt1]at HC1
 rw[dep1]at HD1
 unfold nodeV at HT1 HT2 HC1 HD1
 have HB3:=Lib.hid hb3
 have HW3:=Lib.hid hW3
 obtain⟨a0,a1,a2,a3,a4,a5⟩:=CA.out _ (Below.refl _ _)
 have hr0:=Lib.hid (Below.refl W3.heap.size W3)
 clear hb2 hn2 hra hrb hna hnb hb3 HN1 HB1 HR1 H2 H1 hW3
 dsimp only
 rw[HW3.out]at a0 a1 a2 a3 a4 a5
 go_wp2_with fail
 rw[←HW3.out]
 refine(HT1.out _ hr0.out).mono ?_
 rintro e w4 ⟨rfl,hb4⟩
 have H4:=Lib.hid hb4
 obtain⟨b0,b1,b2,b3,b4,b5⟩:=CB.out _ hb4
 clear a0 a1 a2 a3 a4 a5 hb4
 dsimp only
 go_wp2_with fail
 refine(HT2.out _ H4.out).mono ?_
 rintro e w5 ⟨rfl,hb5⟩
 have H5:=Lib.hid (belowCall H4.out hb5)
 obtain⟨a0,a1,a2,a3,a4,a5⟩:=CA.out _ H5.out
 clear b0 b1 b2 b3 b4 b5 hb5
 dsimp only
 go_wp2_with fail
 refine(HC1.out _ H5.out).mono ?_
 rintro e w6 ⟨rfl,hb6⟩
 have H6:=Lib.hid (belowCall H5.out hb6)
 clear a0 a1 a2 a3 a4 a5 hb6
 obtain⟨a0,a1,a2,a3,a4,a5⟩:=CA.out _ H6.out
 dsimp only
 go_wp2_with fail
 refine(HD1.out _ H6.out).mono ?_
 rintro e w7 ⟨rfl,hb7⟩
 have H7:=Lib.hid (belowCall H6.out hb7)
 clear a0 a1 a2 a3 a4 a5 hb7
 dsimp only
 go_wp2_with fail
 go_ret
 exact⟨rfl,belowCall HB3.out H7.out⟩
theorem alls_append: ∀(l r:List NT),allsF (l++r)=allsF l++allsF r
 | [],r=>by rw[List.nil_append,allsF];exact(nil_app _).symm
 |x::l,r=>by rw[List.cons_append,allsF,allsF,alls_append l r,ByteArray.append_assoc]
theorem all_take (l:List NT) (j:Nat) (h:j<l.length):allsF (l.take (j+1))=allsF (l.take j)++allF l[j]:=by
 have:l.take (j+1)=l.take j++ [l[j]]:=by rw[List.take_add_one];simp[h]
 rw[this,alls_append,allsF,allsF,app_nil]
theorem all_le (l:List NT) (j:Nat) (_h:j≤l.length):(allsF (l.take j)).size≤(allsF l).size:=by
 conv=>rhs;rw[←List.take_append_drop j l,alls_append]
 rw[ByteArray.size_append]
 omega
theorem all_mem: ∀(l:List NT) (x:NT),x∈l→(allF x).size≤(allsF l).size
 | [],_,h=>by simp at h
 |y::r,x,h=>by
  rw[allsF,ByteArray.size_append]
  rcases List.mem_cons.1 h with h|h
  ·rw[h];omega
  ·have:=all_mem r x h
   omega
theorem all_step (kind space:Int) (name:ByteArray) (attrs:List Pair) (a:Option Addr) (an ac:Nat) (text:ByteArray) (ka:Option Addr) (kc:Nat) (kids:List NT) (css:List (List Value)) (w:World)
 (k1:kids.length≤kc) (k2:kc≤maxLen) (k4:AtF Non w ka css.flatten) (hl:css.length=kids.length) (hk: ∀i (h:i<css.length) (h':i<kids.length),NodeC Non w css[i] kids[i]) (hm:(allF (.mk kind space name attrs text kids)).size≤1000000000)
 (ih: ∀j (h:j<kids.length) (cs:List Value) (u:World),NodeC Non u cs kids[j]→Calls Tryz.prog 15 #[.agg cs.toArray] u fun e u'=>e= .returned (.string (allF kids[j]))∧Below u.heap.size u u') :
 Calls Tryz.prog 15 #[.agg #[.int .i64 kind,.int .i64 space,.string name,.slice a an ac,.string text,.slice ka kids.length kc]] w fun e w'=>e= .returned (.string (allF (.mk kind space name attrs text kids)))∧Below w.heap.size w w':=by
 have HK4:=Lib.hid k4
 have HK:=Lib.hid hk
 have HIH:=Lib.hid ih
 have HL:=Lib.hid hl
 have hB:=heap_alloc_new w (.cells #[.int .i64 kind,.int .i64 space,.string name,.slice a an ac,.string text,.slice ka kids.length kc] 26)
 have hb:=(Below.refl w.heap.size w).alloc (Nat.le_refl _) (.cells #[.int .i64 kind,.int .i64 space,.string name,.slice a an ac,.string text,.slice ka kids.length kc] 26)
 unfold maxLen at k2
 rw[allF]at hm ⊢
 rw[ByteArray.size_append]at hm
 have HSz:=Lib.hid hm
 have hkc:kids.length≤9223372036854775807:=by omega
 clear k4 hk ih hl hm
 go_enter Tryz.func15,Tryz.ntmps15
 go_wp2_with fail
 generalize w.alloc (.cells #[.int .i64 kind,.int .i64 space,.string name,.slice a an ac,.string text,.slice ka kids.length kc] 26)=w1 at *
 have HB:=Lib.hid hB
 have HB1:=Lib.hid hb
 clear hB hb
 obtain⟨⟨_,_,_,_,c4,_⟩,_⟩:=cells6 HB.out
 go_wp2_with fail
 clear c4
 go_loopw [4,3] (fun i s wr=> ∃j:Nat,j≤kids.length∧i= .int .i64 j∧(∃acc:ByteArray,Hid (acc=text++allsF (kids.take j))∧s= .string acc)∧Below w1.heap.size w1 wr) (fun i _ _=>kids.length-(intOf i).toNat)
 case atStart=>exact⟨0,Nat.zero_le _,rfl,⟨_,Lib.hid (by rw[List.take_zero,allsF];exact(app_nil _).symm),rfl⟩,Below.refl _ _⟩
 case round =>
  obtain⟨j,hj,rfl,⟨acc,HACC,rfl⟩,hbr⟩:=hrel
  have HBr:=Lib.hid hbr
  have HBw:=Lib.hid (HB1.out.trans (hbr.mono HB1.out.size))
  have hBr:=(hbr.block w.heap.size (row_lt HB.out)).trans HB.out
  obtain⟨⟨_,_,_,_,_,c5⟩,_⟩:=cells6 hBr
  have hsz:=all_le kids j hj
  clear hbr hBr
  by_cases hlt:j<kids.length
  ·have hlt':j<css.length:=by rw[HL.out];exact hlt
   have hkw:=Keeps.ofBelow (F:=Non) HBw.out
   have hnode:=(HK.out j hlt' hlt).kept hkw
   have h6: ∀c∈css,c.length=6:=by
    intro c hc
    obtain⟨i,hi,rfl⟩:=List.getElem_of_mem hc
    exact(HK.out i hi (by rw[←HL.out];exact hi)).len
   obtain⟨f0,f1,f2,f3,f4,f5,f6,f7,f8,f9,he⟩:=nodeC_form hnode
   obtain⟨b,o,rfl,e0,e1,e2,e3,e4,e5⟩:=kid_cells h6 (HK4.out.kept hkw) hlt' he
   rw[he]at hnode
   have HC:=Lib.hid (HIH.out j hlt _ wr hnode)
   unfold nodeV at HC
   have hc1:=all_take kids j hlt
   have hszn:=all_le kids (j+1) hlt
   obtain⟨d,hd⟩: ∃d,d=allF kids[j]:=⟨_,rfl⟩
   rw[←hd]at HC hc1
   have HN:Hid (acc++d=text++allsF (kids.take (j+1))):=Lib.hid (by rw[HACC.out,hc1,ByteArray.append_assoc])
   have hsum:acc.size+d.size≤1000000000:=by
    have h1:=congrArg ByteArray.size HN.out
    rw[ByteArray.size_append,ByteArray.size_append]at h1
    have h2:=HSz.out
    omega
   have hlim: ¬9223372036854775807<acc.size+d.size:=by omega
   clear hkw hnode h6 he hc1 hd hsz hszn hsum
   go_wp2_with fail
   refine HC.out.mono ?_
   rintro e w2 ⟨rfl,hb2⟩
   have HB2:=Lib.hid (belowCall HBr.out hb2)
   clear hb2
   go_wp2_with fail
   go_roundw
   case rel=>exact⟨j+1,by omega,by go_num,⟨_,HN,rfl⟩,HB2.out⟩
   case measure=>simp[intOf];omega
  ·have he:kids.take j=kids:=List.take_of_length_le (by omega)
   have HV:Hid (acc=text++allsF kids):=Lib.hid (by rw[HACC.out,he])
   clear he hsz
   go_wp2_with fail
   go_ret
   rw[←HV.out]
   exact⟨rfl,HBw.out⟩
theorem all_any: ∀(m:Nat) (n:NT) (w:World) (cs:List Value),ntCount n≤m→(allF n).size≤1000000000→NodeC Non w cs n→Calls Tryz.prog 15 #[.agg cs.toArray] w fun e w'=>e= .returned (.string (allF n))∧Below w.heap.size w w'
 |0,.mk _ _ _ _ _ _,_,_,h,_,_=>by
  rw[ntCount]at h
  omega
 |m+1,n,w,cs,h,hm,hn=>by
  cases hn with
  | @mk kind space name a c attrs text ka kc kids css h1 h2 h3 h4 k1 k2 k3 k4 hl hk =>
    rw[ntCount]at h
    refine all_step kind space name attrs a attrs.length c text ka kc kids css w k1 k2 k4 hl hk hm ?_
    intro j hj cs u hc
    have h5:=counts_mem kids kids[j] (List.getElem_mem hj)
    have h6:=all_mem kids kids[j] (List.getElem_mem hj)
    rw[allF,ByteArray.size_append]at hm
    exact all_any m kids[j] u cs (by omega) (by omega) hc
end Go.Proofs.YtgepobccoffnaaaGreatDoor
