/- Texts joined for a claim: LawN: plain laws and contracts. No conditions beyond those that each lemma types. -/
import Derived.Test.YtgepobccoffnaaaGreatDoorT29
import Derived.Test.YtgepobccoffnaaaGreatDoorT40
set_option linter.unusedVariables false
set_option linter.unusedSimpArgs false
namespace Go.Proofs.YtgepobccoffnaaaGreatDoor
open Go.ChangeShapes Go.WideShapes Go.ChangeAt Go.RowKit
section
open Mem Law Bulk
section
variable {H:Type} {enc:TypeId×Value→H} {P:Program} {w:World} {base:Nat} {spare:Nat→Bool} {held:Bool}
theorem range_flat {E:Nat→List Value} {c:Nat}: ∀m:Nat,(∀i,i<m→(E i).length=c)→((List.range m).map E).flatten.length=m*c
 |0,_=>by simp
 |m+1,h=>by
  rw[List.range_succ,List.map_append,List.flatten_append,List.length_append,range_flat m (fun i hi=>h i (by omega))]
  simp[h m (by omega),Nat.succ_mul]
theorem slice_parts {t e:TypeId} {fuel:Nat} {cs:List Value} {x:DataW H×List MemPlace} (ht:P.underlying t=some (.slice e)) (h:DataW.trod enc P w base spare held fuel t cs=some x) :
 ∃(a:Option Addr) (cap len:Nat) (E:Nat→List Value) (D:Nat→DataW H),cs= [.slice a len cap]∧len≤cap∧cap≤maxLen∧(a=none→cap=0)∧At w a ((List.range len).map E).flatten∧Rows.uptoBulkAll ((List.range len).map D)+1≤Rows.uptoBulk x.1 ∧
  ∀i,i<len→(E i).length=P.cellsOf e∧ ∃n pl,DataW.trod enc P w base spare held n e (E i)=some (D i,pl):=by
 rcases Deep.open_slice ht h with⟨rfl,rfl⟩|⟨a,len,cap,m,n,D,Pl,rfl,_,hlc,hcm,hm,rfl,hel⟩
 ·exact⟨none,0,0,fun _=> [],fun _=> .nil,rfl,Nat.le_refl _,Nat.zero_le _,fun _=>rfl,by intro j u hj;simp at hj,by simp[Rows.uptoBulk,Rows.uptoBulkAll],fun i hi=>by omega⟩
 ·have hle:len≤m:=by rw[hm];split <;>omega
  obtain⟨E,hE⟩:=Deep.choose_lt (α:=List Value) (p:=fun i u=>w.cells? base (a.add (i*P.cellsOf e)) (P.cellsOf e)=some u∧DataW.trod enc P w base spare held n e u=some (D i,Pl i))
   (fun i (hi:i<len)=>by obtain⟨u,h1,h2⟩:=hel i (by omega);exact⟨u,h1,h2⟩)
  have hlen: ∀i,i<len→(E i).length=P.cellsOf e:=fun i hi=>(World.cells?_some (hE i hi).1).2.1
  have hat: ∀i,i<len→ ∀j,j<P.cellsOf e→w.cell? (a.add (i*P.cellsOf e+j))=(E i)[j]?:=fun i hi j hj=>by
   rw[←Deep.add_add];exact(World.cells?_some (hE i hi).1).2.2 j hj
  refine⟨some a,cap,len,E,D,rfl,hlc,hcm,(fun h=>by cases h),?_,?_,fun i hi=>⟨hlen i hi,n,Pl i,(hE i hi).2⟩⟩
  ·have key: ∀m,m≤len→ ∀j u,((List.range m).map E).flatten[j]?=some u→w.cell? (a.add j)=some u:=by
    intro m
    induction m with
    |zero=>intro _ j u hj;simp at hj
    |succ m ih =>
     intro hm j u hj
     have hfl:((List.range m).map E).flatten.length=m*P.cellsOf e:=range_flat m fun i hi=>hlen i (by omega)
     rw[List.range_succ,List.map_append,List.flatten_append]at hj
     rcases Nat.lt_or_ge j ((List.range m).map E).flatten.length with hlt|hge
     ·rw[List.getElem?_append_left hlt]at hj
      exact ih (by omega) j u hj
     ·rw[List.getElem?_append_right hge,hfl]at hj
      rw[hfl]at hge
      simp only[List.map_cons,List.map_nil,List.flatten_cons,List.flatten_nil,List.append_nil]at hj
      have hjl:j-m*P.cellsOf e<P.cellsOf e:=by
       have:=(List.getElem?_eq_some_iff.1 hj).1
       rwa [hlen m (by omega)]at this
      have h2:=hat m (by omega) _ hjl
      rw[show m*P.cellsOf e+(j-m*P.cellsOf e)=j from by omega]at h2
      rw[h2,hj]
   intro j u hj
   have hc:=key len (Nat.le_refl _) j u hj
   obtain⟨b,o,sp⟩:=a
   have hsp:sp=none:=by
    have h0: ∃u0,((List.range len).map E).flatten[0]?=some u0:=by
     have:=(List.getElem?_eq_some_iff.1 hj).1
     exact⟨_,List.getElem?_eq_getElem (by omega)⟩
    obtain⟨u0,h0⟩:=h0
    have hc0:=key len (Nat.le_refl _) 0 u0 h0
    simp only[Addr.add,if_true]at hc0
    cases sp with
    |none=>rfl
    |some q =>
     simp only[World.cell?]at hc0
     split at hc0 <;>simp at hc0
   subst hsp
   refine⟨b,o,rfl,?_⟩
   rw[←hc]
   unfold Addr.add
   split
   ·rename_i h0;subst h0;rfl
   ·rfl
  ·simp only[Rows.uptoBulk]
   omega
end
theorem at_non {w:World} {a:Option Addr} {xs:List Value} (h:At w a xs):AtF Non w a xs:=fun j u hj =>
 let⟨b,o,ha,hc⟩:=h j u hj;⟨b,o,ha,fun h=>h,hc⟩
end
end Go.Proofs.YtgepobccoffnaaaGreatDoor
