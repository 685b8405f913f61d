/-
  What a law's arguments hold, read off their data: slices of bools, of ints. No program's numbers.
-/
import Derived.Test.YteckmpcgdgknoaaGreatDoorQ01
import Derived.Test.YteckmpcgdgknoaaGreatDoorQ42
set_option linter.unusedVariables false
set_option linter.unusedSimpArgs false
namespace Go.Proofs.YteckmpcgdgknoaaGreatDoor.Law
open Go Go.RowKit Go.ChangeShapes Go.WideShapes Go.ChangeAt Mem
def boolsV (l:List Bool):List Value:=l.map Value.bool
theorem boolsV_length (l:List Bool):(boolsV l).length=l.length:=by simp[boolsV]
theorem boolsV_get (l:List Bool) (k:Nat) (h:k<l.length):(boolsV l)[k]?=some (.bool l[k]):=by simp[boolsV,h]
section
variable {H:Type} {enc:TypeId×Value→H} {P:Program} {w:World} {base:Nat} {spare:Nat→Bool} {held:Bool}
theorem bools_of {T:TypeId} (hT:P.underlying T=some .bool): ∀(E:List (List Value)),(∀u∈E,u.length=1∧ ∃n y,DataW.trod enc P w base spare held n T u=some y) →
 ∃l:List Bool,E.flatten=boolsV l∧l.length=E.length
 | [],_=>⟨[],rfl,rfl⟩
 |u::E,h=>by
  obtain⟨l,hl,hn⟩:=bools_of hT E fun v hv=>h v (List.mem_cons_of_mem _ hv)
  obtain⟨_,n,y,hy⟩:=h u List.mem_cons_self
  obtain⟨s,rfl,_⟩:=DataW.trod_bool hT hy
  exact⟨s::l,by rw[List.flatten_cons,hl];rfl,by simp[hn]⟩
theorem intl_of {T:TypeId} (hT:P.underlying T=some (.int .i64)): ∀(E:List (List Value)),(∀u∈E,u.length=1∧ ∃n y,DataW.trod enc P w base spare held n T u=some y) →
 ∃l:List Int,E.flatten=intsV l∧l.length=E.length
 | [],_=>⟨[],rfl,rfl⟩
 |u::E,h=>by
  obtain⟨l,hl,hn⟩:=intl_of hT E fun v hv=>h v (List.mem_cons_of_mem _ hv)
  obtain⟨_,n,y,hy⟩:=h u List.mem_cons_self
  obtain⟨s,rfl,_⟩:=DataW.trod_int hT hy
  exact⟨s::l,by rw[List.flatten_cons,hl];rfl,by simp[hn]⟩
theorem open_bools {t e:TypeId} {fuel:Nat} {v:Value} {x:DataW H×List MemPlace} (ht:P.underlying t=some (.slice e)) (hT:P.underlying e=some .bool) (hC:P.cellsOf e=1) (h:DataW.trod enc P w base spare held fuel t [v]=some x) :
 ∃(a:Option Addr) (c:Nat) (l:List Bool),v= .slice a l.length c∧l.length≤c∧c≤maxLen∧(a=none→c=0)∧At w a (boolsV l):=by
 obtain⟨a,c,E,hv,h1,h2,h3,h4,h5⟩:=slice_cells ht h
 rw[hC]at h5
 obtain⟨l,hl,hn⟩:=bools_of hT E h5
 simp only[List.cons.injEq,and_true]at hv
 rw[hl]at h4
 rw[←hn]at hv h1
 exact⟨a,c,l,hv,h1,h2,h3,h4⟩
theorem open_intl {t e:TypeId} {fuel:Nat} {v:Value} {x:DataW H×List MemPlace} (ht:P.underlying t=some (.slice e)) (hT:P.underlying e=some (.int .i64)) (hC:P.cellsOf e=1) (h:DataW.trod enc P w base spare held fuel t [v]=some x) :
 ∃(a:Option Addr) (c:Nat) (l:List Int),v= .slice a l.length c∧l.length≤c∧c≤maxLen∧(a=none→c=0)∧At w a (intsV l):=by
 obtain⟨a,c,E,hv,h1,h2,h3,h4,h5⟩:=slice_cells ht h
 rw[hC]at h5
 obtain⟨l,hl,hn⟩:=intl_of hT E h5
 simp only[List.cons.injEq,and_true]at hv
 rw[hl]at h4
 rw[←hn]at hv h1
 exact⟨a,c,l,hv,h1,h2,h3,h4⟩
end
end Go.Proofs.YteckmpcgdgknoaaGreatDoor.Law
