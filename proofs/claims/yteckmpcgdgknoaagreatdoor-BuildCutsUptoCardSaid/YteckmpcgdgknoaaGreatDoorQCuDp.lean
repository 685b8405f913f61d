/-
  Plain: what the laws' walks over lists of marks want of numbers and texts. No conditions beyond those that each lemma types.
-/
import Derived.Test.YteckmpcgdgknoaaGreatDoorQCuTw
set_option linter.unusedVariables false
set_option linter.unusedSimpArgs false
namespace Go.Proofs.YteckmpcgdgknoaaGreatDoor
open Go.RowKit Mem
theorem and1 (j:Nat):bits .and .i64 (j:Int) 1=((j%2:Nat):Int):=by
 have h7:(BitVec.ofInt 64 (j:Int) &&&BitVec.ofInt 64 1).toNat=j%2:=by
  rw[BitVec.toNat_and]
  have h1:(BitVec.ofInt 64 1).toNat=1:=by decide
  rw[h1,Nat.and_one_is_mod,BitVec.ofInt_natCast,BitVec.toNat_ofNat]
  omega
 show IntKind.i64.wrap ((BitVec.ofInt 64 (j:Int) &&&BitVec.ofInt 64 1).toNat:Int)=_
 rw[h7,IntKind.wrap_i64]
 omega
theorem and15 (x:Int): ∃p:Nat,p≤15∧bits .and .i64 x 15=(p:Nat):=by
 have h7:(BitVec.ofInt 64 x &&&BitVec.ofInt 64 15).toNat≤15:=by rw[BitVec.toNat_and];exact Nat.le_trans Nat.and_le_right (by decide)
 refine⟨_,h7,?_⟩
 show IntKind.i64.wrap ((BitVec.ofInt 64 x &&&BitVec.ofInt 64 15).toNat:Int)=_
 rw[IntKind.wrap_i64]
 omega
theorem cells5 {w:World} {B:Nat} {v0 v1 v2 v3 v4:Value} {t:TypeId} (h:w.heap[B]?=some (.cells #[v0,v1,v2,v3,v4] t (0,0))) :
 (w.cell? ⟨B,0,none⟩=some v0∧w.cell? ⟨B,1,none⟩=some v1∧w.cell? ⟨B,2,none⟩=some v2∧w.cell? ⟨B,3,none⟩=some v3∧w.cell? ⟨B,4,none⟩=some v4)∧(∀j,j<5→w.frozen? ⟨B,j,none⟩=false):=by
 refine⟨?_,fun j hj=>by simp[World.frozen?,h]⟩
 refine⟨?_,?_,?_,?_,?_⟩ <;>simp[World.cell?,h]
theorem text_parts (s:ByteArray) {n:Nat} (h:n≤s.size):s.extract 0 n++s.extract n s.size=s:=by
 rw[ByteArray.extract_append_extract]
 simp[Nat.min_eq_left (Nat.zero_le n),Nat.max_eq_right h,ByteArray.extract_zero_size]
theorem ints_get {F:Nat→Prop} {w:World} {a:Option Addr} {l:List Int} (h:AtF F w a (intsV l)) {k:Nat} (hk:k<l.length): ∃b o,a=some ⟨b,o,none⟩∧w.cell? ⟨b,o+k,none⟩=some (.int .i64 l[k]):=by
 obtain⟨b,o,e, -,hc⟩:=h k (.int .i64 l[k]) (intsV_get l k hk)
 exact⟨b,o,e,hc⟩
theorem mks_kind: ∀ {l:List MkA} {k:Nat} {y:MkA},l[k]?=some y→(mksV l)[k*5]?=some (.int .i64 y.m.kind)
 | [],k,y,h=>by simp at h
 |x::r,0,y,h=>by
  simp only[List.getElem?_cons_zero,Option.some.injEq]at h
  subst h
  rfl
 |x::r,k+1,y,h=>by
  show(mkV x++mksV r)[(k+1)*5]?=_
  rw[List.getElem?_append_right (by show 5≤_;omega),show(k+1)*5-(mkV x).length=k*5 by show(k+1)*5-5=_;omega]
  exact mks_kind (by simpa using h)
def asA (m:BMark):MkA:=⟨m,none,0⟩
theorem asA_map (l:List BMark):(l.map asA).map (·.m)=l:=by
 rw[List.map_map]
 exact List.map_id l
theorem asA_ma {w:World} {m:BMark} (h1:m.attrs= []) (h2:m.text.size≤4611686018427387904) (h3:m.name.size≤maxLen):MA Non w (asA m).m (asA m).a (asA m).c:=by
 refine⟨?_,fun _=>rfl,by show m.attrs.length≤_;rw[h1];exact Nat.zero_le _,fun p hp=> ?_,h2,h3⟩
 ·show AtF Non w none (pairsV m.attrs)
  rw[h1]
  intro j u hj
  simp[pairsV]at hj
 ·have hp':p∈m.attrs:=hp
  rw[h1]at hp'
  cases hp'
end Go.Proofs.YteckmpcgdgknoaaGreatDoor
