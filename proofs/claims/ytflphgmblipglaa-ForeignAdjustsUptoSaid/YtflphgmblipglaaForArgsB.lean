/-
  What a list of attributes that came in holds.
-/
import Derived.Test.YtflphgmblipglaaForArgs
import Derived.Test.YtflphgmblipglaaBulk
namespace Go.Proofs.Ytflphgmblipglaa
open Go.ChangeShapes Go.WideShapes Go.ChangeAt Go.RowKit
open Mem Law Bulk

set_option maxRecDepth 100000 in
theorem open_attrs {H : Type} {enc : TypeId × Value → H} {W : World} {base : Nat} {spare : Nat → Bool} {held : Bool} {r : Reach} {b0 : Nat} {v : Value} {d : DataW H} {p : List MemPlace}
    (hv : Value.okWide Try.prog W r b0 22 v) (h : DataW.Trod enc Try.prog W base spare held 22 v d p) :
    ∃ (a : Option Addr) (c : Nat) (l : List Pair), v = .slice a l.length c ∧ l.length ≤ c ∧ c ≤ maxLen ∧ (a = none → c = 0) ∧ At W a (pairsV l) ∧ ∀ q ∈ l, q.1.size ≤ maxLen ∧ q.2.size ≤ maxLen := by
  obtain ⟨a0, n0, c0, rfl⟩ := okWide_slice Try.underlying22 hv
  obtain ⟨fuel, hf⟩ := h
  exact open_pairs (P := Try.prog) (T := 9) (t := 22) (e := 31) (fs := Try.prog.fieldsOf 31) Try.underlying22 Try.underlying9 attr_under attr_cells attr_fields (by simpa [Value.cells] using hf)
end Go.Proofs.Ytflphgmblipglaa
