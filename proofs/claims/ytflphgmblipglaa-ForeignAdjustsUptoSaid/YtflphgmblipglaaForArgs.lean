/-
  What a mark that came in holds (api.Mark, api.Attr). Conditions: none beyond the statement's own.
-/
import Derived.Test.YtflphgmblipglaaForD
import Derived.Test.YtflphgmblipglaaForH
import Derived.Test.YtflphgmblipglaaLaw
namespace Go.Proofs.Ytflphgmblipglaa
open Go.ChangeShapes Go.WideShapes Go.ChangeAt Go.RowKit
open Go.ChangeMaps (open_string)
open Mem Law

theorem mark_under : Try.prog.underlying 24 = some (.struct (Try.prog.fieldsOf 24)) := by kernel_rfl
theorem mark_fields : (Try.prog.fieldsOf 24).toList.map (fun f => (f.type, f.offset, Try.prog.cellsOf f.type)) = [(3, 0, 1), (9, 1, 1), (22, 2, 1), (4, 3, 1), (9, 4, 1)] := by kernel_rfl
theorem mark_cells : Try.prog.cellsOf 24 = 5 := by kernel_rfl
theorem attr_cells : Try.prog.cellsOf 31 = 2 := by kernel_rfl
theorem attr_fields : (Try.prog.fieldsOf 31).toList.map (fun f => (f.type, f.offset, Try.prog.cellsOf f.type)) = [(9, 0, 1), (9, 1, 1)] := by kernel_rfl
theorem laid_out : laidOutB Try.prog = true := by kernel_rfl

set_option maxRecDepth 100000 in
/-- a mark that came in -/
theorem open_mark {H : Type} {enc : TypeId × Value → H} {W : World} {base : Nat} {spare : Nat → Bool} {held : Bool} {r : Reach} {b0 : Nat} {v : Value} {d : DataW H} {p : List MemPlace}
    (hv : Value.okWide Try.prog W r b0 24 v) (h : DataW.Trod enc Try.prog W base spare held 24 v d p) :
    ∃ (kind : Int) (name : ByteArray) (a : Option Addr) (c : Nat) (self : Bool) (text : ByteArray) (l : List Pair), v = markA kind name a l.length c self text ∧ l.length ≤ maxLen ∧ At W a (pairsV l) ∧ ∀ q ∈ l, q.1.size ≤ maxLen ∧ q.2.size ≤ maxLen := by
  obtain ⟨cs, hcs, hlen, fuel, x, hx⟩ := agg_cells (P := Try.prog) (t := 24) (fs := Try.prog.fieldsOf 24) mark_under hv h
  have hc := struct_cells (Ts := [3, 9, 22, 4, 9]) mark_under (mark_fields.trans (by rfl)) hx
  rw [mark_cells] at hlen
  match cs, hlen, hcs with
  | [v0, v1, v2, v3, v4], _, hcs =>
    subst hcs
    obtain ⟨n0, u0, y0, e0, h0⟩ := hc 0 _ rfl (by simp)
    obtain ⟨n1, u1, y1, e1, h1⟩ := hc 1 _ rfl (by simp)
    obtain ⟨n2, u2, y2, e2, h2⟩ := hc 2 _ rfl (by simp)
    obtain ⟨n3, u3, y3, e3, h3⟩ := hc 3 _ rfl (by simp)
    obtain ⟨n4, u4, y4, e4, h4⟩ := hc 4 _ rfl (by simp)
    simp only [List.getElem?_cons_zero, List.getElem?_cons_succ, Option.some.injEq] at e0 e1 e2 e3 e4
    subst e0 e1 e2 e3 e4
    obtain ⟨kind, rfl, _⟩ := open_int1 Try.underlying3 h0
    obtain ⟨name, rfl, _⟩ := open_string1 Try.underlying9 h1
    obtain ⟨a, c, l, rfl, g1, g2, _, g4, g5⟩ := open_pairs Try.underlying22 Try.underlying9 attr_under attr_cells attr_fields h2
    obtain ⟨self, rfl⟩ := open_bool1 Try.underlying4 h3
    obtain ⟨text, rfl, _⟩ := open_string1 Try.underlying9 h4
    exact ⟨kind, name, a, c, self, text, l, rfl, Nat.le_trans g1 g2, g4, g5⟩
end Go.Proofs.Ytflphgmblipglaa
