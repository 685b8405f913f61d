import Derived.Test.YtclflmjpdglgiaaGreatRfB
import Derived.Test.YtclflmjpdglgiaaGreatOpenWZ
import Derived.Deep.RegionHeld3
import Derived.Deep.RegionLaw
/-
  Plain lemma: a node's cells in the document's tree.
-/
namespace Go.Proofs.YtclflmjpdglgiaaGreat
open Go.RowKit Mem

theorem RefO.node6 {w : World} {rb gn gk : Nat} {T : TreeD} (h : RefO w rb gn gk T) {i : Nat} (hi : i < T.nodes.length) :
    ∃ aa ac, (aa = none → ac = 0) ∧ T.nodes[i].attrs.length ≤ ac ∧ AtF (DatR T.far rb gn gk) w aa (pairsV T.nodes[i].attrs) ∧ w.cell? ⟨gn, i * 6, none⟩ = some (.bool T.nodes[i].elem) ∧ w.cell? ⟨gn, i * 6 + 1, none⟩ = some (.int .i64 T.nodes[i].space) ∧ w.cell? ⟨gn, i * 6 + 2, none⟩ = some (.string T.nodes[i].name) ∧
      w.cell? ⟨gn, i * 6 + 3, none⟩ = some (.slice aa T.nodes[i].attrs.length ac) ∧ w.cell? ⟨gn, i * 6 + 4, none⟩ = some (.string T.nodes[i].text) ∧ w.cell? ⟨gn, i * 6 + 5, none⟩ = some (.int .i64 T.nodes[i].parent) := by
  obtain ⟨_, _, _, _, h⟩ := h
  obtain ⟨aa, ac, h1, _, h3, h4, hc, _⟩ := h.node hi
  exact ⟨aa, ac, h3, h1, h4, hc 0 _ rfl, hc 1 _ rfl, hc 2 _ rfl, hc 3 _ rfl, hc 4 _ rfl, hc 5 _ rfl⟩

end Go.Proofs.YtclflmjpdglgiaaGreat

/-
  Contract: (*colanderref14.Tree).Read: a node with all below it, in new memory.
-/
namespace Go.Proofs.YtclflmjpdglgiaaGreat
open Go.RowKit Mem

end Go.Proofs.YtclflmjpdglgiaaGreat

/-
  Contract: (*colanderref14.Tree).Read, the whole.
-/
namespace Go.Proofs.YtclflmjpdglgiaaGreat
open Go.RowKit Mem

end Go.Proofs.YtclflmjpdglgiaaGreat
