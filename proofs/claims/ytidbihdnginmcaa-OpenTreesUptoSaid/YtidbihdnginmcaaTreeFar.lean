/-
  Plain lemmas on the memory of the model: a tree beside other things: a call on those leaves it. No conditions beyond those that each lemma types.
-/
import Derived.Test.YtidbihdnginmcaaTreeMemB
namespace Go.Proofs.Ytidbihdnginmcaa.Mem
open Go Go.RowKit

section
variable {tT tN : TypeId} {w w' : World} {tb g : Nat} {T : TreeD}
/-- a call on something else, and new blocks that are to be avoided from now on -/
theorem TreeAt.foreign {F far' : Nat → Prop} (h : TreeAt tT tN w tb g T) (hk : Keeps F w w') (hF : ∀ k, F k → T.far k) (hf : ∀ k, far' k → (T.far k ∨ w.heap.size ≤ k) ∧ k < w'.heap.size) : TreeAt tT tN w' tb g { T with far := far' } := by
  have hlt := h.lt
  obtain ⟨cap, Cs, hne, ht, ho, hl, hn, hfar⟩ := h
  have hFt : ∀ k, F k → k ≠ tb ∧ k ≠ g := fun k hk => (hfar k (hF k hk)).2
  refine ⟨cap, Cs, hne, (hk.block tb hlt.1 fun e => (hFt tb e).1 rfl).trans ht, ?_, hl, ?_, ?_⟩
  · refine own_kept ho fun k hk' => ?_
    simp only [Value.ownBlock, Option.some.injEq] at hk'
    subst hk'
    exact hk.block g hlt.2 fun e => (hFt g e).2 rfl
  · intro i h1 h2
    have h3 : NodeAt (fun k => Dat T.far tb g k ∨ Dat far' tb g k) w Cs[i] T.nodes[i] := (hn i h1 h2).other fun b hb hh => by
      rcases hh with hh | hh | hh
      · exact hh
      · exact .inl hh
      · rcases (hf b hh).1 with h | h
        · exact .inr h
        · omega
    exact (h3.kept (hk.mono fun k _ h => .inl (.inr (hF k h)))).other fun b _ hh => .inr hh
  · intro k hk'
    obtain ⟨h1, h2⟩ := hf k hk'
    refine ⟨h2, ?_⟩
    rcases h1 with h1 | h1
    · exact (hfar k h1).2
    · omega
end
end Go.Proofs.Ytidbihdnginmcaa.Mem
