/-
  Plain lemmas on the memory of the model, more on trees: a node is added behind the others. No conditions beyond those that each lemma types.
-/
import Derived.Test.YtidbihdnginmcaaTreeMem
import Derived.Lib.BufferMore
namespace Go.Proofs.Ytidbihdnginmcaa.Mem
open Go Go.RowKit

section
variable {tT tN : TypeId} {w w' : World} {tb g : Nat} {T : TreeD}

/-- what a tree is, laid open: for a walk that appends to its row -/
theorem TreeAt.open_ (h : TreeAt tT tN w tb g T) : ∃ cap Cs, tb ≠ g ∧ w.heap[tb]? = some (.cells #[.slice (some ⟨g, 0, none⟩) T.nodes.length cap, .int .i64 T.most] tT (0, 0)) ∧
    w.ownsRow 0 tN 7 (.slice (some ⟨g, 0, none⟩) T.nodes.length cap) T.nodes.length (List.flatten Cs) ∧ Cs.length = T.nodes.length ∧
    (∀ i (h : i < Cs.length) (h' : i < T.nodes.length), NodeAt (Dat T.far tb g) w Cs[i] T.nodes[i]) ∧ ∀ k, T.far k → k < w.heap.size ∧ k ≠ tb ∧ k ≠ g := h

theorem tree_push {cap cap' g' : Nat} {Cs : List (List Value)} {cs : List Value} {d : ND} (hne : tb ≠ g) (ht : w.heap[tb]? = some (.cells #[.slice (some ⟨g, 0, none⟩) T.nodes.length cap, .int .i64 T.most] tT (0, 0)))
    (hl : Cs.length = T.nodes.length) (hn : ∀ i (h : i < Cs.length) (h' : i < T.nodes.length), NodeAt (Dat T.far tb g) w Cs[i] T.nodes[i]) (hfar : ∀ k, T.far k → k < w.heap.size ∧ k ≠ tb ∧ k ≠ g)
    (hk : Keeps (· = g) w w') (ho : w'.ownsRow 0 tN 7 (.slice (some ⟨g', 0, none⟩) (T.nodes.length + 1) cap') (T.nodes.length + 1) (List.flatten Cs ++ cs))
    (hg : g' = g ∨ w.heap.size ≤ g') (hd : NodeAt (Dat T.far tb g') w' cs d) :
    TreeAt tT tN (w'.setCell ⟨tb, 0, none⟩ (.slice (some ⟨g', 0, none⟩) (T.nodes.length + 1) cap')) tb g' ⟨T.nodes ++ [d], T.most, T.far⟩ := by
  have htb : tb < w.heap.size := by
    rcases Nat.lt_or_ge tb w.heap.size with h | h
    · exact h
    · simp [Array.getElem?_eq_none h] at ht
  have hne' : tb ≠ g' := by
    rcases hg with rfl | hg
    · exact hne
    · omega
  have ht' : w'.heap[tb]? = some (.cells #[.slice (some ⟨g, 0, none⟩) T.nodes.length cap, .int .i64 T.most] tT (0, 0)) := (hk.block tb htb hne).trans ht
  have hs : Keeps (Dat T.far tb g') w' (w'.setCell ⟨tb, 0, none⟩ (.slice (some ⟨g', 0, none⟩) (T.nodes.length + 1) cap')) := (Keeps.refl _ _).set (.inl (.inl (.inl rfl))) _
  refine ⟨cap', Cs ++ [cs], hne', ?_, ?_, by simp [hl], ?_, fun k hk' => ?_⟩
  · rw [Lib.heap_setCell_same (i := 0) ht']
    simp
  · have : (Cs ++ [cs]).flatten = Cs.flatten ++ cs := by simp
    rw [this]
    simp only [List.length_append, List.length_singleton]
    refine own_kept ho fun k hk' => ?_
    simp only [Value.ownBlock, Option.some.injEq] at hk'
    subst hk'
    exact heap_setCell_other _ _ _ _ (Ne.symm hne')
  · intro i hi hi'
    by_cases hlt : i < Cs.length
    · have h1 : (Cs ++ [cs])[i] = Cs[i] := List.getElem_append_left hlt
      have h2 : (T.nodes ++ [d])[i]'hi' = T.nodes[i]'(by omega) := List.getElem_append_left (by omega)
      rw [h1]
      show NodeAt _ _ _ ((T.nodes ++ [d])[i]'hi')
      rw [h2]
      have h3 := hn i hlt (by omega)
      have h4 : NodeAt (Dat T.far tb g) w' Cs[i] (T.nodes[i]'(by omega)) := h3.kept (hk.mono fun k _ h => .inl (.inr h))
      -- what the node holds lies where it lay in w
      have h5 : NodeAt (Dat T.far tb g') w Cs[i] (T.nodes[i]'(by omega)) := h3.other fun b hb hh => by
        rcases hh with (hh | hh) | hh
        · exact .inl (.inl hh)
        · rcases hg with rfl | hg
          · exact .inl (.inr hh)
          · omega
        · exact .inr hh
      have h6 : NodeAt (Dat T.far tb g') w' Cs[i] (T.nodes[i]'(by omega)) := by
        obtain ⟨aa, ac, ka, kc, q1, q2, q3, q4, q5, q6, q7, q8, q9⟩ := h5
        obtain ⟨aa', ac', ka', kc', r1, r2, r3, r4, r5, r6, r7, r8, r9⟩ := h3
        rw [q1] at r1
        simp only [cells7, List.cons.injEq, Value.slice.injEq, and_true, true_and] at r1
        obtain ⟨⟨rfl, rfl⟩, ⟨rfl, rfl⟩⟩ := r1
        refine ⟨aa, ac, ka, kc, q1, q2, q3, q4, q5, q6, q7, ?_, ?_⟩
        · intro j u hj
          obtain ⟨b, o, rfl, hF, hc⟩ := q8 j u hj
          obtain ⟨b', o', he, hF', hc'⟩ := r8 j u hj
          cases he
          refine ⟨b, o, rfl, hF, ?_⟩
          rw [World.cell?_of_block (w := w) (hk.block b (lt_of_cell hc) fun e => hF' (.inl (.inr e)))]
          exact hc
        · intro j u hj
          obtain ⟨b, o, rfl, hF, hc⟩ := q9 j u hj
          obtain ⟨b', o', he, hF', hc'⟩ := r9 j u hj
          cases he
          refine ⟨b, o, rfl, hF, ?_⟩
          rw [World.cell?_of_block (w := w) (hk.block b (lt_of_cell hc) fun e => hF' (.inl (.inr e)))]
          exact hc
      exact h6.kept hs
    · have he : i = Cs.length := by simp at hi; omega
      subst he
      have h1 : (Cs ++ [cs])[Cs.length]'hi = cs := by simp
      have h2 : (T.nodes ++ [d])[Cs.length]'hi' = d := by simp [hl]
      rw [h1]
      show NodeAt _ _ _ ((T.nodes ++ [d])[Cs.length]'hi')
      rw [h2]
      exact hd.kept hs
  · obtain ⟨k1, k2, k3⟩ := hfar k hk'
    have := hk.size
    refine ⟨by rw [World.size_setCell]; omega, k2, ?_⟩
    rcases hg with rfl | hg
    · exact k3
    · omega
end
end Go.Proofs.Ytidbihdnginmcaa.Mem
