/-
  Plain lemmas on the memory of the model: the document's tree: its nodes in a row of six cells each, its kids in a row of slices; beside another tree. No conditions beyond those that each lemma types.
-/
import Derived.Test.YtidbihdnginmcaaNodes
namespace Go.Proofs.Ytidbihdnginmcaa.Mem
open Go Go.RowKit

section
variable {tT tN : TypeId} {w w' : World} {tb g : Nat} {T : TreeD}
/-- a call on something else, and new blocks that are to be avoided from now on -/
theorem TreeAt.foreign {F far' : Nat → Prop} (h : TreeAt tT tN w tb g T) (hk : Keeps F w w') (hF : ∀ k, F k → T.far k) (hf : ∀ k, far' k → (T.far k ∨ w.heap.size ≤ k) ∧ k < w'.heap.size) : TreeAt tT tN w' tb g { T with far := far' } := by
  have hlt := h.lt
  obtain ⟨cap, Cs, hne, ht, ho, hl, hn, hfar⟩ := h
  have hFt : ∀ k, F k → k ≠ tb ∧ k ≠ g := fun k hk => (hfar k (hF k hk)).2
  refine ⟨cap, Cs, hne, (hk.block tb hlt.1 fun e => (hFt tb e).1 rfl).trans ht, ?_, hl, ?_, ?_⟩
  · refine own_kept ho fun k hk' => ?_
    simp only [Value.ownBlock, Option.some.injEq] at hk'
    subst hk'
    exact hk.block g hlt.2 fun e => (hFt g e).2 rfl
  · intro i h1 h2
    have h3 : NodeAt (fun k => Dat T.far tb g k ∨ Dat far' tb g k) w Cs[i] T.nodes[i] := (hn i h1 h2).other fun b hb hh => by
      rcases hh with hh | hh | hh
      · exact hh
      · exact .inl hh
      · rcases (hf b hh).1 with h | h
        · exact .inr h
        · omega
    exact (h3.kept (hk.mono fun k _ h => .inl (.inr (hF k h)))).other fun b _ hh => .inr hh
  · intro k hk'
    obtain ⟨h1, h2⟩ := hf k hk'
    refine ⟨h2, ?_⟩
    rcases h1 with h1 | h1
    · exact (hfar k h1).2
    · omega
end

theorem flat6_set : ∀ (Cs : List (List Value)) (i f : Nat) (v : Value) (hi : i < Cs.length), (∀ c ∈ Cs, c.length = 6) → f < 6 → Cs.flatten.set (i * 6 + f) v = (Cs.set i (Cs[i].set f v)).flatten
  | [], _, _, _, hi, _, _ => by simp at hi
  | c :: r, 0, f, v, _, h, hf => by
    rw [List.flatten_cons, List.set_append_left _ _ (by rw [h c List.mem_cons_self]; omega)]
    simp
  | c :: r, i + 1, f, v, hi, h, hf => by
    have h6 := h c List.mem_cons_self
    rw [List.flatten_cons, List.set_append_right _ _ (by rw [h6]; omega), h6, show (i + 1) * 6 + f - 6 = i * 6 + f from by omega]
    rw [flat6_set r i f v (by simpa using hi) (fun x hx => h x (List.mem_cons_of_mem _ hx)) hf]
    simp

/-- a node's six cells in the document's tree -/
def cellsR (d : ND) (aa : Option Addr) (ac : Nat) : List Value := [.bool d.elem, .int .i64 d.space, .string d.name, .slice aa d.attrs.length ac, .string d.text, .int .i64 d.parent]
def RNode (F : Nat → Prop) (w : World) (cs : List Value) (d : ND) : Prop :=
  ∃ aa ac, cs = cellsR d aa ac ∧ d.attrs.length ≤ ac ∧ ac ≤ maxLen ∧ (aa = none → ac = 0) ∧ AtF F w aa (pairsV d.attrs)
def RKids (F : Nat → Prop) (w : World) (v : Value) (l : List Int) : Prop :=
  ∃ ka kc, v = .slice ka l.length kc ∧ l.length ≤ kc ∧ kc ≤ maxLen ∧ RowForm ka kc ∧ AtF F w ka (intsV l)
theorem RNode.kept {F : Nat → Prop} {w w' : World} {cs : List Value} {d : ND} (h : RNode F w cs d) (hk : Keeps F w w') : RNode F w' cs d := by
  obtain ⟨aa, ac, h1, h2, h3, h4, h5⟩ := h
  exact ⟨aa, ac, h1, h2, h3, h4, h5.kept hk⟩
theorem RNode.other {F G : Nat → Prop} {w : World} {cs : List Value} {d : ND} (h : RNode F w cs d) (hFG : ∀ b, b < w.heap.size → G b → F b) : RNode G w cs d := by
  obtain ⟨aa, ac, h1, h2, h3, h4, h5⟩ := h
  exact ⟨aa, ac, h1, h2, h3, h4, h5.other hFG⟩
theorem RNode.len {F : Nat → Prop} {w : World} {cs : List Value} {d : ND} (h : RNode F w cs d) : cs.length = 6 := by
  obtain ⟨aa, ac, rfl, _⟩ := h
  rfl
theorem RKids.kept {F : Nat → Prop} {w w' : World} {v : Value} {l : List Int} (h : RKids F w v l) (hk : Keeps F w w') : RKids F w' v l := by
  obtain ⟨ka, kc, h1, h2, h3, h4, h5⟩ := h
  exact ⟨ka, kc, h1, h2, h3, h4, h5.kept hk⟩
theorem RKids.other {F G : Nat → Prop} {w : World} {v : Value} {l : List Int} (h : RKids F w v l) (hFG : ∀ b, b < w.heap.size → G b → F b) : RKids G w v l := by
  obtain ⟨ka, kc, h1, h2, h3, h4, h5⟩ := h
  exact ⟨ka, kc, h1, h2, h3, h4, h5.other hFG⟩

/-- the blocks of the document's tree that are written -/
def Three (rb gn gk : Nat) : Nat → Prop := fun k => k = rb ∨ k = gn ∨ k = gk
def DatR (far : Nat → Prop) (rb gn gk : Nat) : Nat → Prop := fun k => Three rb gn gk k ∨ far k

/-- the document's tree behind the pointer to block rb -/
structure RefAt (tT tN tK : TypeId) (w : World) (rb gn gk : Nat) (T : TreeD) (capn capk : Nat) (Ns : List (List Value)) (Ks : List Value) : Prop where
  n1 : rb ≠ gn
  n2 : rb ≠ gk
  n3 : gn ≠ gk
  head : w.heap[rb]? = some (.cells #[.slice (some ⟨gn, 0, none⟩) T.nodes.length capn, .slice (some ⟨gk, 0, none⟩) T.nodes.length capk, .int .i64 T.most] tT (0, 0))
  ownN : w.ownsRow 0 tN 6 (.slice (some ⟨gn, 0, none⟩) T.nodes.length capn) T.nodes.length Ns.flatten
  ownK : w.ownsRow 0 tK 1 (.slice (some ⟨gk, 0, none⟩) T.nodes.length capk) T.nodes.length Ks
  lenN : Ns.length = T.nodes.length
  nodes : ∀ i (h : i < Ns.length) (h' : i < T.nodes.length), RNode (DatR T.far rb gn gk) w Ns[i] T.nodes[i]
  kids : ∀ i (h : i < Ks.length) (h' : i < T.nodes.length), RKids (DatR T.far rb gn gk) w Ks[i] T.nodes[i].kids
  avoid : ∀ k, T.far k → k < w.heap.size ∧ ¬ Three rb gn gk k

section
variable {tT tN tK : TypeId} {w w' : World} {rb gn gk capn capk : Nat} {T : TreeD} {Ns : List (List Value)} {Ks : List Value}
theorem RefAt.lenK (h : RefAt tT tN tK w rb gn gk T capn capk Ns Ks) : Ks.length = T.nodes.length := by simpa using h.ownK.1
theorem RefAt.lt (h : RefAt tT tN tK w rb gn gk T capn capk Ns Ks) : rb < w.heap.size ∧ gn < w.heap.size ∧ gk < w.heap.size := ⟨row_lt h.head, (h.ownN.lt gn rfl).2, (h.ownK.lt gk rfl).2⟩
theorem RefAt.len6 (h : RefAt tT tN tK w rb gn gk T capn capk Ns Ks) : ∀ c ∈ Ns, c.length = 6 := by
  intro c hc
  obtain ⟨i, hi, rfl⟩ := List.getElem_of_mem hc
  exact (h.nodes i hi (by rw [← h.lenN]; exact hi)).len
theorem RefAt.caps (h : RefAt tT tN tK w rb gn gk T capn capk Ns Ks) : T.nodes.length ≤ capn ∧ capn ≤ maxLen ∧ T.nodes.length ≤ capk ∧ capk ≤ maxLen := by
  obtain ⟨_, _, hv, h1, h2, _⟩ := own_at h.ownN
  obtain ⟨_, _, hv', h3, h4, _⟩ := own_at h.ownK
  simp only [Value.slice.injEq] at hv hv'
  obtain ⟨_, _, rfl⟩ := hv
  obtain ⟨_, _, rfl⟩ := hv'
  exact ⟨h1, h2, h3, h4⟩
/-- a call on something else, and new blocks that are to be avoided from now on -/
theorem RefAt.foreign {F far' : Nat → Prop} (h : RefAt tT tN tK w rb gn gk T capn capk Ns Ks) (hk : Keeps F w w') (hF : ∀ k, F k → T.far k) (hf : ∀ k, far' k → (T.far k ∨ w.heap.size ≤ k) ∧ k < w'.heap.size) :
    RefAt tT tN tK w' rb gn gk { T with far := far' } capn capk Ns Ks := by
  obtain ⟨l1, l2, l3⟩ := h.lt
  have hFt : ∀ k, F k → ¬ Three rb gn gk k := fun k hk => (h.avoid k (hF k hk)).2
  have hkm : Keeps (fun k => DatR T.far rb gn gk k ∨ DatR far' rb gn gk k) w w' := hk.mono fun k _ h => .inl (.inr (hF k h))
  have hoth : ∀ b, b < w.heap.size → (DatR T.far rb gn gk b ∨ DatR far' rb gn gk b) → DatR T.far rb gn gk b := fun b hb hh => by
    rcases hh with hh | hh | hh
    · exact hh
    · exact .inl hh
    · rcases (hf b hh).1 with h | h
      · exact .inr h
      · omega
  refine ⟨h.n1, h.n2, h.n3, (hk.block rb l1 fun e => hFt rb e (.inl rfl)).trans h.head, ?_, ?_, h.lenN, ?_, ?_, ?_⟩
  · refine own_kept h.ownN fun k hk' => ?_
    simp only [Value.ownBlock, Option.some.injEq] at hk'
    subst hk'
    exact hk.block gn l2 fun e => hFt gn e (.inr (.inl rfl))
  · refine own_kept h.ownK fun k hk' => ?_
    simp only [Value.ownBlock, Option.some.injEq] at hk'
    subst hk'
    exact hk.block gk l3 fun e => hFt gk e (.inr (.inr rfl))
  · intro i h1 h2
    exact (((h.nodes i h1 h2).other hoth).kept hkm).other fun b _ hh => .inr hh
  · intro i h1 h2
    exact (((h.kids i h1 h2).other hoth).kept hkm).other fun b _ hh => .inr hh
  · intro k hk'
    obtain ⟨h1, h2⟩ := hf k hk'
    refine ⟨h2, ?_⟩
    rcases h1 with h1 | h1
    · exact (h.avoid k h1).2
    · rintro (e | e | e) <;> omega
theorem RefAt.below (h : RefAt tT tN tK w rb gn gk T capn capk Ns Ks) (hb : Below w.heap.size w w') : RefAt tT tN tK w' rb gn gk T capn capk Ns Ks :=
  h.foreign (F := fun _ => False) (far' := T.far) (Keeps.ofBelow hb) (fun _ h => h.elim) fun k hk => ⟨.inl hk, Nat.lt_of_lt_of_le (h.avoid k hk).1 hb.size⟩

/-- a node's cells -/
theorem RefAt.node (h : RefAt tT tN tK w rb gn gk T capn capk Ns Ks) {i : Nat} (hi : i < T.nodes.length) :
    ∃ aa ac, T.nodes[i].attrs.length ≤ ac ∧ ac ≤ maxLen ∧ (aa = none → ac = 0) ∧ AtF (DatR T.far rb gn gk) w aa (pairsV T.nodes[i].attrs) ∧
      (∀ f v, (cellsR T.nodes[i] aa ac)[f]? = some v → w.cell? ⟨gn, i * 6 + f, none⟩ = some v) ∧ ∀ j, w.frozen? ⟨gn, j, none⟩ = false := by
  obtain ⟨aa, ac, h1, h2, h3, h4, h5⟩ := h.nodes i (by rw [h.lenN]; exact hi) hi
  refine ⟨aa, ac, h2, h3, h4, h5, ?_, h.ownN.frozenAt⟩
  intro f v hf
  have hf6 : f < 6 := by
    have := (List.getElem?_eq_some_iff.1 hf).1
    simpa [cellsR] using this
  refine (own_row h.ownN).cell ?_
  rw [flat6_get Ns i f (by rw [h.lenN]; exact hi) h.len6 hf6, h1]
  exact hf
/-- a node's kids -/
theorem RefAt.kid (h : RefAt tT tN tK w rb gn gk T capn capk Ns Ks) {i : Nat} (hi : i < T.nodes.length) :
    ∃ ka kc, T.nodes[i].kids.length ≤ kc ∧ kc ≤ maxLen ∧ RowForm ka kc ∧ AtF (DatR T.far rb gn gk) w ka (intsV T.nodes[i].kids) ∧ w.cell? ⟨gk, i, none⟩ = some (.slice ka T.nodes[i].kids.length kc) ∧ ∀ j, w.frozen? ⟨gk, j, none⟩ = false := by
  have hik : i < Ks.length := by rw [h.lenK]; exact hi
  obtain ⟨ka, kc, h1, h2, h3, h4, h5⟩ := h.kids i hik hi
  refine ⟨ka, kc, h2, h3, h4, h5, ?_, h.ownK.frozenAt⟩
  refine (own_row h.ownK).cell ?_
  rw [List.getElem?_eq_getElem hik, h1]
/-- one cell of a node is written -/
theorem RefAt.writeN (h : RefAt tT tN tK w rb gn gk T capn capk Ns Ks) {i : Nat} (hi : i < T.nodes.length) (f : Nat) (hf : f < 6) (v : Value) (d : ND) (hkd : d.kids = T.nodes[i].kids)
    (hd : ∀ cs, RNode (DatR T.far rb gn gk) w cs T.nodes[i] → RNode (DatR T.far rb gn gk) w (cs.set f v) d) :
    ∃ Ns', RefAt tT tN tK (w.setCell ⟨gn, i * 6 + f, none⟩ v) rb gn gk { T with nodes := T.nodes.set i d } capn capk Ns' Ks := by
  have hin : i < Ns.length := by rw [h.lenN]; exact hi
  have hk : Keeps (DatR T.far rb gn gk) w (w.setCell ⟨gn, i * 6 + f, none⟩ v) := (Keeps.refl _ _).set (.inl (.inl (.inr (.inl rfl)))) v
  refine ⟨Ns.set i (Ns[i].set f v), h.n1, h.n2, h.n3, ?_, ?_, ?_, by simpa using h.lenN, ?_, ?_, fun k hk => ⟨by rw [World.size_setCell]; exact (h.avoid k hk).1, (h.avoid k hk).2⟩⟩
  · rw [heap_setCell_other _ _ _ _ h.n1]; simpa using h.head
  · rw [← flat6_set Ns i f v hin h.len6 hf]
    simpa using (h.ownN.stored (i * 6 + f) v).1
  · have : (w.setCell ⟨gn, i * 6 + f, none⟩ v).ownsRow 0 tK 1 (.slice (some ⟨gk, 0, none⟩) T.nodes.length capk) T.nodes.length Ks := own_kept h.ownK fun k hk' => by
      simp only [Value.ownBlock, Option.some.injEq] at hk'
      subst hk'
      exact heap_setCell_other _ _ _ _ (Ne.symm h.n3)
    simpa using this
  · intro j hj hj'
    simp only [List.length_set] at hj hj'
    simp only [List.getElem_set]
    split
    · rename_i e
      subst e
      exact (hd _ (h.nodes i hj hj')).kept hk
    · exact (h.nodes j hj hj').kept hk
  · intro j hj hj'
    simp only [List.length_set] at hj'
    simp only [List.getElem_set]
    split
    · rename_i e
      subst e
      rw [hkd]
      exact (h.kids i hj hj').kept hk
    · exact (h.kids j hj hj').kept hk
/-- a node's kids are written -/
theorem RefAt.writeK (h : RefAt tT tN tK w rb gn gk T capn capk Ns Ks) {i : Nat} (hi : i < T.nodes.length) (v : Value) (l : List Int) (hv : RKids (DatR T.far rb gn gk) w v l) :
    RefAt tT tN tK (w.setCell ⟨gk, i, none⟩ v) rb gn gk { T with nodes := T.nodes.set i { T.nodes[i] with kids := l } } capn capk Ns (Ks.set i v) := by
  have hk : Keeps (DatR T.far rb gn gk) w (w.setCell ⟨gk, i, none⟩ v) := (Keeps.refl _ _).set (.inl (.inl (.inr (.inr rfl)))) v
  refine ⟨h.n1, h.n2, h.n3, ?_, ?_, ?_, by simpa using h.lenN, ?_, ?_, fun k hk => ⟨by rw [World.size_setCell]; exact (h.avoid k hk).1, (h.avoid k hk).2⟩⟩
  · rw [heap_setCell_other _ _ _ _ h.n2]; simpa using h.head
  · have : (w.setCell ⟨gk, i, none⟩ v).ownsRow 0 tN 6 (.slice (some ⟨gn, 0, none⟩) T.nodes.length capn) T.nodes.length Ns.flatten := own_kept h.ownN fun k hk' => by
      simp only [Value.ownBlock, Option.some.injEq] at hk'
      subst hk'
      exact heap_setCell_other _ _ _ _ h.n3
    simpa using this
  · simpa using (h.ownK.stored i v).1
  · intro j hj hj'
    simp only [List.length_set] at hj'
    simp only [List.getElem_set]
    split
    · rename_i e
      subst e
      obtain ⟨aa, ac, h1, h2, h3, h4, h5⟩ := (h.nodes i hj hj').kept hk
      exact ⟨aa, ac, h1, h2, h3, h4, h5⟩
    · exact (h.nodes j hj hj').kept hk
  · intro j hj hj'
    simp only [List.length_set] at hj hj'
    simp only [List.getElem_set]
    split
    · exact hv.kept hk
    · exact (h.kids j hj hj').kept hk
end
end Go.Proofs.Ytidbihdnginmcaa.Mem
