import Derived.Test.YtclflmjpdglgiaaGreatTreeAll
import Derived.Test.YtclflmjpdglgiaaGreatOpenIK
import Derived.Test.YtclflmjpdglgiaaGreatOpenABC
import Derived.Test.YtclflmjpdglgiaaGreatOpenLV
import Derived.Deep.RegionLaw
/-
  Plain lemmas on the memory of the model: the document's tree: its nodes in a row of six cells each, its kids in a row of slices; beside another tree. No conditions beyond those that each lemma types.
-/
namespace Go.Proofs.YtclflmjpdglgiaaGreat.Mem
open Go Go.RowKit

theorem flat6_set : ∀ (Cs : List (List Value)) (i f : Nat) (v : Value) (hi : i < Cs.length), (∀ c ∈ Cs, c.length = 6) → f < 6 → Cs.flatten.set (i * 6 + f) v = (Cs.set i (Cs[i].set f v)).flatten
  | [], _, _, _, hi, _, _ => by simp at hi
  | c :: r, 0, f, v, _, h, hf => by
    rw [List.flatten_cons, List.set_append_left _ _ (by rw [h c List.mem_cons_self]; omega)]
    simp
  | c :: r, i + 1, f, v, hi, h, hf => by
    have h6 := h c List.mem_cons_self
    rw [List.flatten_cons, List.set_append_right _ _ (by rw [h6]; omega), h6, show (i + 1) * 6 + f - 6 = i * 6 + f from by omega]
    rw [flat6_set r i f v (by simpa using hi) (fun x hx => h x (List.mem_cons_of_mem _ hx)) hf]
    simp

/-- a node's six cells in the document's tree -/
def cellsR (d : ND) (aa : Option Addr) (ac : Nat) : List Value := [.bool d.elem, .int .i64 d.space, .string d.name, .slice aa d.attrs.length ac, .string d.text, .int .i64 d.parent]
def RNode (F : Nat → Prop) (w : World) (cs : List Value) (d : ND) : Prop :=
  ∃ aa ac, cs = cellsR d aa ac ∧ d.attrs.length ≤ ac ∧ ac ≤ maxLen ∧ (aa = none → ac = 0) ∧ AtF F w aa (pairsV d.attrs)
def RKids (F : Nat → Prop) (w : World) (v : Value) (l : List Int) : Prop :=
  ∃ ka kc, v = .slice ka l.length kc ∧ l.length ≤ kc ∧ kc ≤ maxLen ∧ RowForm ka kc ∧ AtF F w ka (intsV l)
theorem RNode.kept {F : Nat → Prop} {w w' : World} {cs : List Value} {d : ND} (h : RNode F w cs d) (hk : Keeps F w w') : RNode F w' cs d := by
  obtain ⟨aa, ac, h1, h2, h3, h4, h5⟩ := h
  exact ⟨aa, ac, h1, h2, h3, h4, h5.kept hk⟩
theorem RNode.other {F G : Nat → Prop} {w : World} {cs : List Value} {d : ND} (h : RNode F w cs d) (hFG : ∀ b, b < w.heap.size → G b → F b) : RNode G w cs d := by
  obtain ⟨aa, ac, h1, h2, h3, h4, h5⟩ := h
  exact ⟨aa, ac, h1, h2, h3, h4, h5.other hFG⟩
theorem RNode.len {F : Nat → Prop} {w : World} {cs : List Value} {d : ND} (h : RNode F w cs d) : cs.length = 6 := by
  obtain ⟨aa, ac, rfl, _⟩ := h
  rfl
theorem RKids.kept {F : Nat → Prop} {w w' : World} {v : Value} {l : List Int} (h : RKids F w v l) (hk : Keeps F w w') : RKids F w' v l := by
  obtain ⟨ka, kc, h1, h2, h3, h4, h5⟩ := h
  exact ⟨ka, kc, h1, h2, h3, h4, h5.kept hk⟩
theorem RKids.other {F G : Nat → Prop} {w : World} {v : Value} {l : List Int} (h : RKids F w v l) (hFG : ∀ b, b < w.heap.size → G b → F b) : RKids G w v l := by
  obtain ⟨ka, kc, h1, h2, h3, h4, h5⟩ := h
  exact ⟨ka, kc, h1, h2, h3, h4, h5.other hFG⟩

/-- the blocks of the document's tree that are written -/
def Three (rb gn gk : Nat) : Nat → Prop := fun k => k = rb ∨ k = gn ∨ k = gk
def DatR (far : Nat → Prop) (rb gn gk : Nat) : Nat → Prop := fun k => Three rb gn gk k ∨ far k

/-- the document's tree behind the pointer to block rb -/
structure RefAt (tT tN tK : TypeId) (w : World) (rb gn gk : Nat) (T : TreeD) (capn capk : Nat) (Ns : List (List Value)) (Ks : List Value) : Prop where
  n1 : rb ≠ gn
  n2 : rb ≠ gk
  n3 : gn ≠ gk
  head : w.heap[rb]? = some (.cells #[.slice (some ⟨gn, 0, none⟩) T.nodes.length capn, .slice (some ⟨gk, 0, none⟩) T.nodes.length capk, .int .i64 T.most] tT (0, 0))
  ownN : w.ownsRow 0 tN 6 (.slice (some ⟨gn, 0, none⟩) T.nodes.length capn) T.nodes.length Ns.flatten
  ownK : w.ownsRow 0 tK 1 (.slice (some ⟨gk, 0, none⟩) T.nodes.length capk) T.nodes.length Ks
  lenN : Ns.length = T.nodes.length
  nodes : ∀ i (h : i < Ns.length) (h' : i < T.nodes.length), RNode (DatR T.far rb gn gk) w Ns[i] T.nodes[i]
  kids : ∀ i (h : i < Ks.length) (h' : i < T.nodes.length), RKids (DatR T.far rb gn gk) w Ks[i] T.nodes[i].kids
  avoid : ∀ k, T.far k → k < w.heap.size ∧ ¬ Three rb gn gk k

section
variable {tT tN tK : TypeId} {w w' : World} {rb gn gk capn capk : Nat} {T : TreeD} {Ns : List (List Value)} {Ks : List Value}
theorem RefAt.lenK (h : RefAt tT tN tK w rb gn gk T capn capk Ns Ks) : Ks.length = T.nodes.length := by simpa using h.ownK.1
theorem RefAt.lt (h : RefAt tT tN tK w rb gn gk T capn capk Ns Ks) : rb < w.heap.size ∧ gn < w.heap.size ∧ gk < w.heap.size := ⟨row_lt h.head, (h.ownN.lt gn rfl).2, (h.ownK.lt gk rfl).2⟩
theorem RefAt.len6 (h : RefAt tT tN tK w rb gn gk T capn capk Ns Ks) : ∀ c ∈ Ns, c.length = 6 := by
  intro c hc
  obtain ⟨i, hi, rfl⟩ := List.getElem_of_mem hc
  exact (h.nodes i hi (by rw [← h.lenN]; exact hi)).len
theorem RefAt.caps (h : RefAt tT tN tK w rb gn gk T capn capk Ns Ks) : T.nodes.length ≤ capn ∧ capn ≤ maxLen ∧ T.nodes.length ≤ capk ∧ capk ≤ maxLen := by
  obtain ⟨_, _, hv, h1, h2, _⟩ := own_at h.ownN
  obtain ⟨_, _, hv', h3, h4, _⟩ := own_at h.ownK
  simp only [Value.slice.injEq] at hv hv'
  obtain ⟨_, _, rfl⟩ := hv
  obtain ⟨_, _, rfl⟩ := hv'
  exact ⟨h1, h2, h3, h4⟩
/-- a call on something else, and new blocks that are to be avoided from now on -/
theorem RefAt.foreign {F far' : Nat → Prop} (h : RefAt tT tN tK w rb gn gk T capn capk Ns Ks) (hk : Keeps F w w') (hF : ∀ k, F k → T.far k) (hf : ∀ k, far' k → (T.far k ∨ w.heap.size ≤ k) ∧ k < w'.heap.size) :
    RefAt tT tN tK w' rb gn gk { T with far := far' } capn capk Ns Ks := by
  obtain ⟨l1, l2, l3⟩ := h.lt
  have hFt : ∀ k, F k → ¬ Three rb gn gk k := fun k hk => (h.avoid k (hF k hk)).2
  have hkm : Keeps (fun k => DatR T.far rb gn gk k ∨ DatR far' rb gn gk k) w w' := hk.mono fun k _ h => .inl (.inr (hF k h))
  have hoth : ∀ b, b < w.heap.size → (DatR T.far rb gn gk b ∨ DatR far' rb gn gk b) → DatR T.far rb gn gk b := fun b hb hh => by
    rcases hh with hh | hh | hh
    · exact hh
    · exact .inl hh
    · rcases (hf b hh).1 with h | h
      · exact .inr h
      · omega
  refine ⟨h.n1, h.n2, h.n3, (hk.block rb l1 fun e => hFt rb e (.inl rfl)).trans h.head, ?_, ?_, h.lenN, ?_, ?_, ?_⟩
  · refine own_kept h.ownN fun k hk' => ?_
    simp only [Value.ownBlock, Option.some.injEq] at hk'
    subst hk'
    exact hk.block gn l2 fun e => hFt gn e (.inr (.inl rfl))
  · refine own_kept h.ownK fun k hk' => ?_
    simp only [Value.ownBlock, Option.some.injEq] at hk'
    subst hk'
    exact hk.block gk l3 fun e => hFt gk e (.inr (.inr rfl))
  · intro i h1 h2
    exact (((h.nodes i h1 h2).other hoth).kept hkm).other fun b _ hh => .inr hh
  · intro i h1 h2
    exact (((h.kids i h1 h2).other hoth).kept hkm).other fun b _ hh => .inr hh
  · intro k hk'
    obtain ⟨h1, h2⟩ := hf k hk'
    refine ⟨h2, ?_⟩
    rcases h1 with h1 | h1
    · exact (h.avoid k h1).2
    · rintro (e | e | e) <;> omega
theorem RefAt.below (h : RefAt tT tN tK w rb gn gk T capn capk Ns Ks) (hb : Below w.heap.size w w') : RefAt tT tN tK w' rb gn gk T capn capk Ns Ks :=
  h.foreign (F := fun _ => False) (far' := T.far) (Keeps.ofBelow hb) (fun _ h => h.elim) fun k hk => ⟨.inl hk, Nat.lt_of_lt_of_le (h.avoid k hk).1 hb.size⟩

/-- a node's cells -/
theorem RefAt.node (h : RefAt tT tN tK w rb gn gk T capn capk Ns Ks) {i : Nat} (hi : i < T.nodes.length) :
    ∃ aa ac, T.nodes[i].attrs.length ≤ ac ∧ ac ≤ maxLen ∧ (aa = none → ac = 0) ∧ AtF (DatR T.far rb gn gk) w aa (pairsV T.nodes[i].attrs) ∧
      (∀ f v, (cellsR T.nodes[i] aa ac)[f]? = some v → w.cell? ⟨gn, i * 6 + f, none⟩ = some v) ∧ ∀ j, w.frozen? ⟨gn, j, none⟩ = false := by
  obtain ⟨aa, ac, h1, h2, h3, h4, h5⟩ := h.nodes i (by rw [h.lenN]; exact hi) hi
  refine ⟨aa, ac, h2, h3, h4, h5, ?_, h.ownN.frozenAt⟩
  intro f v hf
  have hf6 : f < 6 := by
    have := (List.getElem?_eq_some_iff.1 hf).1
    simpa [cellsR] using this
  refine (own_row h.ownN).cell ?_
  rw [flat6_get Ns i f (by rw [h.lenN]; exact hi) h.len6 hf6, h1]
  exact hf
/-- a node's kids -/
theorem RefAt.kid (h : RefAt tT tN tK w rb gn gk T capn capk Ns Ks) {i : Nat} (hi : i < T.nodes.length) :
    ∃ ka kc, T.nodes[i].kids.length ≤ kc ∧ kc ≤ maxLen ∧ RowForm ka kc ∧ AtF (DatR T.far rb gn gk) w ka (intsV T.nodes[i].kids) ∧ w.cell? ⟨gk, i, none⟩ = some (.slice ka T.nodes[i].kids.length kc) ∧ ∀ j, w.frozen? ⟨gk, j, none⟩ = false := by
  have hik : i < Ks.length := by rw [h.lenK]; exact hi
  obtain ⟨ka, kc, h1, h2, h3, h4, h5⟩ := h.kids i hik hi
  refine ⟨ka, kc, h2, h3, h4, h5, ?_, h.ownK.frozenAt⟩
  refine (own_row h.ownK).cell ?_
  rw [List.getElem?_eq_getElem hik, h1]
/-- one cell of a node is written -/
theorem RefAt.writeN (h : RefAt tT tN tK w rb gn gk T capn capk Ns Ks) {i : Nat} (hi : i < T.nodes.length) (f : Nat) (hf : f < 6) (v : Value) (d : ND) (hkd : d.kids = T.nodes[i].kids)
    (hd : ∀ cs, RNode (DatR T.far rb gn gk) w cs T.nodes[i] → RNode (DatR T.far rb gn gk) w (cs.set f v) d) :
    ∃ Ns', RefAt tT tN tK (w.setCell ⟨gn, i * 6 + f, none⟩ v) rb gn gk { T with nodes := T.nodes.set i d } capn capk Ns' Ks := by
  have hin : i < Ns.length := by rw [h.lenN]; exact hi
  have hk : Keeps (DatR T.far rb gn gk) w (w.setCell ⟨gn, i * 6 + f, none⟩ v) := (Keeps.refl _ _).set (.inl (.inl (.inr (.inl rfl)))) v
  refine ⟨Ns.set i (Ns[i].set f v), h.n1, h.n2, h.n3, ?_, ?_, ?_, by simpa using h.lenN, ?_, ?_, fun k hk => ⟨by rw [World.size_setCell]; exact (h.avoid k hk).1, (h.avoid k hk).2⟩⟩
  · rw [heap_setCell_other _ _ _ _ h.n1]; simpa using h.head
  · rw [← flat6_set Ns i f v hin h.len6 hf]
    simpa using (h.ownN.stored (i * 6 + f) v).1
  · have : (w.setCell ⟨gn, i * 6 + f, none⟩ v).ownsRow 0 tK 1 (.slice (some ⟨gk, 0, none⟩) T.nodes.length capk) T.nodes.length Ks := own_kept h.ownK fun k hk' => by
      simp only [Value.ownBlock, Option.some.injEq] at hk'
      subst hk'
      exact heap_setCell_other _ _ _ _ (Ne.symm h.n3)
    simpa using this
  · intro j hj hj'
    simp only [List.length_set] at hj hj'
    simp only [List.getElem_set]
    split
    · rename_i e
      subst e
      exact (hd _ (h.nodes i hj hj')).kept hk
    · exact (h.nodes j hj hj').kept hk
  · intro j hj hj'
    simp only [List.length_set] at hj'
    simp only [List.getElem_set]
    split
    · rename_i e
      subst e
      rw [hkd]
      exact (h.kids i hj hj').kept hk
    · exact (h.kids j hj hj').kept hk
/-- a node's kids are written -/
theorem RefAt.writeK (h : RefAt tT tN tK w rb gn gk T capn capk Ns Ks) {i : Nat} (hi : i < T.nodes.length) (v : Value) (l : List Int) (hv : RKids (DatR T.far rb gn gk) w v l) :
    RefAt tT tN tK (w.setCell ⟨gk, i, none⟩ v) rb gn gk { T with nodes := T.nodes.set i { T.nodes[i] with kids := l } } capn capk Ns (Ks.set i v) := by
  have hk : Keeps (DatR T.far rb gn gk) w (w.setCell ⟨gk, i, none⟩ v) := (Keeps.refl _ _).set (.inl (.inl (.inr (.inr rfl)))) v
  refine ⟨h.n1, h.n2, h.n3, ?_, ?_, ?_, by simpa using h.lenN, ?_, ?_, fun k hk => ⟨by rw [World.size_setCell]; exact (h.avoid k hk).1, (h.avoid k hk).2⟩⟩
  · rw [heap_setCell_other _ _ _ _ h.n2]; simpa using h.head
  · have : (w.setCell ⟨gk, i, none⟩ v).ownsRow 0 tN 6 (.slice (some ⟨gn, 0, none⟩) T.nodes.length capn) T.nodes.length Ns.flatten := own_kept h.ownN fun k hk' => by
      simp only [Value.ownBlock, Option.some.injEq] at hk'
      subst hk'
      exact heap_setCell_other _ _ _ _ h.n3
    simpa using this
  · simpa using (h.ownK.stored i v).1
  · intro j hj hj'
    simp only [List.length_set] at hj'
    simp only [List.getElem_set]
    split
    · rename_i e
      subst e
      obtain ⟨aa, ac, h1, h2, h3, h4, h5⟩ := (h.nodes i hj hj').kept hk
      exact ⟨aa, ac, h1, h2, h3, h4, h5⟩
    · exact (h.nodes j hj hj').kept hk
  · intro j hj hj'
    simp only [List.length_set] at hj hj'
    simp only [List.getElem_set]
    split
    · exact hv.kept hk
    · exact (h.kids j hj hj').kept hk
end
end Go.Proofs.YtclflmjpdglgiaaGreat.Mem

/-
  Contracts: what only reads the document's tree: (*colanderref14.Tree).Len, IsElem, at: what each computes; the world stays.
-/
namespace Go.Proofs.YtclflmjpdglgiaaGreat
open Go.RowKit Mem

def RefO (w : World) (rb gn gk : Nat) (T : TreeD) : Prop := ∃ capn capk Ns Ks, RefAt 92 88 30 w rb gn gk T capn capk Ns Ks
theorem RefO.below {w w' : World} {rb gn gk : Nat} {T : TreeD} (h : RefO w rb gn gk T) (hb : Below w.heap.size w w') : RefO w' rb gn gk T := by
  obtain ⟨a, b, c, d, h⟩ := h
  exact ⟨a, b, c, d, h.below hb⟩
/-- its three cells -/
theorem RefO.head {w : World} {rb gn gk : Nat} {T : TreeD} (h : RefO w rb gn gk T) : ∃ capn capk, T.nodes.length ≤ capn ∧ capn ≤ maxLen ∧ T.nodes.length ≤ capk ∧ capk ≤ maxLen ∧
    w.cell? ⟨rb, 0, none⟩ = some (.slice (some ⟨gn, 0, none⟩) T.nodes.length capn) ∧ w.cell? ⟨rb, 1, none⟩ = some (.slice (some ⟨gk, 0, none⟩) T.nodes.length capk) ∧ w.cell? ⟨rb, 2, none⟩ = some (.int .i64 T.most) ∧
    rb < w.heap.size ∧ gn < w.heap.size ∧ gk < w.heap.size := by
  obtain ⟨capn, capk, Ns, Ks, h⟩ := h
  obtain ⟨h1, h2, h3, h4⟩ := h.caps
  have e0 := cell_of_row w rb 0 _ _ _ h.head
  have e1 := cell_of_row w rb 1 _ _ _ h.head
  have e2 := cell_of_row w rb 2 _ _ _ h.head
  exact ⟨capn, capk, h1, h2, h3, h4, e0, e1, e2, h.lt⟩

section
variable (T : TreeD) (rb gn gk : Nat) (w : World)
theorem rlen_any (h : RefO w rb gn gk T) : Calls Tryz.prog 109 #[.pointer (some ⟨rb, 0, none⟩)] w fun e w' => e = .returned (.int .i64 ((T.nodes.length : Int) - 1)) ∧ w = w' := by
  obtain ⟨capn, capk, p1, p2, _, _, c0, _, _, _⟩ := h.head
  unfold maxLen at p2
  clear h
  go_enter Tryz.func109, Tryz.ntmps109
  go_wp2
  go_ret
  exact ⟨rfl, rfl⟩

theorem relem_any (n : Int) (h : RefO w rb gn gk T) : Calls Tryz.prog 97 #[.pointer (some ⟨rb, 0, none⟩), .int .i64 n] w fun e w' => e = .returned (.bool (elemF T n)) ∧ w = w' := by
  obtain ⟨capn, capk, p1, p2, _, _, c0, _, _, _⟩ := h.head
  unfold maxLen at p2
  by_cases hn : 1 ≤ n ∧ n < (T.nodes.length : Int)
  · obtain ⟨i, rfl⟩ := Int.eq_ofNat_of_zero_le (by omega : 0 ≤ n)
    have hlt : i < T.nodes.length := by omega
    have HP : Hid (elemF T i = T.nodes[i].elem) := by show _ = _; exact elemF_of T i (by omega) hlt
    obtain ⟨_, _, _, _, h'⟩ := h
    obtain ⟨aa, ac, _, _, _, _, hc, _⟩ := h'.node hlt
    have d0 := hc 0 _ rfl
    rw [Nat.add_zero] at d0
    have h1 : decide ((0 : Int) < (i : Int)) = true := decide_eq_true (by omega)
    have h2 : decide ((i : Int) < (T.nodes.length : Int)) = true := decide_eq_true (by omega)
    clear h' hc
    go_enter Tryz.func97, Tryz.ntmps97
    go_wp2_with fail
    go_ret
    exact ⟨ret_bool HP.out.symm, rfl⟩
  · have HP : Hid (elemF T n = false) := by
      show _ = _
      have : isF T n = false := by
        cases hi : isF T n
        · rfl
        · exact absurd (isF_lt hi) hn
      rw [elemF, this]; rfl
    clear h
    by_cases h0 : 0 < n
    · have h2 : ¬ (n < (T.nodes.length : Int)) := by omega
      go_enter Tryz.func97, Tryz.ntmps97
      go_wp2_with fail
      go_ret
      exact ⟨ret_bool HP.out.symm, rfl⟩
    · go_enter Tryz.func97, Tryz.ntmps97
      go_wp2_with fail
      go_ret
      exact ⟨ret_bool HP.out.symm, rfl⟩

theorem rat_any (parent : Nat) (before : Int) (hp : parent < T.nodes.length) (hpos : ∀ k ∈ kidsF T parent, 1 ≤ k) (h : RefO w rb gn gk T) :
    Calls Tryz.prog 98 #[.pointer (some ⟨rb, 0, none⟩), .int .i64 parent, .int .i64 before] w fun e w' => e = .returned (.int .i64 (placeF T parent before)) ∧ w = w' := by
  obtain ⟨capn, capk, _, _, p1, p2, _, c1, _, _⟩ := h.head
  obtain ⟨_, _, _, _, h'⟩ := h
  obtain ⟨ka, kc, hk1, hk2, _, hk, d, _⟩ := h'.kid hp
  have hl' := kidsF_of T parent hp
  obtain ⟨l, hl⟩ : ∃ l, l = T.nodes[parent].kids := ⟨_, rfl⟩
  rw [← hl] at d hk hk1 hl'
  rw [hl'] at hpos
  have HK := Lib.hid hk.at
  have HP : Hid (placeF T parent before = if before = 0 then (l.length : Int) else idxF l before 0) := by show _ = _; rw [placeF, hl']
  have HPos := Lib.hid hpos
  unfold maxLen at p2 hk2
  clear h' hk hl hl' hpos
  go_enter Tryz.func98, Tryz.ntmps98
  go_wp2_with fail
  go_loop [7] (fun i => ∃ k : Nat, k ≤ l.length ∧ i = .int .i64 k ∧ idxF l before 0 = idxF (l.drop k) before k) (fun i => l.length - (intOf i).toNat)
  case atStart => exact ⟨0, Nat.zero_le _, rfl, rfl⟩
  case round =>
    obtain ⟨k, hk, rfl, hv⟩ := hrel
    have HV := Lib.hid hv
    clear hv
    by_cases hlt : k < l.length
    · obtain ⟨b, o, rfl, e1⟩ := HK.out _ _ (intsV_get l k hlt)
      by_cases he : l[k] = before
      · have he' : (l[k] == before) = true := by simpa using he
        have HE := Lib.hid he
        clear he
        go_wp2_with fail
        go_ret
        refine ⟨ret_int ?_, rfl⟩
        have h1 := HPos.out l[k] (List.getElem_mem hlt)
        rw [HP.out, if_neg (by have := HE.out; omega), HV.out, idxF_hit l before k hlt HE.out]
      · have he' : (l[k] == before) = false := by simpa using he
        have HE := Lib.hid he
        clear he
        go_wp2_with fail
        go_round
        case rel => exact ⟨k + 1, by omega, by go_num, by rw [HV.out, idxF_step l before k hlt HE.out]; rfl⟩
        case measure => simp [intOf]; omega
    · by_cases h0 : before = 0
      · subst h0
        go_wp2_with fail
        go_ret
        exact ⟨ret_int (by rw [HP.out]; simp), rfl⟩
      · have h0' : (before == 0) = false := by simpa using h0
        have HN := Lib.hid h0
        clear h0
        go_wp2_with fail
        go_ret
        exact ⟨ret_int (by rw [HP.out, if_neg HN.out, HV.out, List.drop_of_length_le (by omega)]; rfl), rfl⟩
end
end Go.Proofs.YtclflmjpdglgiaaGreat

/-
  Contract: colanderref14.New: a tree of the root alone, in new blocks.
-/
namespace Go.Proofs.YtclflmjpdglgiaaGreat
open Go.RowKit Mem

theorem rNew_any (most : Int) (w : World) : Calls Tryz.prog 55 #[.int .i64 most] w fun e w' =>
    ∃ rb gn gk, e = .returned (.pointer (some ⟨rb, 0, none⟩)) ∧ RefO w' rb gn gk ⟨[rootN], most, noFar⟩ ∧ w.heap.size ≤ rb ∧ w.heap.size ≤ gn ∧ w.heap.size ≤ gk ∧ Below w.heap.size w w' := by
  go_enter Tryz.func55, Tryz.ntmps55
  go_wp2
  go_ret
  have hb1 := (Below.refl w.heap.size w).alloc (Nat.le_refl _) (.cells (cellsR rootN none 0).toArray 88)
  have hb2 := hb1.alloc (by simp) (.cells #[.slice none 0 0] 30)
  have hb3 := hb2.alloc (by simp; omega) (.cells #[.slice (some ⟨w.heap.size, 0, none⟩) 1 1, .slice (some ⟨w.heap.size + 1, 0, none⟩) 1 1, .int .i64 most] 92)
  refine ⟨w.heap.size + 1 + 1, w.heap.size, w.heap.size + 1, ret_eq (by simp), ⟨1, 1, [cellsR rootN none 0], [.slice none 0 0], ?_⟩, by omega, by omega, by omega, hb3⟩
  refine ⟨by omega, by omega, by omega, heap_new_at (by simp), ?_, ?_, rfl, ?_, ?_, fun k hk => False.elim hk⟩
  · refine own_below (own_below (w := w.alloc _) (World.ownsRow_lit w (cellsR rootN none 0).toArray 1 (Nat.zero_le _) (by decide) rfl) ((Below.refl _ _).alloc (Nat.le_refl _) _)) ((Below.refl _ _).alloc (Nat.le_refl _) _)
  · have := World.ownsRow_lit (base := 0) (e := 30) (size := 1) (w.alloc (.cells (cellsR rootN none 0).toArray 88)) #[.slice none 0 0] 1 (Nat.zero_le _) (by decide) rfl
    have h2 := own_below this ((Below.refl _ _).alloc (Nat.le_refl _) (.cells #[.slice (some ⟨w.heap.size, 0, none⟩) 1 1, .slice (some ⟨w.heap.size + 1, 0, none⟩) 1 1, .int .i64 most] 92))
    simpa [cellsR, rootN] using h2
  · intro i h h'
    simp at h
    subst h
    exact ⟨none, 0, rfl, Nat.le_refl _, by decide, fun _ => rfl, fun j u hj => by simp [rootN, pairsV] at hj⟩
  · intro i h h'
    simp at h
    subst h
    exact ⟨none, 0, rfl, Nat.le_refl _, by decide, .inl ⟨rfl, rfl⟩, fun j u hj => by simp [rootN, intsV] at hj⟩
end Go.Proofs.YtclflmjpdglgiaaGreat

/-
  Plain lemmas on the document's tree in memory: a node is added behind the others; and: no change of a tree changes what it avoids. No conditions beyond those that each lemma types.
-/
namespace Go.Proofs.YtclflmjpdglgiaaGreat
open Go.RowKit Mem

theorem ref_push {tT tN tK : TypeId} {w w' : World} {rb gn gk gn' gk' capn capk capn' capk' : Nat} {T : TreeD} {Ns : List (List Value)} {Ks : List Value} {cs : List Value} {d : ND} (h : RefAt tT tN tK w rb gn gk T capn capk Ns Ks) (hk : Keeps (Three rb gn gk) w w')
    (hg1 : gn' = gn ∨ w.heap.size ≤ gn') (hg2 : gk' = gk ∨ w.heap.size ≤ gk') (hne : gn' ≠ gk')
    (ho1 : w'.ownsRow 0 tN 6 (.slice (some ⟨gn', 0, none⟩) (T.nodes.length + 1) capn') (T.nodes.length + 1) (Ns.flatten ++ cs)) (ho2 : w'.ownsRow 0 tK 1 (.slice (some ⟨gk', 0, none⟩) (T.nodes.length + 1) capk') (T.nodes.length + 1) (Ks ++ [.slice none 0 0]))
    (hh : w'.heap[rb]? = some (.cells #[.slice (some ⟨gn', 0, none⟩) (T.nodes.length + 1) capn', .slice (some ⟨gk', 0, none⟩) (T.nodes.length + 1) capk', .int .i64 T.most] tT (0, 0)))
    (hd : RNode (DatR T.far rb gn' gk') w' cs d) (hdk : d.kids = []) : RefAt tT tN tK w' rb gn' gk' (addF T d) capn' capk' (Ns ++ [cs]) (Ks ++ [.slice none 0 0]) := by
  obtain ⟨l1, l2, l3⟩ := h.lt
  have hN : (addF T d).nodes.length = T.nodes.length + 1 := by simp [addF]
  have hkm : Keeps (fun k => DatR T.far rb gn gk k ∨ DatR T.far rb gn' gk' k) w w' := hk.mono fun k _ h => .inl (.inl h)
  have hoth : ∀ b, b < w.heap.size → (DatR T.far rb gn gk b ∨ DatR T.far rb gn' gk' b) → DatR T.far rb gn gk b := fun b hb hh => by
    rcases hh with hh | (hh | hh | hh) | hh
    · exact hh
    · exact .inl (.inl hh)
    · rcases hg1 with rfl | hg
      · exact .inl (.inr (.inl hh))
      · omega
    · rcases hg2 with rfl | hg
      · exact .inl (.inr (.inr hh))
      · omega
    · exact .inr hh
  have n1 := h.n1
  have n2 := h.n2
  refine ⟨?_, ?_, hne, ?_, ?_, ?_, ?_, ?_, ?_, ?_⟩
  · rcases hg1 with rfl | hg
    · exact n1
    · omega
  · rcases hg2 with rfl | hg
    · exact n2
    · omega
  · rw [hN]; exact hh
  · rw [hN, List.flatten_append]; simpa using ho1
  · rw [hN]; exact ho2
  · rw [hN]; simp [h.lenN]
  · intro i hi hi'
    by_cases hlt : i < Ns.length
    · have hT : i < T.nodes.length := by rw [← h.lenN]; exact hlt
      have e1 : (Ns ++ [cs])[i]'hi = Ns[i] := List.getElem_append_left hlt
      have e2 : (addF T d).nodes[i]'hi' = T.nodes[i]'hT := List.getElem_append_left hT
      rw [e1, e2]
      exact (((h.nodes i hlt hT).other hoth).kept hkm).other fun b _ hh => .inr hh
    · have he : i = Ns.length := by simp at hi; omega
      have hiT : i = T.nodes.length := he.trans h.lenN
      have e1 : (Ns ++ [cs])[i]'hi = cs := by simp [he]
      have e2 : (addF T d).nodes[i]'hi' = d := by simp [addF, hiT]
      rw [e1, e2]
      exact hd
  · intro i hi hi'
    have hlK := h.lenK
    by_cases hlt : i < Ks.length
    · have hT : i < T.nodes.length := by rw [← hlK]; exact hlt
      have e1 : (Ks ++ [Value.slice none 0 0])[i]'hi = Ks[i] := List.getElem_append_left hlt
      have e2 : (addF T d).nodes[i]'hi' = T.nodes[i]'hT := List.getElem_append_left hT
      rw [e1, e2]
      exact (((h.kids i hlt hT).other hoth).kept hkm).other fun b _ hh => .inr hh
    · have he : i = Ks.length := by simp at hi; omega
      have hiT : i = T.nodes.length := he.trans hlK
      have e1 : (Ks ++ [Value.slice none 0 0])[i]'hi = .slice none 0 0 := by simp [he]
      have e2 : (addF T d).nodes[i]'hi' = d := by simp [addF, hiT]
      rw [e1, e2, hdk]
      exact ⟨none, 0, rfl, Nat.le_refl _, Nat.zero_le _, .inl ⟨rfl, rfl⟩, fun j u hj => by simp [intsV] at hj⟩
  · intro k hk'
    obtain ⟨k1, k2⟩ := h.avoid k hk'
    refine ⟨Nat.lt_of_lt_of_le k1 hk.size, ?_⟩
    rintro (e | e | e)
    · exact k2 (.inl e)
    · rcases hg1 with rfl | hg
      · exact k2 (.inr (.inl e))
      · omega
    · rcases hg2 with rfl | hg
      · exact k2 (.inr (.inr e))
      · omega

theorem mkF_far (T : TreeD) (d : ND) : (mkF T d).1.far = T.far := by unfold mkF; split <;> rfl
theorem likeF_far (T : TreeD) (n : Int) : (likeF T n).1.far = T.far := by
  unfold likeF
  split
  · exact mkF_far _ _
  · rfl
theorem takeF_far (T : TreeD) (n : Int) : (takeF T n).far = T.far := by
  show (kidsOff T n).far = T.far
  unfold kidsOff
  split <;> rfl
theorem putE_far (T : TreeD) (a b n : Int) : (putE T a b n).1.far = T.far := by
  unfold putE
  split
  · exact takeF_far T n
  · rfl
theorem takeE_far (T : TreeD) (n : Int) : (takeE T n).1.far = T.far := by
  unfold takeE
  split
  · exact takeF_far T n
  · rfl
theorem textE_far (T : TreeD) (a b : Int) (s : ByteArray) : (textE T a b s).1.far = T.far := by
  unfold textE
  split
  · split
    · rfl
    · unfold textAt
      split
      · rfl
      · split <;> rfl
  · rfl
theorem moveF_far (b : Int) : ∀ (l : List Int) (T : TreeD), (moveF T b l).far = T.far
  | [], _ => rfl
  | x :: r, T => (moveF_far b r (putE T b 0 x).1).trans (putE_far T b 0 x)
theorem moveE_far (T : TreeD) (a b : Int) : (moveE T a b).1.far = T.far := by
  unfold moveE
  split
  · exact moveF_far b _ T
  · rfl
end Go.Proofs.YtclflmjpdglgiaaGreat

/-
  Contract: (*colanderref14.Tree).add: a node is added behind the others, where there may be more.
-/
namespace Go.Proofs.YtclflmjpdglgiaaGreat
open Go.RowKit Mem

theorem info_rnode : (Tryz.prog.info? 88).map (fun i => (i.zero, i.size, i.bytes)) = some (some (.agg #[.bool false, .int .i64 0, .string ⟨#[]⟩, .slice none 0 0, .string ⟨#[]⟩, .int .i64 0]), 6, 80) := by kernel_rfl
theorem info_ints : (Tryz.prog.info? 30).map (fun i => (i.zero, i.size, i.bytes)) = some (some (.slice none 0 0), 1, 24) := by kernel_rfl

theorem cells6r {w : World} {B : Nat} {v0 v1 v2 v3 v4 v5 : Value} {t : TypeId} (h : w.heap[B]? = some (.cells #[v0, v1, v2, v3, v4, v5] t (0, 0))) :
    (w.cell? ⟨B, 0, none⟩ = some v0 ∧ w.cell? ⟨B, 1, none⟩ = some v1 ∧ w.cell? ⟨B, 2, none⟩ = some v2 ∧ w.cell? ⟨B, 3, none⟩ = some v3 ∧ w.cell? ⟨B, 4, none⟩ = some v4 ∧ w.cell? ⟨B, 5, none⟩ = some v5) ∧ True := by
  simp only [cell_of_row w B _ _ _ _ h]
  exact ⟨⟨rfl, rfl, rfl, rfl, rfl, rfl⟩, trivial⟩

set_option maxRecDepth 100000 in
set_option maxHeartbeats 8000000 in
theorem radd_yes (T : TreeD) (rb gn gk : Nat) (w : World) (el : Bool) (sp : Int) (nm tx : ByteArray) (l : List Pair) (a : Option Addr) (c : Nat) (hc : a = none → c = 0) (hlc : l.length ≤ c) (hcm : c ≤ maxLen) (hn : T.nodes.length ≤ 1048576)
    (h : RefO w rb gn gk T) (ha : AtF (DatR T.far rb gn gk) w a (pairsV l)) (hm : (T.nodes.length : Int) - 1 < T.most) :
    Calls Tryz.prog 99 #[.pointer (some ⟨rb, 0, none⟩), .agg #[.bool el, .int .i64 sp, .string nm, .slice a l.length c, .string tx, .int .i64 (-1)]] w fun e w' =>
      ∃ gn' gk', Keeps (Three rb gn gk) w w' ∧ (gn' = gn ∨ w.heap.size ≤ gn') ∧ (gk' = gk ∨ w.heap.size ≤ gk') ∧ e = .returned (.tuple #[.int .i64 T.nodes.length, .int .i64 0]) ∧ RefO w' rb gn' gk' (addF T ⟨el, sp, nm, l, tx, -1, []⟩) := by
  obtain ⟨capn, capk, Ns, Ks, hr⟩ := h
  obtain ⟨p1, p2, p3, p4⟩ := hr.caps
  obtain ⟨t1, t2, t3⟩ := hr.lt
  have c0 := cell_of_row w rb 0 _ _ _ hr.head
  have c2 := cell_of_row w rb 2 _ _ _ hr.head
  have HR := Lib.hid hr
  have HA := Lib.hid ha
  have HC := Lib.hid hc
  have hm' : decide (T.most < (T.nodes.length : Int)) = false := decide_eq_false (by omega)
  have hm2 : ¬ (T.most < (T.nodes.length : Int)) := by omega
  clear hr ha hc
  go_enter Tryz.func99, Tryz.ntmps99
  go_wp2_with fail
  have hB := heap_alloc_new w (.cells #[.bool el, .int .i64 sp, .string nm, .slice a l.length c, .string tx, .int .i64 (-1)] 88)
  have hb1 := (Below.refl w.heap.size w).alloc (Nat.le_refl _) (.cells #[.bool el, .int .i64 sp, .string nm, .slice a l.length c, .string tx, .int .i64 (-1)] 88)
  generalize w.alloc (.cells #[.bool el, .int .i64 sp, .string nm, .slice a l.length c, .string tx, .int .i64 (-1)] 88) = w1 at *
  have d0 := cell_later hb1 c0
  have d2 := cell_later hb1 c2
  have HB1 := Lib.hid hb1
  have HW := Lib.hid hB
  clear hb1 hB
  unfold maxLen at p2
  refine wp_region_calm (by kernel_rfl) (by kernel_rfl) ?_
  repeat
    with_reducible refine wpQuiet_step (fun K hK => ?_)
    first
      | (with_reducible apply calm_skip
         · rfl
         simp only [Act.put, List.setIfInBounds_toArray, List.set_cons_zero, List.set_cons_succ]
         refine hK _ ?_
         clear hK K)
      | (with_reducible apply calm_run
         · rfl
         · intro wq hC
           have zd0 := cell_later hC.out d0
           have zd2 := cell_later hC.out d2
           unfold Oper.quietAt
           go_simp
           first | done | with_reducible rfl | rfl
         simp only [Act.put, List.setIfInBounds_toArray, List.set_cons_zero, List.set_cons_succ]
         refine hK _ ?_
         clear hK K)
  with_reducible refine wpQuiet_nil ?_
  intro wq HQ
  have zd0 := cell_later HQ.out d0
  have zd2 := cell_later HQ.out d2
  have hB := (HQ.out.block w.heap.size (row_lt HW.out)).trans HW.out
  have hbq := belowCall HB1.out HQ.out
  have hRq := HR.out.below hbq
  obtain ⟨⟨r0, r1, r2, r3, r4, r5⟩, _⟩ := cells6r hB
  obtain ⟨i1, hi1, hy0, hy1, hy2⟩ := info_parts info_rnode
  obtain ⟨i2, hi2, hx0, hx1, hx2⟩ := info_parts info_ints
  have g0 : T.nodes.length + 1 ≤ maxLen := by unfold maxLen; omega
  have g1 : (T.nodes.length + 1) * 80 ≤ 140737488355328 := by omega
  have g2 : (T.nodes.length + 1) * 24 ≤ 140737488355328 := by omega
  obtain ⟨q1, q2, q3⟩ := hRq.lt
  have e0 := cell_of_row wq rb 0 _ _ _ hRq.head
  have HO := Lib.hid hRq.ownN
  have HRQ := Lib.hid hRq
  have HBQ := Lib.hid hbq
  have n1 := hRq.n1
  have n2 := hRq.n2
  have n3 := hRq.n3
  have HTG : Hid (some rb ≠ (Value.slice (some ⟨gn, 0, none⟩) T.nodes.length capn).ownBlock) := Lib.hid (fun e => by simp only [Value.ownBlock, Option.some.injEq] at e; exact n1 e)
  clear hB hbq hRq HR HW HB1 HQ d0 d2 c0 c2
  go_wp2_with fail
  go_region_law (go_must (refine step_append_lies _ (by rfl) _ _ _ (by rfl) 0 88 i1 _ 6 80 Tryz.underlying89 hi1 hy0 hy1 hy2 rfl (by omega) _ T.nodes.length _ (by rfl) ((HO.out.drew).alloc _) ⟨wq.heap.size, 0, none⟩ 1 1 [.bool el, .int .i64 sp, .string nm, .slice a l.length c, .string tx, .int .i64 (-1)] (by rfl) (by rfl) (World.news_of_block (cs := #[.bool el, .int .i64 sp, .string nm, .slice a l.length c, .string tx, .int .i64 (-1)]) (t := 88) (fr := (0, 0)) (heap_alloc_new wq.drew _)) (by simp [Value.oneCell']) (by omega) g0 g1 (Nat.zero_le _) (wq.heap.size + 1) (by simp) ?_; intro gg capg w6 hown6 hgrow6 hat6 hlt6; have htb6 := (hgrow6.block rb (by simp; omega) HTG.out).trans ((Below.heap_alloc wq.drew _ rb q1).trans HRQ.out.head); have s6 := cell_of_row w6 rb 0 _ _ _ htb6; have f6 := frozen_of_row w6 rb 0 _ _ htb6; have HH6 := Lib.hid htb6; clear htb6))
  all_goals
    have hkA : Keeps (Three rb gn gk) wq w6 := by
      refine ⟨hgrow6.os, hgrow6.tape, hgrow6.output, ?_, fun k hk hF => ?_⟩
      · have := hgrow6.size
        simp at this
        omega
      · refine (hgrow6.block k (by simp; omega) (fun e => ?_)).trans (Below.heap_alloc wq.drew _ k hk)
        simp only [Value.ownBlock, Option.some.injEq] at e
        exact hF (.inr (.inl e))
    have hgg : gg = gn ∨ gg = wq.heap.size + 1 := by
      rcases hat6 with h | h
      · simp only [Value.ownBlock, Option.some.injEq] at h
        exact .inl h.symm
      · exact .inr h
    have hK6 : w6.ownsRow 0 30 1 (.slice (some ⟨gk, 0, none⟩) T.nodes.length capk) T.nodes.length Ks := own_kept HRQ.out.ownK (fun k hk => by
      simp only [Value.ownBlock, Option.some.injEq] at hk
      subst hk
      refine (hgrow6.block gk (by simp; omega) (fun e => ?_)).trans (Below.heap_alloc wq.drew _ gk q3)
      simp only [Value.ownBlock, Option.some.injEq] at e
      exact n3 e.symm)
    have hrg : rb ≠ gg := by omega
    have hkg : gk ≠ gg := by omega
    have hh7 := Lib.heap_setCell_same (i := 0) HH6.out (.slice (some ⟨gg, 0, none⟩) (T.nodes.length + 1) capg)
    have ho7 : (w6.setCell ⟨rb, 0, none⟩ (.slice (some ⟨gg, 0, none⟩) (T.nodes.length + 1) capg)).ownsRow 0 88 6 (.slice (some ⟨gg, 0, none⟩) (T.nodes.length + 1) capg) (T.nodes.length + 1) _ := own_kept hown6 (fun k hk => by
      simp only [Value.ownBlock, Option.some.injEq] at hk
      subst hk
      exact heap_setCell_other _ _ _ _ (Ne.symm hrg))
    have hK7 : (w6.setCell ⟨rb, 0, none⟩ (.slice (some ⟨gg, 0, none⟩) (T.nodes.length + 1) capg)).ownsRow 0 30 1 (.slice (some ⟨gk, 0, none⟩) T.nodes.length capk) T.nodes.length Ks := own_kept hK6 (fun k hk => by
      simp only [Value.ownBlock, Option.some.injEq] at hk
      subst hk
      exact heap_setCell_other _ _ _ _ (Ne.symm n2))
    have hk7 := hkA.set (p := ⟨rb, 0, none⟩) (.inl (.inl rfl)) (.slice (some ⟨gg, 0, none⟩) (T.nodes.length + 1) capg)
    generalize w6.setCell ⟨rb, 0, none⟩ (.slice (some ⟨gg, 0, none⟩) (T.nodes.length + 1) capg) = w7 at *
    have v0 := cell_of_row w7 rb 0 _ _ _ hh7
    have v1 := cell_of_row w7 rb 1 _ _ _ hh7
    have HH7 := Lib.hid hh7
    have HO7 := Lib.hid ho7
    have HK7 := Lib.hid hK7
    have HKP := Lib.hid hk7
    have l7 := row_lt hh7
    have l8 : gg < w7.heap.size := (ho7.lt gg rfl).2
    have l9 : gk < w7.heap.size := (hK7.lt gk rfl).2
    have HGG := Lib.hid hgg
    have HTK : Hid (some rb ≠ (Value.slice (some ⟨gk, 0, none⟩) T.nodes.length capk).ownBlock) := Lib.hid (fun e => by simp only [Value.ownBlock, Option.some.injEq] at e; exact n2 e)
    clear hh7 ho7 hK7 hk7 hkA hK6 hown6 hgrow6 hat6 hgg HH6 s6 f6 zd0 zd2 r0 r1 r2 r3 r4 r5 e0
    go_wp2_with (at_builtin; go_must (refine wpList_append_lies _ rfl _ _ 90 rfl 0 30 i2 _ 1 24 Tryz.underlying90 hi2 hx0 hx1 hx2 rfl (by decide) (.slice (some ⟨gk, 0, none⟩) T.nodes.length capk) T.nodes.length Ks rfl (HK7.out.alloc _) ⟨w7.heap.size, 0, none⟩ 1 1 [.slice none 0 0] rfl rfl (World.news_of_block (cs := #[.slice none 0 0]) (heap_alloc_new w7 _)) (by simp [Value.oneCell']) (by omega) g0 g2 (Nat.zero_le _) _ rfl ?_; intro gg2 capk2 w8 hown8 hgr8 hat8 hlt8; have hh8 := (hgr8.block rb (by simp; omega) HTK.out).trans ((Below.heap_alloc w7 _ rb l7).trans HH7.out); have x0 := cell_of_row w8 rb 0 _ _ _ hh8; have x1 := cell_of_row w8 rb 1 _ _ _ hh8; have y1 := frozen_of_row w8 rb 1 _ _ hh8; have HH8 := Lib.hid hh8; have HOW8 := Lib.hid hown8; have HGR8 := Lib.hid hgr8; have HAT8 := Lib.hid hat8; clear hh8 hown8 hgr8 hat8))
    go_ret2
    have hgk : gg2 = gk ∨ gg2 = w7.heap.size + 1 := by
      rcases HAT8.out with h | h
      · simp only [Value.ownBlock, Option.some.injEq] at h
        exact .inl h.symm
      · refine .inr (h.trans ?_)
        simp
    have hsz7 := HKP.out.size
    have hszq := HBQ.out.size
    have hgg := HGG.out
    have hkB : Keeps (Three rb gn gk) w7 w8 := by
      refine ⟨HGR8.out.os, HGR8.out.tape, HGR8.out.output, ?_, fun k hk hF => ?_⟩
      · have := HGR8.out.size
        simp at this
        omega
      · refine (HGR8.out.block k (by simp; omega) (fun e => ?_)).trans (Below.heap_alloc w7 _ k hk)
        simp only [Value.ownBlock, Option.some.injEq] at e
        exact hF (.inr (.inr e))
    have hk9 := (HKP.out.trans hkB).set (p := ⟨rb, 1, none⟩) (.inl (.inl rfl)) (.slice (some ⟨gg2, 0, none⟩) (T.nodes.length + 1) capk2)
    have hh9 := Lib.heap_setCell_same (i := 1) HH8.out (.slice (some ⟨gg2, 0, none⟩) (T.nodes.length + 1) capk2)
    have ho9 : (w8.setCell ⟨rb, 1, none⟩ (.slice (some ⟨gg2, 0, none⟩) (T.nodes.length + 1) capk2)).ownsRow 0 88 6 (.slice (some ⟨gg, 0, none⟩) (T.nodes.length + 1) capg) (T.nodes.length + 1) _ := own_kept HO7.out (fun k hk => by
      simp only [Value.ownBlock, Option.some.injEq] at hk
      subst hk
      refine (heap_setCell_other _ _ _ _ (Ne.symm hrg)).trans ((HGR8.out.block gg (by simp; omega) (fun e => ?_)).trans (Below.heap_alloc w7 _ gg l8))
      simp only [Value.ownBlock, Option.some.injEq] at e
      exact hkg e.symm)
    have hK9 : (w8.setCell ⟨rb, 1, none⟩ (.slice (some ⟨gg2, 0, none⟩) (T.nodes.length + 1) capk2)).ownsRow 0 30 1 (.slice (some ⟨gg2, 0, none⟩) (T.nodes.length + 1) capk2) (T.nodes.length + 1) _ := own_kept HOW8.out (fun k hk => by
      simp only [Value.ownBlock, Option.some.injEq] at hk
      subst hk
      exact heap_setCell_other _ _ _ _ (by show gg2 ≠ rb; omega))
    have hd : RNode (DatR T.far rb gg gg2) (w8.setCell ⟨rb, 1, none⟩ (.slice (some ⟨gg2, 0, none⟩) (T.nodes.length + 1) capk2)) [.bool el, .int .i64 sp, .string nm, .slice a l.length c, .string tx, .int .i64 (-1)] ⟨el, sp, nm, l, tx, -1, []⟩ := by
      have hu : AtF (fun k => DatR T.far rb gn gk k ∨ DatR T.far rb gg gg2 k) w a (pairsV l) := HA.out.other fun b hb hh => by
        rcases hh with hh | (hh | hh | hh) | hh
        · exact hh
        · exact .inl (.inl hh)
        · rcases hgg with hg | hg
          · exact .inl (.inr (.inl (hh.trans hg)))
          · omega
        · rcases hgk with hg | hg
          · exact .inl (.inr (.inr (hh.trans hg)))
          · omega
        · exact .inr hh
      exact ⟨a, c, rfl, hlc, hcm, HC.out, (hu.kept ((Keeps.ofBelow HBQ.out).trans (hk9.mono fun k _ h => .inl (.inl h)))).other fun b _ hh => .inr hh⟩
    refine ⟨gg, gg2, (Keeps.ofBelow HBQ.out).trans hk9, by omega, by omega, by simp, ⟨_, _, _, _, ref_push HRQ.out hk9 (by omega) (by omega) (by omega) ho9 hK9 hh9 hd rfl⟩⟩
end Go.Proofs.YtclflmjpdglgiaaGreat

/-
  Contract: (*colanderref14.Tree).add, the whole: a node is added, or refused.
-/
namespace Go.Proofs.YtclflmjpdglgiaaGreat
open Go.RowKit Mem

set_option maxRecDepth 100000 in
set_option maxHeartbeats 2000000 in
theorem radd_no (T : TreeD) (rb gn gk : Nat) (w : World) (el : Bool) (sp p0 : Int) (nm tx : ByteArray) (n : Nat) (a : Option Addr) (c : Nat) (h : RefO w rb gn gk T) (hm : ¬ ((T.nodes.length : Int) - 1 < T.most)) :
    Calls Tryz.prog 99 #[.pointer (some ⟨rb, 0, none⟩), .agg #[.bool el, .int .i64 sp, .string nm, .slice a n c, .string tx, .int .i64 p0]] w fun e w' =>
      Keeps (Three rb gn gk) w w' ∧ e = .returned (.tuple #[.int .i64 0, .int .i64 43]) ∧ RefO w' rb gn gk T := by
  obtain ⟨capn, capk, p1, p2, _, _, c0, _, c2, _⟩ := h.head
  have HR := Lib.hid h
  have hm' : decide (T.most < (T.nodes.length : Int)) = true := decide_eq_true (by omega)
  have hm2 : T.most < (T.nodes.length : Int) := by omega
  clear h hm
  go_enter Tryz.func99, Tryz.ntmps99
  go_wp2_with fail
  have hb1 := (Below.refl w.heap.size w).alloc (Nat.le_refl _) (.cells #[.bool el, .int .i64 sp, .string nm, .slice a n c, .string tx, .int .i64 p0] 88)
  generalize w.alloc (.cells #[.bool el, .int .i64 sp, .string nm, .slice a n c, .string tx, .int .i64 p0] 88) = w1 at *
  have d0 := cell_later hb1 c0
  have d2 := cell_later hb1 c2
  have HB1 := Lib.hid hb1
  clear hb1
  unfold maxLen at p2
  refine wp_region_calm (by kernel_rfl) (by kernel_rfl) ?_
  repeat
    with_reducible refine wpQuiet_step (fun K hK => ?_)
    first
      | (with_reducible apply calm_skip
         · rfl
         simp only [Act.put, List.setIfInBounds_toArray, List.set_cons_zero, List.set_cons_succ]
         refine hK _ ?_
         clear hK K)
      | (with_reducible apply calm_run
         · rfl
         · intro wq hC
           have zd0 := cell_later hC.out d0
           have zd2 := cell_later hC.out d2
           unfold Oper.quietAt
           go_simp
           first | done | with_reducible rfl | rfl
         simp only [Act.put, List.setIfInBounds_toArray, List.set_cons_zero, List.set_cons_succ]
         refine hK _ ?_
         clear hK K)
  with_reducible refine wpQuiet_nil ?_
  intro wq HQ
  have zd0 := cell_later HQ.out d0
  have zd2 := cell_later HQ.out d2
  have HBQ := Lib.hid (belowCall HB1.out HQ.out)
  go_wp2_with fail
  go_ret2
  exact ⟨Keeps.ofBelow HBQ.out, rfl, HR.out.below HBQ.out⟩

theorem radd_any (T : TreeD) (rb gn gk : Nat) (w : World) (el : Bool) (sp : Int) (nm tx : ByteArray) (l : List Pair) (n : Nat) (hnl : n = l.length) (a : Option Addr) (c : Nat) (hc : a = none → c = 0) (hlc : l.length ≤ c) (hcm : c ≤ maxLen) (hn : T.nodes.length ≤ 1048576)
    (h : RefO w rb gn gk T) (ha : AtF (DatR T.far rb gn gk) w a (pairsV l)) :
    Calls Tryz.prog 99 #[.pointer (some ⟨rb, 0, none⟩), .agg #[.bool el, .int .i64 sp, .string nm, .slice a n c, .string tx, .int .i64 (-1)]] w fun e w' =>
      ∃ gn' gk', Keeps (Three rb gn gk) w w' ∧ (gn' = gn ∨ w.heap.size ≤ gn') ∧ (gk' = gk ∨ w.heap.size ≤ gk') ∧ e = .returned (.tuple #[.int .i64 (mkF T ⟨el, sp, nm, l, tx, -1, []⟩).2.1, .int .i64 (mkF T ⟨el, sp, nm, l, tx, -1, []⟩).2.2]) ∧ RefO w' rb gn' gk' (mkF T ⟨el, sp, nm, l, tx, -1, []⟩).1 := by
  subst hnl
  by_cases hm : (T.nodes.length : Int) - 1 < T.most
  · have he : mkF T ⟨el, sp, nm, l, tx, -1, []⟩ = (addF T ⟨el, sp, nm, l, tx, -1, []⟩, (T.nodes.length : Int), 0) := by rw [mkF, if_pos hm]
    rw [he]
    exact radd_yes T rb gn gk w el sp nm tx l a c hc hlc hcm hn h ha hm
  · have he : mkF T ⟨el, sp, nm, l, tx, -1, []⟩ = (T, 0, 43) := by rw [mkF, if_neg hm]
    rw [he]
    exact (radd_no T rb gn gk w el sp (-1) nm tx l.length a c h hm).mono fun e w' ⟨h1, h2, h3⟩ => ⟨gn, gk, h1, .inl rfl, .inl rfl, h2, h3⟩
end Go.Proofs.YtclflmjpdglgiaaGreat

/-
  Contract: (*colanderref14.Tree).Elem: an element is added, its attributes in new memory; or refused.
-/
namespace Go.Proofs.YtclflmjpdglgiaaGreat
open Go.RowKit Mem

theorem keeps_three {rb gn gk gn' gk' : Nat} {w w1 w2 : World} (h1 : Keeps (Three rb gn gk) w w1) (h2 : Keeps (Three rb gn' gk') w1 w2) (hg1 : gn' = gn ∨ w.heap.size ≤ gn') (hg2 : gk' = gk ∨ w.heap.size ≤ gk') : Keeps (Three rb gn gk) w w2 :=
  ⟨h2.os.trans h1.os, h2.tape.trans h1.tape, h2.output.trans h1.output, Nat.le_trans h1.size h2.size, fun k hk hF => (h2.block k (Nat.lt_of_lt_of_le hk h1.size) (by
    rintro (h | h | h)
    · exact hF (.inl h)
    · rcases hg1 with rfl | hg
      · exact hF (.inr (.inl h))
      · omega
    · rcases hg2 with rfl | hg
      · exact hF (.inr (.inr h))
      · omega)).trans (h1.block k hk hF)⟩
theorem RefO.avoid {w : World} {rb gn gk : Nat} {T : TreeD} (h : RefO w rb gn gk T) : ∀ k, DatR T.far rb gn gk k → k < w.heap.size := by
  obtain ⟨_, _, _, _, h⟩ := h
  obtain ⟨l1, l2, l3⟩ := h.lt
  rintro k ((rfl | rfl | rfl) | hk)
  · exact l1
  · exact l2
  · exact l3
  · exact (h.avoid k hk).1

set_option maxRecDepth 100000 in
set_option maxHeartbeats 2000000 in
theorem rElem_any (T : TreeD) (rb gn gk : Nat) (w : World) (sp : Int) (nm : ByteArray) (l : List Pair) (n : Nat) (hnl : n = l.length) (a : Option Addr) (c : Nat) (hc : a = none → c = 0) (hlen : l.length ≤ 1048576) (hn : T.nodes.length ≤ 1048576)
    (h : RefO w rb gn gk T) (ha : At w a (pairsV l)) :
    Calls Tryz.prog 93 #[.pointer (some ⟨rb, 0, none⟩), .int .i64 sp, .string nm, .slice a n c] w fun e w' =>
      ∃ gn' gk', Keeps (Three rb gn gk) w w' ∧ (gn' = gn ∨ w.heap.size ≤ gn') ∧ (gk' = gk ∨ w.heap.size ≤ gk') ∧ e = .returned (.tuple #[.int .i64 (mkF T (elemN sp nm l)).2.1, .int .i64 (mkF T (elemN sp nm l)).2.2]) ∧ RefO w' rb gn' gk' (mkF T (elemN sp nm l)).1 := by
  subst hnl
  unfold elemN
  have hb1 := (Below.refl w.heap.size w).alloc (Nat.le_refl _) (.cells #[] 98)
  have HA := Lib.hid (ha.below hb1)
  have HC := Lib.hid hc
  have HR := Lib.hid h
  have HAv := Lib.hid h.avoid
  have HE : Hid ((w.alloc (.cells #[] 98)).ownsRow w.heap.size 98 2 (.slice (some ⟨w.heap.size, 0, none⟩) 0 0) 0 []) := Lib.hid (World.ownsRow_lit w #[] 0 (Nat.le_refl _) (Nat.zero_le _) rfl)
  obtain ⟨i0, hi, hz0, hz1, hz2⟩ := info_parts info_atr
  have b0 : 0 + l.length ≤ maxLen := by unfold maxLen; omega
  have b1 : (0 + l.length) * 32 ≤ 140737488355328 := by omega
  have HNL := Lib.hid (pairsV_length l)
  have HZ : Hid (w.heap.size ≤ (w.alloc (.cells #[] 98)).heap.size) := Lib.hid (by simp)
  have HB1 := Lib.hid hb1
  clear h ha hc hb1
  go_enter Tryz.func93, Tryz.ntmps93
  go_wp2_with (first
    | (at_builtin; go_must (refine wpList_append_slice _ rfl _ _ 27 rfl w.heap.size 98 i0 _ 2 32 Tryz.underlying27 hi hz0 hz1 hz2 rfl (by decide) _ 0 [] rfl HE.out a l.length c (pairsV l) rfl HNL.out HC.out HA.out (pairsV_one l) b0 b1 HZ.out ?_; intro v2 w4 hown2 hgr2; simp only [Nat.zero_add, List.nil_append] at hown2; have HB4 := Lib.hid (HB1.out.grown hgr2 HZ.out (fun k hk => (HE.out.lt k hk).1)); obtain ⟨a2, c2, rfl, k1, k2, k3, k4⟩ := own_atF (F := DatR T.far rb gn gk) hown2 HAv.out; have HADD := Lib.hid (radd_any T rb gn gk w4 true sp nm ⟨#[]⟩ l l.length rfl a2 c2 k3.nil k1 k2 hn (HR.out.below HB4.out) k4); clear hown2 hgr2 k4 k3)))
  refine HADD.out.mono ?_
  rintro e w5 ⟨gn', gk', hK, hg1, hg2, rfl, hR⟩
  have hs := HB4.out.size
  have HK := Lib.hid ((Keeps.ofBelow (F := Three rb gn gk) HB4.out).trans hK)
  have HRR := Lib.hid hR
  have h1 : gn' = gn ∨ w.heap.size ≤ gn' := hg1.imp id (Nat.le_trans hs)
  have h2 : gk' = gk ∨ w.heap.size ≤ gk' := hg2.imp id (Nat.le_trans hs)
  clear hK hR hg1 hg2 HADD
  go_wp2_with fail
  go_ret2
  exact ⟨gn', gk', HK.out, h1, h2, rfl, HRR.out⟩
end Go.Proofs.YtclflmjpdglgiaaGreat
