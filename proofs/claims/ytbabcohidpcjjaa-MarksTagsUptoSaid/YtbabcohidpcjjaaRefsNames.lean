/-
  The longest name at the front of a text: what tells it, and when it stays. Plain Lean, no Go. (Layer 12.) No conditions beyond those that each lemma types.
-/
import Derived.Test.YtbabcohidpcjjaaRefsSpec
namespace Go.Proofs.Ytbabcohidpcjjaa
open Mem

theorem look_mem : ∀ (t : List (Str × Str)) (x : Str), look t x ≠ [] → (x, look t x) ∈ t
  | [], x, h => absurd rfl h
  | p :: r, x, h => by
    unfold look at h ⊢
    by_cases e : (x == p.1) = true
    · rw [if_pos e]
      obtain rfl : x = p.1 := by simpa using e
      exact List.mem_cons_self
    · rw [if_neg e] at h ⊢
      exact List.mem_cons_of_mem _ (look_mem r x h)
theorem hit_mem {p : Str} (h : hitF p ≠ []) : (p, hitF p) ∈ keys := by
  unfold hitF at h ⊢
  by_cases h1 : ([59] : Str).isSuffixOf p = true
  · rw [if_pos h1] at h ⊢
    obtain ⟨q, rfl⟩ := List.isSuffixOf_iff_suffix.1 h1
    have e : (q ++ [59]).take ((q ++ [59]).length - 1) = q := by simp
    rw [e] at h ⊢
    by_cases h2 : look bareT q ≠ []
    · rw [if_pos h2] at h ⊢
      exact List.mem_append_left _ (List.mem_append_right _ (List.mem_map.2 ⟨_, look_mem _ _ h2, rfl⟩))
    · rw [if_neg h2] at h ⊢
      exact List.mem_append_right _ (List.mem_map.2 ⟨_, look_mem _ _ h, rfl⟩)
  · rw [if_neg h1] at h ⊢
    exact List.mem_append_left _ (List.mem_append_left _ (look_mem _ _ h))
theorem keys_hit : ∀ k ∈ keys, hitF k.1 = k.2 ∧ k.2 ≠ [] ∧ 1 ≤ k.1.length ∧ k.1.length ≤ 14 := by decide +kernel

theorem findUp_spec (s : Str) : ∀ n, n ≤ s.length → (findUp s n).2 ≤ n ∧ (((findUp s n).2 = 0 ∧ (findUp s n).1 = []) ∨ (0 < (findUp s n).2 ∧ (s.take (findUp s n).2, (findUp s n).1) ∈ keys)) ∧
    ∀ k ∈ keys, k.1 <+: s → k.1.length ≤ n → k.1.length ≤ (findUp s n).2
  | 0, _ => ⟨Nat.le_refl _, .inl ⟨rfl, rfl⟩, fun _ _ _ h => h⟩
  | n + 1, hn => by
    obtain ⟨h1, h2, h3⟩ := findUp_spec s n (by omega)
    unfold findUp
    by_cases hh : hitF (s.take (n + 1)) ≠ []
    · rw [if_pos hh]
      exact ⟨Nat.le_refl _, .inr ⟨by omega, hit_mem hh⟩, fun _ _ _ h => h⟩
    · rw [if_neg hh]
      refine ⟨by omega, h2, fun k hk hp hl => ?_⟩
      by_cases he : k.1.length = n + 1
      · have : k.1 = s.take (n + 1) := by rw [← he]; exact List.prefix_iff_eq_take.1 hp
        rw [← this] at hh
        obtain ⟨e1, e2, _⟩ := keys_hit k hk
        rw [e1] at hh
        exact absurd e2 hh
      · exact h3 k hk hp (by omega)
theorem findF_spec (s : Str) : (((findF s).2 = 0 ∧ (findF s).1 = []) ∨ (0 < (findF s).2 ∧ (findF s).2 ≤ s.length ∧ (s.take (findF s).2, (findF s).1) ∈ keys)) ∧ ∀ k ∈ keys, k.1 <+: s → k.1.length ≤ (findF s).2 := by
  obtain ⟨h1, h2, h3⟩ := findUp_spec s (min s.length 14) (Nat.min_le_left _ _)
  refine ⟨h2.imp id fun ⟨a, b⟩ => ⟨a, by unfold findF; omega, b⟩, fun k hk hp => h3 k hk hp ?_⟩
  have := hp.length_le
  have := (keys_hit k hk).2.2.2
  omega
theorem findF_eq {s t : Str} {n : Nat} (h : (n = 0 ∧ t = []) ∨ (0 < n ∧ n ≤ s.length ∧ (s.take n, t) ∈ keys)) (hm : ∀ k ∈ keys, k.1 <+: s → k.1.length ≤ n) : findF s = (t, n) := by
  obtain ⟨h1, h2⟩ := findF_spec s
  have key : ∀ {m : Nat} {u : Str}, 0 < m → m ≤ s.length → (s.take m, u) ∈ keys → m ≤ n := fun {m u} _ hml hu => by
    have := hm _ hu (List.take_prefix _ _)
    simp only [List.length_take] at this
    omega
  have key2 : ∀ {m : Nat} {u : Str}, 0 < m → m ≤ s.length → (s.take m, u) ∈ keys → m ≤ (findF s).2 := fun {m u} _ hml hu => by
    have := h2 _ hu (List.take_prefix _ _)
    simp only [List.length_take] at this
    omega
  have hn : (findF s).2 = n := by
    rcases h with ⟨h, _⟩ | ⟨h, h', h''⟩ <;> rcases h1 with ⟨g, _⟩ | ⟨g, g', g''⟩
    · omega
    · have := key g g' g''; omega
    · have := key2 h h' h''; omega
    · have := key g g' g''; have := key2 h h' h''; omega
  have ht : (findF s).1 = t := by
    rcases h with ⟨h, ht⟩ | ⟨h, h', h''⟩ <;> rcases h1 with ⟨g, gt⟩ | ⟨g, g', g''⟩
    · rw [ht, gt]
    · omega
    · omega
    · rw [hn] at g''
      have e1 := (keys_hit _ g'').1
      have e2 := (keys_hit _ h'').1
      exact e1.symm.trans e2
  rw [← hn, ← ht]
theorem findF_le (s : Str) : (findF s).2 ≤ s.length := by
  rcases (findF_spec s).1 with ⟨h, _⟩ | ⟨_, h, _⟩
  · omega
  · exact h
theorem findF_zero (s : Str) : (findF s).2 = 0 ↔ (findF s).1 = [] := by
  rcases (findF_spec s).1 with ⟨h, h'⟩ | ⟨h, _, h'⟩
  · simp [h, h']
  · have := (keys_hit _ h').2.1
    constructor
    · intro e; omega
    · intro e; exact absurd e this
/-- the name at the front of the name's own text, and of what goes on behind it -/
theorem findF_take (s : Str) (k : Nat) (hk : (findF s).2 ≤ k) : findF (s.take k) = findF s := by
  obtain ⟨h1, h2⟩ := findF_spec s
  refine findF_eq (t := (findF s).1) (n := (findF s).2) ?_ fun q hq hp => h2 q hq (hp.trans (List.take_prefix _ _))
  refine h1.imp id fun ⟨a, b, c⟩ => ⟨a, by rw [List.length_take]; omega, ?_⟩
  rw [List.take_take, Nat.min_eq_left hk]
  exact c
theorem findF_append (s x : Str) (h : ∀ k ∈ keys, k.1 <+: s ++ x → k.1 <+: s) : findF (s ++ x) = findF s := by
  obtain ⟨h1, h2⟩ := findF_spec s
  refine findF_eq (t := (findF s).1) (n := (findF s).2) ?_ fun q hq hp => h2 q hq (h q hq hp)
  refine h1.imp id fun ⟨a, b, c⟩ => ⟨a, by rw [List.length_append]; omega, ?_⟩
  rw [List.take_append_of_le_length b]
  exact c
/-- a name with its ; is found whatever stands behind it -/
theorem findF_semi {k : Str × Str} (hk : k ∈ keys) (hs : k.1.getLast? = some 59) (x : Str) : findF (k.1 ++ x) = (k.2, k.1.length) := by
  have hall : ∀ a ∈ keys, ∀ b ∈ keys, a.1.getLast? = some 59 → a.1.isPrefixOf b.1 = true → a.1.length = b.1.length := by decide +kernel
  refine findF_eq (.inr ⟨(keys_hit k hk).2.2.1, by simp, by simpa using hk⟩) fun q hq hp => ?_
  rcases Nat.lt_or_ge k.1.length q.1.length with h | h
  · have := hall k hk q hq hs (List.isPrefixOf_iff_prefix.2 (List.prefix_of_prefix_length_le (List.prefix_append _ _) hp (Nat.le_of_lt h)))
    omega
  · exact h
/-- no name goes on with a byte that is in none -/
theorem prefix_stop {k s x : Str} {c : UInt8} (hc : c ∉ k) (h : k <+: s ++ c :: x) : k <+: s := by
  rcases Nat.lt_or_ge s.length k.length with hl | hl
  · have h1 : s ++ [c] <+: s ++ c :: x := ⟨x, by simp⟩
    have h2 : s ++ [c] <+: k := List.prefix_of_prefix_length_le h1 h (by simp; omega)
    exact absurd (h2.subset (by simp)) hc
  · exact List.prefix_of_prefix_length_le h (List.prefix_append _ _) hl

/-! the document's search -/
def chars (a b : Nat) : Str := encF a ++ (if 0 < b then encF b else [])
def refStep (s : Str) (x : Str × Nat × Nat × Bool) (acc : Str × Nat) : Str × Nat :=
  let k := if (x.1 ++ [59]).isPrefixOf s then x.1.length + 1 else if x.2.2.2 && x.1.isPrefixOf s then x.1.length else 0
  if acc.2 < k then (chars x.2.1 x.2.2.1, k) else acc
def refGo (s : Str) : List (Str × Nat × Nat × Bool) → Str × Nat → Str × Nat
  | [], acc => acc
  | x :: r, acc => refGo s r (refStep s x acc)
def rowsOf (x : Str × Nat × Nat × Bool) : List (Str × Str) := (x.1 ++ [59], chars x.2.1 x.2.2.1) :: (if x.2.2.2 then [(x.1, chars x.2.1 x.2.2.1)] else [])
def Long (K : List (Str × Str)) (s : Str) (acc : Str × Nat) : Prop := ((acc.2 = 0 ∧ acc.1 = []) ∨ (0 < acc.2 ∧ acc.2 ≤ s.length ∧ (s.take acc.2, acc.1) ∈ K)) ∧ ∀ k ∈ K, k.1 <+: s → k.1.length ≤ acc.2
theorem Long.step {K : List (Str × Str)} {s : Str} {acc : Str × Nat} (h : Long K s acc) (x : Str × Nat × Nat × Bool) : Long (K ++ rowsOf x) s (refStep s x acc) := by
  obtain ⟨h1, h2⟩ := h
  have hmem : ∀ k ∈ rowsOf x, k = (x.1 ++ [59], chars x.2.1 x.2.2.1) ∨ (x.2.2.2 = true ∧ k = (x.1, chars x.2.1 x.2.2.1)) := by
    intro k hk
    unfold rowsOf at hk
    rcases List.mem_cons.1 hk with hk | hk
    · exact .inl hk
    · split at hk
      · rename_i hb
        exact .inr ⟨hb, by simpa using hk⟩
      · cases hk
  unfold refStep
  by_cases c1 : (x.1 ++ [59]).isPrefixOf s = true
  · have p1 := List.isPrefixOf_iff_prefix.1 c1
    simp only [c1, if_true]
    have hl := p1.length_le
    simp only [List.length_append, List.length_cons, List.length_nil] at hl
    by_cases hlt : acc.2 < x.1.length + 1
    · rw [if_pos hlt]
      refine ⟨.inr ⟨by simp, by simp; omega, ?_⟩, fun k hk hp => ?_⟩
      · have : s.take (x.1.length + 1) = x.1 ++ [59] := by
          have := List.prefix_iff_eq_take.1 p1
          simpa using this.symm
        refine List.mem_append_right _ ?_
        simp only [this]
        exact List.mem_cons_self
      · rcases List.mem_append.1 hk with hk | hk
        · have := h2 k hk hp; show k.1.length ≤ x.1.length + 1; omega
        · rcases hmem k hk with rfl | ⟨_, rfl⟩ <;> simp
    · rw [if_neg hlt]
      refine ⟨h1.imp id fun ⟨a, b, c⟩ => ⟨a, b, List.mem_append_left _ c⟩, fun k hk hp => ?_⟩
      rcases List.mem_append.1 hk with hk | hk
      · exact h2 k hk hp
      · rcases hmem k hk with rfl | ⟨_, rfl⟩ <;> simp <;> omega
  · have c1' : (x.1 ++ [59]).isPrefixOf s = false := Bool.eq_false_iff.2 c1
    have n1 : ¬ (x.1 ++ [59]) <+: s := fun h => c1 (List.isPrefixOf_iff_prefix.2 h)
    simp only [c1', Bool.false_eq_true, if_false]
    by_cases c2 : (x.2.2.2 && x.1.isPrefixOf s) = true
    · simp only [c2, if_true]
      have hb : x.2.2.2 = true := by simp at c2; exact c2.1
      have p1 : x.1 <+: s := by simp at c2; exact c2.2
      have hl := p1.length_le
      by_cases hlt : acc.2 < x.1.length
      · rw [if_pos hlt]
        refine ⟨.inr ⟨by simp; omega, hl, ?_⟩, fun k hk hp => ?_⟩
        · have : s.take x.1.length = x.1 := (List.prefix_iff_eq_take.1 p1).symm
          refine List.mem_append_right _ ?_
          simp only [this]
          unfold rowsOf
          rw [if_pos hb]
          simp
        · rcases List.mem_append.1 hk with hk | hk
          · have := h2 k hk hp; simp; omega
          · rcases hmem k hk with rfl | ⟨_, rfl⟩
            · exact absurd hp n1
            · simp
      · rw [if_neg hlt]
        refine ⟨h1.imp id fun ⟨a, b, c⟩ => ⟨a, b, List.mem_append_left _ c⟩, fun k hk hp => ?_⟩
        rcases List.mem_append.1 hk with hk | hk
        · exact h2 k hk hp
        · rcases hmem k hk with rfl | ⟨_, rfl⟩
          · exact absurd hp n1
          · simp; omega
    · have c2' : (x.2.2.2 && x.1.isPrefixOf s) = false := Bool.eq_false_iff.2 c2
      simp only [c2', Bool.false_eq_true, if_false, Nat.not_lt_zero]
      refine ⟨h1.imp id fun ⟨a, b, c⟩ => ⟨a, b, List.mem_append_left _ c⟩, fun k hk hp => ?_⟩
      rcases List.mem_append.1 hk with hk | hk
      · exact h2 k hk hp
      · rcases hmem k hk with rfl | ⟨hb, rfl⟩
        · exact absurd hp n1
        · exact absurd (by simpa [hb] using hp) c2
theorem refGo_long {s : Str} : ∀ (l : List (Str × Nat × Nat × Bool)) (K : List (Str × Str)) (acc : Str × Nat), Long K s acc → Long (K ++ l.flatMap rowsOf) s (refGo s l acc)
  | [], K, acc, h => by simpa [refGo] using h
  | x :: r, K, acc, h => by
    have := refGo_long r _ _ (h.step x)
    simpa [refGo, List.flatMap_cons, List.append_assoc] using this
theorem keys_rows : (∀ k ∈ keys, k ∈ namesT.flatMap rowsOf) ∧ ∀ k ∈ namesT.flatMap rowsOf, k ∈ keys := by
  have h1 : (keys.all fun k => (namesT.flatMap rowsOf).contains k) = true := by decide +kernel
  have h2 : ((namesT.flatMap rowsOf).all fun k => keys.contains k) = true := by decide +kernel
  exact ⟨fun k hk => by simpa using List.all_eq_true.1 h1 k hk, fun k hk => by simpa using List.all_eq_true.1 h2 k hk⟩
/-- both searches find the same -/
theorem refGo_findF (s : Str) : refGo s namesT ([], 0) = findF s := by
  have h := refGo_long (s := s) namesT [] ([], 0) ⟨.inl ⟨rfl, rfl⟩, fun k hk => by cases hk⟩
  rw [List.nil_append] at h
  obtain ⟨h1, h2⟩ := h
  rw [findF_eq (t := (refGo s namesT ([], 0)).1) (n := (refGo s namesT ([], 0)).2) (h1.imp id fun ⟨a, b, c⟩ => ⟨a, b, keys_rows.2 _ c⟩) fun k hk hp => h2 k (keys_rows.1 k hk) hp]
end Go.Proofs.Ytbabcohidpcjjaa
