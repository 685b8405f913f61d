/-
  Plain lemmas on the memory of the model, more: rows that a call owns; pairs of strings. No conditions beyond those that each lemma types.
-/
import Derived.Test.YtbabcohidpcjjaaMem
namespace Go.Proofs.Ytbabcohidpcjjaa.Mem
open Go Go.RowKit

/-- what is owned stays owned where its block stays -/
theorem own_kept {w w' : World} {base : Nat} {e : TypeId} {size : Nat} {v : Value} {n : Nat} {xs : List Value} (h : w.ownsRow base e size v n xs) (hb : ∀ g, v.ownBlock = some g → w'.heap[g]? = w.heap[g]?) : w'.ownsRow base e size v n xs := by
  obtain ⟨h1, h2⟩ := h
  refine ⟨h1, ?_⟩
  rcases h2 with h2 | ⟨g, cap, cur, rfl, hg, hh, r⟩
  · exact .inl h2
  · exact .inr ⟨g, cap, cur, rfl, hg, (hb g rfl).trans hh, r⟩
theorem own_below {w w' : World} {base : Nat} {e : TypeId} {size : Nat} {v : Value} {n : Nat} {xs : List Value} (h : w.ownsRow base e size v n xs) (hb : Below w.heap.size w w') : w'.ownsRow base e size v n xs :=
  own_kept h fun g hg => hb.block g (h.lt g hg).2
theorem own_row {w : World} {base : Nat} {e : TypeId} {size g : Nat} {n c : Nat} {xs : List Value} (h : w.ownsRow base e size (.slice (some ⟨g, 0, none⟩) n c) n xs) : Row w g xs := by
  rcases h.2 with ⟨h', _⟩ | ⟨g', cap, cur, h', _, hg, _, _, _, ht⟩
  · cases h'
  · cases h'
    exact ⟨cur, e, 0, 0, hg, by rw [h.1]; exact ht, .inr rfl⟩
/-- what is owned lies at its address -/
theorem own_at {w : World} {base : Nat} {e : TypeId} {size : Nat} {v : Value} {n : Nat} {xs : List Value} (h : w.ownsRow base e size v n xs) :
    ∃ a c, v = .slice a n c ∧ n ≤ c ∧ c ≤ maxLen ∧ (a = none → c = 0) ∧ At w a xs := by
  obtain ⟨h1, h2⟩ := h
  rcases h2 with ⟨rfl, rfl⟩ | ⟨g, cap, cur, rfl, hg, hh, r1, r2, r3, r4⟩
  · have : xs = [] := List.eq_nil_of_length_eq_zero (by simpa using h1)
    subst this
    exact ⟨none, 0, rfl, Nat.le_refl _, Nat.zero_le _, fun _ => rfl, At.nil _ _⟩
  · exact ⟨some ⟨g, 0, none⟩, cap, rfl, r1, r2, (fun h => by cases h), (own_row (base := base) (e := e) (size := size) ⟨h1, .inr ⟨g, cap, cur, rfl, hg, hh, r1, r2, r3, r4⟩⟩).at⟩

/-- n empty pairs -/
def blanks (n : Nat) : List Pair := List.replicate n (⟨#[]⟩, ⟨#[]⟩)
theorem made_pairs (n : Nat) : (madeCells #[.string ⟨#[]⟩, .string ⟨#[]⟩] (n * 2)).toList = pairsV (blanks n) := by
  apply List.ext_getElem?
  intro j
  have hl : (pairsV (blanks n)).length = n * 2 := by rw [pairsV_length]; simp [blanks]
  by_cases hj : j < n * 2
  · have hk : j / 2 < (blanks n).length := by simp [blanks]; omega
    have h0 := pairsV_get0 (blanks n) (j / 2) hk
    have h1 := pairsV_get1 (blanks n) (j / 2) hk
    rcases Nat.mod_two_eq_zero_or_one j with h | h
    · rw [show j / 2 * 2 = j from by omega] at h0
      rw [h0]
      simp [madeCells, hj, h, blanks]
    · rw [show j / 2 * 2 + 1 = j from by omega] at h1
      rw [h1]
      simp [madeCells, hj, h, blanks]
  · rw [List.getElem?_eq_none (by simp [madeCells]; omega), List.getElem?_eq_none (by omega)]
theorem pairsV_set : ∀ (l : List Pair) (k : Nat) (p : Pair), ((pairsV l).set (k * 2) (.string p.1)).set (k * 2 + 1) (.string p.2) = pairsV (l.set k p)
  | [], _, _ => by simp [pairsV]
  | q :: r, 0, p => rfl
  | q :: r, k + 1, p => by
    rw [show (k + 1) * 2 = k * 2 + 1 + 1 from by omega, show k * 2 + 1 + 1 + 1 = (k * 2 + 1) + 1 + 1 from rfl]
    simp only [pairsV, List.set_cons_succ, pairsV_set r k p]

end Go.Proofs.Ytbabcohidpcjjaa.Mem
