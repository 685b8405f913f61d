import Derived.Test.YtclflmjpdglgiaaGreatMem
/-
  Plain lemmas on the memory of the model, more: rows that a call owns; pairs of strings. No conditions beyond those that each lemma types.
-/
namespace Go.Proofs.YtclflmjpdglgiaaGreat.Mem
open Go Go.RowKit

/-- what is owned stays owned where its block stays -/
theorem own_kept {w w' : World} {base : Nat} {e : TypeId} {size : Nat} {v : Value} {n : Nat} {xs : List Value} (h : w.ownsRow base e size v n xs) (hb : ∀ g, v.ownBlock = some g → w'.heap[g]? = w.heap[g]?) : w'.ownsRow base e size v n xs := by
  obtain ⟨h1, h2⟩ := h
  refine ⟨h1, ?_⟩
  rcases h2 with h2 | ⟨g, cap, cur, rfl, hg, hh, r⟩
  · exact .inl h2
  · exact .inr ⟨g, cap, cur, rfl, hg, (hb g rfl).trans hh, r⟩
theorem own_below {w w' : World} {base : Nat} {e : TypeId} {size : Nat} {v : Value} {n : Nat} {xs : List Value} (h : w.ownsRow base e size v n xs) (hb : Below w.heap.size w w') : w'.ownsRow base e size v n xs :=
  own_kept h fun g hg => hb.block g (h.lt g hg).2
theorem own_row {w : World} {base : Nat} {e : TypeId} {size g : Nat} {n c : Nat} {xs : List Value} (h : w.ownsRow base e size (.slice (some ⟨g, 0, none⟩) n c) n xs) : Row w g xs := by
  rcases h.2 with ⟨h', _⟩ | ⟨g', cap, cur, h', _, hg, _, _, _, ht⟩
  · cases h'
  · cases h'
    exact ⟨cur, e, 0, 0, hg, by rw [h.1]; exact ht, .inr rfl⟩
/-- what is owned lies at its address -/
theorem own_at {w : World} {base : Nat} {e : TypeId} {size : Nat} {v : Value} {n : Nat} {xs : List Value} (h : w.ownsRow base e size v n xs) :
    ∃ a c, v = .slice a n c ∧ n ≤ c ∧ c ≤ maxLen ∧ (a = none → c = 0) ∧ At w a xs := by
  obtain ⟨h1, h2⟩ := h
  rcases h2 with ⟨rfl, rfl⟩ | ⟨g, cap, cur, rfl, hg, hh, r1, r2, r3, r4⟩
  · have : xs = [] := List.eq_nil_of_length_eq_zero (by simpa using h1)
    subst this
    exact ⟨none, 0, rfl, Nat.le_refl _, Nat.zero_le _, fun _ => rfl, At.nil _ _⟩
  · exact ⟨some ⟨g, 0, none⟩, cap, rfl, r1, r2, (fun h => by cases h), (own_row (base := base) (e := e) (size := size) ⟨h1, .inr ⟨g, cap, cur, rfl, hg, hh, r1, r2, r3, r4⟩⟩).at⟩

/-- n empty pairs -/
def blanks (n : Nat) : List Pair := List.replicate n (⟨#[]⟩, ⟨#[]⟩)
theorem made_pairs (n : Nat) : (madeCells #[.string ⟨#[]⟩, .string ⟨#[]⟩] (n * 2)).toList = pairsV (blanks n) := by
  apply List.ext_getElem?
  intro j
  have hl : (pairsV (blanks n)).length = n * 2 := by rw [pairsV_length]; simp [blanks]
  by_cases hj : j < n * 2
  · have hk : j / 2 < (blanks n).length := by simp [blanks]; omega
    have h0 := pairsV_get0 (blanks n) (j / 2) hk
    have h1 := pairsV_get1 (blanks n) (j / 2) hk
    rcases Nat.mod_two_eq_zero_or_one j with h | h
    · rw [show j / 2 * 2 = j from by omega] at h0
      rw [h0]
      simp [madeCells, hj, h, blanks]
    · rw [show j / 2 * 2 + 1 = j from by omega] at h1
      rw [h1]
      simp [madeCells, hj, h, blanks]
  · rw [List.getElem?_eq_none (by simp [madeCells]; omega), List.getElem?_eq_none (by omega)]
theorem pairsV_set : ∀ (l : List Pair) (k : Nat) (p : Pair), ((pairsV l).set (k * 2) (.string p.1)).set (k * 2 + 1) (.string p.2) = pairsV (l.set k p)
  | [], _, _ => by simp [pairsV]
  | q :: r, 0, p => rfl
  | q :: r, k + 1, p => by
    rw [show (k + 1) * 2 = k * 2 + 1 + 1 from by omega, show k * 2 + 1 + 1 + 1 = (k * 2 + 1) + 1 + 1 from rfl]
    simp only [pairsV, List.set_cons_succ, pairsV_set r k p]

end Go.Proofs.YtclflmjpdglgiaaGreat.Mem

/-
  Plain lemmas on the memory of the model, more: append of whatever slice onto a row that the call owns; parts of rows. No conditions beyond those that each lemma types.
-/
namespace Go.Proofs.YtclflmjpdglgiaaGreat.Mem
open Go Go.RowKit

theorem At.left {w : World} {a : Option Addr} {xs ys : List Value} (h : At w a (xs ++ ys)) : At w a xs := by
  intro j u hj
  refine h j u ?_
  rw [List.getElem?_append_left (by
    rcases Nat.lt_or_ge j xs.length with h' | h'
    · exact h'
    · simp [List.getElem?_eq_none h'] at hj)]
  exact hj
theorem At.news {w : World} {ad : Addr} {xs : List Value} (h : At w (some ad) xs) : ∀ j u, xs[j]? = some u → w.cell? (ad.add j) = some u := by
  intro j u hj
  obtain ⟨b, o, ha, hc⟩ := h j u hj
  cases ha
  unfold Addr.add
  split
  · rename_i h0; subst h0; exact hc
  · exact hc
theorem own_some {w : World} {base : Nat} {e : TypeId} {size : Nat} {v : Value} {n : Nat} {xs : List Value} (h : w.ownsRow base e size v n xs) (hn : 0 < n) : ∃ g cap, v = .slice (some ⟨g, 0, none⟩) n cap ∧ base ≤ g ∧ n ≤ cap ∧ cap ≤ maxLen := by
  rcases h.2 with ⟨_, h0⟩ | ⟨g, cap, cur, rfl, hg, _, hc, hm, _⟩
  · omega
  · exact ⟨g, cap, rfl, hg, hc, hm⟩

/-- 'append(own, xs...)', xs any slice that reads as news: nil or not -/
theorem wpList_append_slice {P : Program} (w : World) {ops : Array Oper} {rest : List Oper} {o : Oper} {a : Act} {Q : Exit → Act → World → Prop} (hgd : o.guard = none) (s x : Operand) (t : TypeId)
    (ho : o.op = .call { callee := .builtin .append, args := #[s, x], argTypes := #[t, t] })
    (base : Nat) (e : TypeId) (i : TypeInfo) (z : Value) (size bytes : Nat) (ht : P.underlying t = some (.slice e)) (hi : P.info? e = some i) (hz : i.zero = some z)
    (hsize : i.size = size) (hby : i.bytes = bytes) (hzs : z.cells.size = size) (hsz : 0 < size)
    (v : Value) (n : Nat) (xs : List Value) (hs : a.eval s = v) (hown : w.ownsRow base e size v n xs)
    (ao : Option Addr) (m c : Nat) (news : List Value) (hx : a.eval x = .slice ao m c) (hl : news.length = m * size) (hnil : ao = none → c = 0) (hat : At w ao news) (h1 : ∀ u ∈ news, u.oneCell' = true)
    (h63 : n + m ≤ maxLen) (hbytes : (n + m) * bytes ≤ 140737488355328) (hbase : base ≤ w.heap.size)
    (h : ∀ v' w', w'.ownsRow base e size v' (n + m) (xs ++ news) → w.grownBy w' v.ownBlock → wpList P ops Q rest (a.put o.dst v') w') : wpList P ops Q (o :: rest) a w := by
  cases ao with
  | some ad => exact wpList_append_own w hgd s x t ho base e i z size bytes ht hi hz hsize hby hzs hsz v n xs hs hown ad m c news hx hl hat.news h1 h63 hbytes hbase fun v' w' h2 h3 _ => h v' w' h2 h3
  | none =>
    obtain rfl : c = 0 := hnil rfl
    have hn : news = [] := by
      cases news with
      | nil => rfl
      | cons u r => obtain ⟨b, q, he, _⟩ := hat 0 u rfl; cases he
    subst hn
    obtain rfl : m = 0 := by
      have : m * size = 0 := by simpa using hl.symm
      rcases Nat.mul_eq_zero.1 this with h | h
      · exact h
      · omega
    exact wpList_append_own_none hgd s x t ho base e i size ht hi v n xs hs hown hx (h v w (by simpa using hown) (World.grownBy.refl _ _))
end Go.Proofs.YtclflmjpdglgiaaGreat.Mem
