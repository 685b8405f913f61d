/-
  Plain lemmas on the memory of the model, more: append of whatever slice onto a row that the call owns; parts of rows. No conditions beyond those that each lemma types.
-/
import Derived.Test.YtbabcohidpcjjaaMemB
namespace Go.Proofs.Ytbabcohidpcjjaa.Mem
open Go Go.RowKit

theorem At.left {w : World} {a : Option Addr} {xs ys : List Value} (h : At w a (xs ++ ys)) : At w a xs := by
  intro j u hj
  refine h j u ?_
  rw [List.getElem?_append_left (by
    rcases Nat.lt_or_ge j xs.length with h' | h'
    · exact h'
    · simp [List.getElem?_eq_none h'] at hj)]
  exact hj
theorem At.news {w : World} {ad : Addr} {xs : List Value} (h : At w (some ad) xs) : ∀ j u, xs[j]? = some u → w.cell? (ad.add j) = some u := by
  intro j u hj
  obtain ⟨b, o, ha, hc⟩ := h j u hj
  cases ha
  unfold Addr.add
  split
  · rename_i h0; subst h0; exact hc
  · exact hc
theorem own_some {w : World} {base : Nat} {e : TypeId} {size : Nat} {v : Value} {n : Nat} {xs : List Value} (h : w.ownsRow base e size v n xs) (hn : 0 < n) : ∃ g cap, v = .slice (some ⟨g, 0, none⟩) n cap ∧ base ≤ g ∧ n ≤ cap ∧ cap ≤ maxLen := by
  rcases h.2 with ⟨_, h0⟩ | ⟨g, cap, cur, rfl, hg, _, hc, hm, _⟩
  · omega
  · exact ⟨g, cap, rfl, hg, hc, hm⟩

/-- 'append(own, xs...)', xs any slice that reads as news: nil or not -/
theorem wpList_append_slice {P : Program} (w : World) {ops : Array Oper} {rest : List Oper} {o : Oper} {a : Act} {Q : Exit → Act → World → Prop} (hgd : o.guard = none) (s x : Operand) (t : TypeId)
    (ho : o.op = .call { callee := .builtin .append, args := #[s, x], argTypes := #[t, t] })
    (base : Nat) (e : TypeId) (i : TypeInfo) (z : Value) (size bytes : Nat) (ht : P.underlying t = some (.slice e)) (hi : P.info? e = some i) (hz : i.zero = some z)
    (hsize : i.size = size) (hby : i.bytes = bytes) (hzs : z.cells.size = size) (hsz : 0 < size)
    (v : Value) (n : Nat) (xs : List Value) (hs : a.eval s = v) (hown : w.ownsRow base e size v n xs)
    (ao : Option Addr) (m c : Nat) (news : List Value) (hx : a.eval x = .slice ao m c) (hl : news.length = m * size) (hnil : ao = none → c = 0) (hat : At w ao news) (h1 : ∀ u ∈ news, u.oneCell' = true)
    (h63 : n + m ≤ maxLen) (hbytes : (n + m) * bytes ≤ 140737488355328) (hbase : base ≤ w.heap.size)
    (h : ∀ v' w', w'.ownsRow base e size v' (n + m) (xs ++ news) → w.grownBy w' v.ownBlock → wpList P ops Q rest (a.put o.dst v') w') : wpList P ops Q (o :: rest) a w := by
  cases ao with
  | some ad => exact wpList_append_own w hgd s x t ho base e i z size bytes ht hi hz hsize hby hzs hsz v n xs hs hown ad m c news hx hl hat.news h1 h63 hbytes hbase fun v' w' h2 h3 _ => h v' w' h2 h3
  | none =>
    obtain rfl : c = 0 := hnil rfl
    have hn : news = [] := by
      cases news with
      | nil => rfl
      | cons u r => obtain ⟨b, q, he, _⟩ := hat 0 u rfl; cases he
    subst hn
    obtain rfl : m = 0 := by
      have : m * size = 0 := by simpa using hl.symm
      rcases Nat.mul_eq_zero.1 this with h | h
      · exact h
      · omega
    exact wpList_append_own_none hgd s x t ho base e i size ht hi v n xs hs hown hx (h v w (by simpa using hown) (World.grownBy.refl _ _))
end Go.Proofs.Ytbabcohidpcjjaa.Mem
