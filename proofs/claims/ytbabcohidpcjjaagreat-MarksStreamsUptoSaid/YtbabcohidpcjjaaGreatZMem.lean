import Derived.WalkKit
import Derived.WalkSpells
import Derived.WalkLawsBesides
import Derived.Lib.Hide
import Derived.Lib.ConvBytes
import Derived.Laws.AppendOwnNone
import Derived.Deep.QuietTactic
import Derived.BigQuiet
import Derived.Deep.RegionWith
import Derived.KernelRfl
import Derived.StillTail
import Derived.StillTactics
/-
  Plain lemmas on the memory of the model, of no program: what a slice's cells hold, what stays when other blocks turn. No conditions beyond those that each lemma types.
-/
namespace Go.Proofs.YtbabcohidpcjjaaGreat.Mem
open Go Go.RowKit

abbrev Str := List UInt8

theorem lt_of_cell {w : World} {a : Addr} {v : Value} (h : w.cell? a = some v) : a.block < w.heap.size := World.block_lt_of_cell? w a h

/-- the cells xs lie where a points to -/
def At (w : World) (a : Option Addr) (xs : List Value) : Prop :=
  ∀ j u, xs[j]? = some u → ∃ b o, a = some ⟨b, o, none⟩ ∧ w.cell? ⟨b, o + j, none⟩ = some u

theorem At.below {w w' : World} {a : Option Addr} {xs : List Value} (h : At w a xs) (hb : Below w.heap.size w w') : At w' a xs := by
  intro j u hj
  obtain ⟨b, o, ha, hc⟩ := h j u hj
  exact ⟨b, o, ha, cell_later hb hc⟩

theorem At.nil (w : World) (a : Option Addr) : At w a [] := by
  intro j u h
  simp at h

theorem At.get {w : World} {b o : Nat} {xs : List Value} (h : At w (some ⟨b, o, none⟩) xs) {j : Nat} {u : Value} (hj : xs[j]? = some u) : w.cell? ⟨b, o + j, none⟩ = some u := by
  obtain ⟨b', o', ha, hc⟩ := h j u hj
  cases ha
  exact hc

theorem At.some_of {w : World} {a : Option Addr} {xs : List Value} (h : At w a xs) (hx : xs ≠ []) : ∃ b o, a = some ⟨b, o, none⟩ := by
  cases xs with
  | nil => exact absurd rfl hx
  | cons u r =>
    obtain ⟨b, o, ha, _⟩ := h 0 u rfl
    exact ⟨b, o, ha⟩

/-- where nothing lies the address does not matter; else there is one -/
theorem At.cases {w : World} {a : Option Addr} {xs : List Value} (h : At w a xs) : xs = [] ∨ ∃ b o, a = some ⟨b, o, none⟩ ∧ b < w.heap.size ∧ ∀ j u, xs[j]? = some u → w.cell? ⟨b, o + j, none⟩ = some u := by
  cases xs with
  | nil => exact .inl rfl
  | cons u r =>
    obtain ⟨b, o, rfl, hc⟩ := h 0 u rfl
    exact .inr ⟨b, o, rfl, lt_of_cell hc, fun j v hj => h.get hj⟩

theorem bcell {W w1 : World} (hb : Below W.heap.size W w1) : (∀ b o, b < W.heap.size → w1.cell? ⟨b, o, none⟩ = W.cell? ⟨b, o, none⟩) ∧ (∀ b o, b < W.heap.size → w1.frozen? ⟨b, o, none⟩ = W.frozen? ⟨b, o, none⟩) :=
  ⟨fun b o h => hb.cell (p := ⟨b, o, none⟩) h, fun b o h => hb.frozen (p := ⟨b, o, none⟩) h⟩

/-- what a callee made lies above what was there when the caller began -/
theorem belowCall {w wr w1 : World} (h : Below w.heap.size w wr) (h1 : Below wr.heap.size wr w1) : Below w.heap.size w w1 := h.trans (h1.mono h.size)

/-- block g begins with the cells xs, none of them frozen -/
def Row (w : World) (g : Nat) (xs : List Value) : Prop :=
  ∃ cur e lo hi, w.heap[g]? = some (.cells cur e (lo, hi)) ∧ cur.toList.take xs.length = xs ∧ (xs.length ≤ lo ∨ hi = 0)

theorem Row.cell {w : World} {g : Nat} {xs : List Value} (h : Row w g xs) {j : Nat} {u : Value} (hj : xs[j]? = some u) : w.cell? ⟨g, j, none⟩ = some u := by
  obtain ⟨cur, e, lo, hi, hg, ht, _⟩ := h
  have hlt : j < xs.length := by
    rcases Nat.lt_or_ge j xs.length with h | h
    · exact h
    · simp [List.getElem?_eq_none h] at hj
  simp only [World.cell?, hg]
  rw [← ht, List.getElem?_take_of_lt hlt] at hj
  simpa using hj

theorem Row.frozen {w : World} {g : Nat} {xs : List Value} (h : Row w g xs) {j : Nat} (hj : j < xs.length) : w.frozen? ⟨g, j, none⟩ = false := by
  obtain ⟨cur, e, lo, hi, hg, ht, hf⟩ := h
  simp only [World.frozen?, hg]
  rcases hf with hf | hf
  · simp; omega
  · subst hf; simp

theorem Row.lt {w : World} {g : Nat} {xs : List Value} (h : Row w g xs) : g < w.heap.size := by
  obtain ⟨cur, e, lo, hi, hg, _⟩ := h
  rcases Nat.lt_or_ge g w.heap.size with h | h
  · exact h
  · simp [Array.getElem?_eq_none h] at hg

theorem Row.set {w : World} {g : Nat} {xs : List Value} (h : Row w g xs) (j : Nat) (v : Value) : Row (w.setCell ⟨g, j, none⟩ v) g (xs.set j v) := by
  obtain ⟨cur, e, lo, hi, hg, ht, hf⟩ := h
  have hlt := Row.lt ⟨cur, e, lo, hi, hg, ht, hf⟩
  refine ⟨cur.setIfInBounds j v, e, lo, hi, ?_, ?_, ?_⟩
  · simp [World.setCell, Array.getElem?_modify, hg]
  · rw [List.length_set, Array.toList_setIfInBounds, List.take_set, ht]
  · rw [List.length_set]; exact hf

theorem Row.kept {w w' : World} {g : Nat} {xs : List Value} (h : Row w g xs) (hg : w'.heap[g]? = w.heap[g]?) : Row w' g xs := by
  obtain ⟨cur, e, lo, hi, h1, h2⟩ := h
  exact ⟨cur, e, lo, hi, hg.trans h1, h2⟩

theorem Row.below {w w' : World} {g B : Nat} {xs : List Value} (h : Row w g xs) (hb : Below B w w') (hg : g < B) : Row w' g xs := h.kept (hb.block g hg)

theorem Row.at {w : World} {g : Nat} {xs : List Value} (h : Row w g xs) : At w (some ⟨g, 0, none⟩) xs := by
  intro j u hj
  exact ⟨g, 0, rfl, by rw [Nat.zero_add]; exact h.cell hj⟩

theorem Row.alloc (w : World) (cur : Array Value) (e : TypeId) : Row (w.alloc (.cells cur e)) w.heap.size cur.toList :=
  ⟨cur, e, 0, 0, heap_alloc_new w _, List.take_of_length_le (Nat.le_refl _), .inr rfl⟩

/-- a new block's cells, whatever the block's number is spelled like -/
theorem at_alloc {w : World} {cur : Array Value} {e : TypeId} {g : Nat} {xs : List Value} (hg : g = w.heap.size) (hc : cur.toList = xs) : At (w.alloc (.cells cur e)) (some ⟨g, 0, none⟩) xs := by
  subst hg hc
  exact (Row.alloc w cur e).at

/-- bytes as cells -/
def bytesV (l : Str) : List Value := l.map fun b => Value.int .u8 b.toNat
theorem bytesV_length (l : Str) : (bytesV l).length = l.length := by simp [bytesV]
theorem bytesV_get (l : Str) (k : Nat) (h : k < l.length) : (bytesV l)[k]? = some (.int .u8 (l[k]).toNat) := by simp [bytesV, h]

/-- a string's size is its list's length -/
theorem size_toList (s : ByteArray) : s.toList.length = s.size := by rw [ByteArray.toList_eq, Array.length_toList]; rfl
theorem mk_toList (s : ByteArray) : (ByteArray.mk s.toList.toArray) = s := by rw [ByteArray.toList_eq]
theorem toList_inj {a b : ByteArray} (h : a.toList = b.toList) : a = b := by rw [← mk_toList a, ← mk_toList b, h]

theorem beqT {a b : ByteArray} (h : (a.toList == b.toList) = true) : a = b := toList_inj (by simpa using h)
theorem beqF {a b : ByteArray} (h : (a.toList == b.toList) = false) : a ≠ b := fun e => by subst e; simp at h
theorem beqL {a b : Str} (h : (a == b) = true) : a = b := by simpa using h
theorem beqLF {a b : Str} (h : (a == b) = false) : a ≠ b := by simpa using h
/-- '[]byte(s)': the row, and the world -/
theorem bytesWorld_row (w : World) (e : TypeId) (s : ByteArray) : Row (Lib.bytesWorld w e s) w.heap.size (bytesV s.toList) := by
  refine ⟨_, _, _, _, Lib.bytesWorld_at_new w e s, ?_, .inl ?_⟩
  · rw [bytesV_length, size_toList]
    simp only [Lib.bytesCells, bytesV, ByteArray.toList_eq, Array.toList_append, Array.toList_map]
    rw [List.take_left']
    simp
  · rw [bytesV_length, size_toList]
    simp [Lib.bytesCells]
theorem bytesWorld_below (w : World) (e : TypeId) (s : ByteArray) : Below w.heap.size w (Lib.bytesWorld w e s) := by
  refine ⟨?_, ?_, ?_, by rw [Lib.bytesWorld_size]; omega, fun k hk => Lib.bytesWorld_at_old w e s k hk⟩
  all_goals (unfold Lib.bytesWorld World.freeze; split <;> rfl)

theorem run_bytes_of {P : Program} (w : World) (src dst e : TypeId) (s : ByteArray) {u : TypeDesc}
    (hs : P.underlying src = some u) (hd : P.underlying dst = some (.slice e)) (he : P.underlying e = some (.int .u8)) :
    ∃ c W, (convert src dst (.string s)).run P w = .ok (.slice (some ⟨w.heap.size, 0, none⟩) s.size c) W ∧ Below w.heap.size w W ∧ W.heap.size = w.heap.size + 1 ∧ Row W w.heap.size (bytesV s.toList) ∧ s.size ≤ c :=
  ⟨_, _, Lib.run_convert_string_bytes w src dst e s hs hd he, bytesWorld_below w e s, Lib.bytesWorld_size w e s, bytesWorld_row w e s, grownCap_ge w s.size 0 e⟩

theorem foldl_push (l : Str) : ∀ s : ByteArray, (l.map fun b => ((b.toNat : Nat) : Int)).foldl (fun r n => r.push (UInt8.ofNat n.toNat)) s = ⟨(s.toList ++ l).toArray⟩ := by
  induction l with
  | nil => intro s; simp [ByteArray.toList_eq]
  | cons b r ih =>
    intro s
    simp only [List.map_cons, List.foldl_cons]
    rw [ih]
    congr 2
    rw [ByteArray.toList_eq, ByteArray.toList_eq]
    simp [ByteArray.push]

/-- 'string(b)' of a row of bytes -/
theorem run_string_of {P : Program} (w : World) (src dst e : TypeId) (g c : Nat) (l : Str) (n : Nat) (hn : n = l.length)
    (hs : P.underlying src = some (.slice e)) (he : P.underlying e = some (.int .u8)) (hd : P.underlying dst = some .string) (hr : Row w g (bytesV l)) :
    (convert src dst (.slice (some ⟨g, 0, none⟩) n c)).run P w = .ok (.string ⟨l.toArray⟩) w := by
  subst hn
  rw [run_convert_bytes_string w src dst e _ _ _ hs he hd]
  have h := run_loadCells_list (P := P) (w := w) ⟨g, 0, none⟩ (bytesV l) (by
    intro j v hj
    rw [Addr.add]
    split
    · rename_i h0; subst h0; exact hr.cell hj
    · have := hr.cell hj; simpa using this)
  rw [bytesV_length] at h
  have h2 := run_bytesToString (P := P) w ⟨g, 0, none⟩ l.length c (l.map fun b => ((b.toNat : Nat) : Int)) (by
    rw [h]; simp [bytesV, Function.comp_def])
  rw [h2, foldl_push]
  simp [ByteArray.toList_eq]

/-- strings as cells -/
def strsV (l : List ByteArray) : List Value := l.map Value.string
theorem strsV_length (l : List ByteArray) : (strsV l).length = l.length := by simp [strsV]
theorem strsV_get (l : List ByteArray) (k : Nat) (h : k < l.length) : (strsV l)[k]? = some (.string l[k]) := by simp [strsV, h]

/-- pairs of strings (attributes, fields) as cells -/
abbrev Pair := ByteArray × ByteArray
def pairsV : List Pair → List Value
  | [] => []
  | p :: r => .string p.1 :: .string p.2 :: pairsV r
theorem pairsV_length (l : List Pair) : (pairsV l).length = l.length * 2 := by
  induction l with
  | nil => rfl
  | cons p r ih => simp only [pairsV, List.length_cons, ih]; omega
theorem pairsV_get0 : ∀ (l : List Pair) (k : Nat) (h : k < l.length), (pairsV l)[k * 2]? = some (.string l[k].1)
  | [], _, h => by simp at h
  | p :: r, 0, _ => rfl
  | p :: r, k + 1, h => by
    have := pairsV_get0 r k (by simpa using h)
    rw [show (k + 1) * 2 = k * 2 + 1 + 1 from by omega]
    simpa [pairsV] using this
theorem pairsV_get1 : ∀ (l : List Pair) (k : Nat) (h : k < l.length), (pairsV l)[k * 2 + 1]? = some (.string l[k].2)
  | [], _, h => by simp at h
  | p :: r, 0, _ => rfl
  | p :: r, k + 1, h => by
    have := pairsV_get1 r k (by simpa using h)
    rw [show (k + 1) * 2 + 1 = k * 2 + 1 + 1 + 1 from by omega]
    simpa [pairsV] using this
/-- the cells of pair k, spelled as the walk spells them -/
theorem pair_cells {w : World} {a : Option Addr} {l : List Pair} (h : At w a (pairsV l)) {k : Nat} (hk : k < l.length) :
    ∃ b o, a = some ⟨b, o, none⟩ ∧ b < w.heap.size ∧ w.cell? ⟨b, o + k * 2, none⟩ = some (.string l[k].1) ∧ w.cell? ⟨b, o + k * 2 + 1, none⟩ = some (.string l[k].2) := by
  obtain ⟨b, o, rfl, h1⟩ := h _ _ (pairsV_get0 l k hk)
  exact ⟨b, o, rfl, lt_of_cell h1, h1, by rw [Nat.add_assoc]; exact h.get (pairsV_get1 l k hk)⟩
theorem str_cell {w : World} {a : Option Addr} {l : List ByteArray} (h : At w a (strsV l)) {k : Nat} (hk : k < l.length) :
    ∃ b o, a = some ⟨b, o, none⟩ ∧ b < w.heap.size ∧ w.cell? ⟨b, o + k, none⟩ = some (.string l[k]) := by
  obtain ⟨b, o, rfl, h1⟩ := h _ _ (strsV_get l k hk)
  exact ⟨b, o, rfl, lt_of_cell h1, h1⟩
theorem pairsV_append (l r : List Pair) : pairsV (l ++ r) = pairsV l ++ pairsV r := by
  induction l with
  | nil => rfl
  | cons p l ih => simp [pairsV, ih]
theorem pairsV_one (l : List Pair) : ∀ u ∈ pairsV l, u.oneCell' = true := by
  induction l with
  | nil => intro u h; cases h
  | cons p r ih =>
    intro u h
    simp only [pairsV, List.mem_cons] at h
    rcases h with rfl | rfl | h
    · rfl
    · rfl
    · exact ih u h

theorem drewN_two (w : World) (n m : Nat) : (w.drewN n).drewN m = w.drewN (n + m) := by simp [World.drewN, Nat.add_assoc]
theorem ret_int {k : IntKind} {a b : Int} (h : a = b) : Ending.returned (.int k a) = .returned (.int k b) := by rw [h]
theorem ret_bool {a b : Bool} (h : a = b) : Ending.returned (.bool a) = .returned (.bool b) := by rw [h]
theorem ret_string {a b : ByteArray} (h : a = b) : Ending.returned (.string a) = .returned (.string b) := by rw [h]
theorem ret_eq {v v' : Value} (h : v = v') : Ending.returned v = .returned v' := by rw [h]

end Go.Proofs.YtbabcohidpcjjaaGreat.Mem

/-
  Plain lemmas on the memory of the model, more: rows that a call owns; pairs of strings. No conditions beyond those that each lemma types.
-/
namespace Go.Proofs.YtbabcohidpcjjaaGreat.Mem
open Go Go.RowKit

/-- what is owned stays owned where its block stays -/
theorem own_kept {w w' : World} {base : Nat} {e : TypeId} {size : Nat} {v : Value} {n : Nat} {xs : List Value} (h : w.ownsRow base e size v n xs) (hb : ∀ g, v.ownBlock = some g → w'.heap[g]? = w.heap[g]?) : w'.ownsRow base e size v n xs := by
  obtain ⟨h1, h2⟩ := h
  refine ⟨h1, ?_⟩
  rcases h2 with h2 | ⟨g, cap, cur, rfl, hg, hh, r⟩
  · exact .inl h2
  · exact .inr ⟨g, cap, cur, rfl, hg, (hb g rfl).trans hh, r⟩
theorem own_below {w w' : World} {base : Nat} {e : TypeId} {size : Nat} {v : Value} {n : Nat} {xs : List Value} (h : w.ownsRow base e size v n xs) (hb : Below w.heap.size w w') : w'.ownsRow base e size v n xs :=
  own_kept h fun g hg => hb.block g (h.lt g hg).2
theorem own_row {w : World} {base : Nat} {e : TypeId} {size g : Nat} {n c : Nat} {xs : List Value} (h : w.ownsRow base e size (.slice (some ⟨g, 0, none⟩) n c) n xs) : Row w g xs := by
  rcases h.2 with ⟨h', _⟩ | ⟨g', cap, cur, h', _, hg, _, _, _, ht⟩
  · cases h'
  · cases h'
    exact ⟨cur, e, 0, 0, hg, by rw [h.1]; exact ht, .inr rfl⟩
/-- what is owned lies at its address -/
theorem own_at {w : World} {base : Nat} {e : TypeId} {size : Nat} {v : Value} {n : Nat} {xs : List Value} (h : w.ownsRow base e size v n xs) :
    ∃ a c, v = .slice a n c ∧ n ≤ c ∧ c ≤ maxLen ∧ (a = none → c = 0) ∧ At w a xs := by
  obtain ⟨h1, h2⟩ := h
  rcases h2 with ⟨rfl, rfl⟩ | ⟨g, cap, cur, rfl, hg, hh, r1, r2, r3, r4⟩
  · have : xs = [] := List.eq_nil_of_length_eq_zero (by simpa using h1)
    subst this
    exact ⟨none, 0, rfl, Nat.le_refl _, Nat.zero_le _, fun _ => rfl, At.nil _ _⟩
  · exact ⟨some ⟨g, 0, none⟩, cap, rfl, r1, r2, (fun h => by cases h), (own_row (base := base) (e := e) (size := size) ⟨h1, .inr ⟨g, cap, cur, rfl, hg, hh, r1, r2, r3, r4⟩⟩).at⟩

/-- n empty pairs -/
def blanks (n : Nat) : List Pair := List.replicate n (⟨#[]⟩, ⟨#[]⟩)
theorem made_pairs (n : Nat) : (madeCells #[.string ⟨#[]⟩, .string ⟨#[]⟩] (n * 2)).toList = pairsV (blanks n) := by
  apply List.ext_getElem?
  intro j
  have hl : (pairsV (blanks n)).length = n * 2 := by rw [pairsV_length]; simp [blanks]
  by_cases hj : j < n * 2
  · have hk : j / 2 < (blanks n).length := by simp [blanks]; omega
    have h0 := pairsV_get0 (blanks n) (j / 2) hk
    have h1 := pairsV_get1 (blanks n) (j / 2) hk
    rcases Nat.mod_two_eq_zero_or_one j with h | h
    · rw [show j / 2 * 2 = j from by omega] at h0
      rw [h0]
      simp [madeCells, hj, h, blanks]
    · rw [show j / 2 * 2 + 1 = j from by omega] at h1
      rw [h1]
      simp [madeCells, hj, h, blanks]
  · rw [List.getElem?_eq_none (by simp [madeCells]; omega), List.getElem?_eq_none (by omega)]
theorem pairsV_set : ∀ (l : List Pair) (k : Nat) (p : Pair), ((pairsV l).set (k * 2) (.string p.1)).set (k * 2 + 1) (.string p.2) = pairsV (l.set k p)
  | [], _, _ => by simp [pairsV]
  | q :: r, 0, p => rfl
  | q :: r, k + 1, p => by
    rw [show (k + 1) * 2 = k * 2 + 1 + 1 from by omega, show k * 2 + 1 + 1 + 1 = (k * 2 + 1) + 1 + 1 from rfl]
    simp only [pairsV, List.set_cons_succ, pairsV_set r k p]

end Go.Proofs.YtbabcohidpcjjaaGreat.Mem

/-
  Plain lemmas on the memory of the model, more: append of whatever slice onto a row that the call owns; parts of rows. No conditions beyond those that each lemma types.
-/
namespace Go.Proofs.YtbabcohidpcjjaaGreat.Mem
open Go Go.RowKit

theorem At.left {w : World} {a : Option Addr} {xs ys : List Value} (h : At w a (xs ++ ys)) : At w a xs := by
  intro j u hj
  refine h j u ?_
  rw [List.getElem?_append_left (by
    rcases Nat.lt_or_ge j xs.length with h' | h'
    · exact h'
    · simp [List.getElem?_eq_none h'] at hj)]
  exact hj
theorem At.news {w : World} {ad : Addr} {xs : List Value} (h : At w (some ad) xs) : ∀ j u, xs[j]? = some u → w.cell? (ad.add j) = some u := by
  intro j u hj
  obtain ⟨b, o, ha, hc⟩ := h j u hj
  cases ha
  unfold Addr.add
  split
  · rename_i h0; subst h0; exact hc
  · exact hc
theorem own_some {w : World} {base : Nat} {e : TypeId} {size : Nat} {v : Value} {n : Nat} {xs : List Value} (h : w.ownsRow base e size v n xs) (hn : 0 < n) : ∃ g cap, v = .slice (some ⟨g, 0, none⟩) n cap ∧ base ≤ g ∧ n ≤ cap ∧ cap ≤ maxLen := by
  rcases h.2 with ⟨_, h0⟩ | ⟨g, cap, cur, rfl, hg, _, hc, hm, _⟩
  · omega
  · exact ⟨g, cap, rfl, hg, hc, hm⟩

/-- 'append(own, xs...)', xs any slice that reads as news: nil or not -/
theorem wpList_append_slice {P : Program} (w : World) {ops : Array Oper} {rest : List Oper} {o : Oper} {a : Act} {Q : Exit → Act → World → Prop} (hgd : o.guard = none) (s x : Operand) (t : TypeId)
    (ho : o.op = .call { callee := .builtin .append, args := #[s, x], argTypes := #[t, t] })
    (base : Nat) (e : TypeId) (i : TypeInfo) (z : Value) (size bytes : Nat) (ht : P.underlying t = some (.slice e)) (hi : P.info? e = some i) (hz : i.zero = some z)
    (hsize : i.size = size) (hby : i.bytes = bytes) (hzs : z.cells.size = size) (hsz : 0 < size)
    (v : Value) (n : Nat) (xs : List Value) (hs : a.eval s = v) (hown : w.ownsRow base e size v n xs)
    (ao : Option Addr) (m c : Nat) (news : List Value) (hx : a.eval x = .slice ao m c) (hl : news.length = m * size) (hnil : ao = none → c = 0) (hat : At w ao news) (h1 : ∀ u ∈ news, u.oneCell' = true)
    (h63 : n + m ≤ maxLen) (hbytes : (n + m) * bytes ≤ 140737488355328) (hbase : base ≤ w.heap.size)
    (h : ∀ v' w', w'.ownsRow base e size v' (n + m) (xs ++ news) → w.grownBy w' v.ownBlock → wpList P ops Q rest (a.put o.dst v') w') : wpList P ops Q (o :: rest) a w := by
  cases ao with
  | some ad => exact wpList_append_own w hgd s x t ho base e i z size bytes ht hi hz hsize hby hzs hsz v n xs hs hown ad m c news hx hl hat.news h1 h63 hbytes hbase fun v' w' h2 h3 _ => h v' w' h2 h3
  | none =>
    obtain rfl : c = 0 := hnil rfl
    have hn : news = [] := by
      cases news with
      | nil => rfl
      | cons u r => obtain ⟨b, q, he, _⟩ := hat 0 u rfl; cases he
    subst hn
    obtain rfl : m = 0 := by
      have : m * size = 0 := by simpa using hl.symm
      rcases Nat.mul_eq_zero.1 this with h | h
      · exact h
      · omega
    exact wpList_append_own_none hgd s x t ho base e i size ht hi v n xs hs hown hx (h v w (by simpa using hown) (World.grownBy.refl _ _))
end Go.Proofs.YtbabcohidpcjjaaGreat.Mem

/-
  Words of a list: is a text one of them? Plain facts. No conditions beyond those that each lemma types.
-/
namespace Go.Proofs.YtbabcohidpcjjaaGreat
open Go Go.RowKit Mem

def isW (l : List ByteArray) (word : ByteArray) : Bool := l.any fun x => word.toList == x.toList
theorem isW_lit {names : List ByteArray} {x : ByteArray} {l : List UInt8} (h : (x.toList == l) = true) (hm : (names.any fun y => l == y.toList) = true) : isW names x = true := by
  have : x.toList = l := by simpa using h
  rw [isW, this]
  exact hm
theorem clash {x l : List UInt8} (h : (x == l) = true) (h' : (x == l) = false) {p : Prop} : p := by rw [h] at h'; cases h'
end Go.Proofs.YtbabcohidpcjjaaGreat

/-
  A region that draws its order, whose operations read, and whose callees touch no block that stood at the region's beginning (they may lay new ones): walked once, in the order of the text. By the kit's wp_region_quiet, at the class 'Below'. No conditions beyond those typed.
-/
namespace Go.Proofs.YtbabcohidpcjjaaGreat
open Go Go.RowKit Mem

theorem wp_region_calm {P : Program} {id : Nat} {Q : Exit → Act → World → Prop} {a : Act} {w : World} {l : List Oper} (hm : P.follows .mixedOrders = true) (hB : Region.lexB .any l.toArray = true)
    (h : wpQuiet P l.toArray (fun w' => Hid (Below w.heap.size w w')) (fun a' => ∀ w', Hid (Below w.heap.size w w') → Q .normal a' w') l a) : (Code.region id l.toArray true).wp P Q a w :=
  wp_region_quiet (C := fun w' => Hid (Below w.heap.size w w')) hm hB (Lib.hid (Below.refl _ w).drew) (by simpa using h)

theorem calm_skip {P : Program} {ops : Array Oper} {o : Oper} {a : Act} {C : World → Prop} {K : Act → Prop} (hw : Region.wanted o (yielded ops a.tmps) = false) (h : K (a.put o.dst undef)) :
    if Region.wanted o (yielded ops a.tmps) then o.quiet P a C K else K (a.put o.dst undef) := by
  rw [if_neg (by rw [hw]; decide)]; exact h

theorem calm_run {P : Program} {ops : Array Oper} {o : Oper} {a : Act} {C : World → Prop} {K : Act → Prop} {v : Value} (hw : Region.wanted o (yielded ops a.tmps) = true) (h : ∀ w, C w → o.quietAt P a C w v) (hk : K (a.put o.dst v)) :
    if Region.wanted o (yielded ops a.tmps) then o.quiet P a C K else K (a.put o.dst undef) := by
  rw [if_pos hw]; exact ⟨v, h, hk⟩

end Go.Proofs.YtbabcohidpcjjaaGreat

/-
  Plain lemmas on the memory of the model: a tree of nodes in a row of seven cells each, behind a pointer. No conditions beyond those that each lemma types.
-/
namespace Go.Proofs.YtbabcohidpcjjaaGreat.Mem
open Go Go.RowKit

/-- ints as cells -/
def intsV (l : List Int) : List Value := l.map (Value.int .i64)
theorem intsV_length (l : List Int) : (intsV l).length = l.length := by simp [intsV]
theorem intsV_get (l : List Int) (k : Nat) (h : k < l.length) : (intsV l)[k]? = some (.int .i64 l[k]) := by simp [intsV, h]
theorem intsV_append (l r : List Int) : intsV (l ++ r) = intsV l ++ intsV r := by simp [intsV]
theorem intsV_one (l : List Int) : ∀ u ∈ intsV l, u.oneCell' = true := by
  intro u h
  obtain ⟨n, _, rfl⟩ := List.mem_map.1 h
  rfl

/-- all that was there stays, but for the blocks of F -/
structure Keeps (F : Nat → Prop) (w w' : World) : Prop where
  os : w'.os = w.os
  tape : w'.tape = w.tape
  output : w'.output = w.output
  size : w.heap.size ≤ w'.heap.size
  block : ∀ k, k < w.heap.size → ¬ F k → w'.heap[k]? = w.heap[k]?
theorem Keeps.refl (F : Nat → Prop) (w : World) : Keeps F w w := ⟨rfl, rfl, rfl, Nat.le_refl _, fun _ _ _ => rfl⟩
theorem Keeps.trans {F : Nat → Prop} {a b c : World} (h : Keeps F a b) (k : Keeps F b c) : Keeps F a c :=
  ⟨k.os.trans h.os, k.tape.trans h.tape, k.output.trans h.output, Nat.le_trans h.size k.size, fun i hi hF => (k.block i (Nat.lt_of_lt_of_le hi h.size) hF).trans (h.block i hi hF)⟩
theorem Keeps.ofBelow {F : Nat → Prop} {w w' : World} (h : Below w.heap.size w w') : Keeps F w w' := ⟨h.os, h.tape, h.output, h.size, fun k hk _ => h.block k hk⟩
theorem Keeps.mono {F G : Nat → Prop} {w w' : World} (h : Keeps F w w') (hFG : ∀ k, k < w.heap.size → F k → G k) : Keeps G w w' := ⟨h.os, h.tape, h.output, h.size, fun k hk hG => h.block k hk fun hF => hG (hFG k hk hF)⟩
theorem Keeps.set {F : Nat → Prop} {a w : World} (h : Keeps F a w) {p : Addr} (hp : F p.block ∨ a.heap.size ≤ p.block) (u : Value) : Keeps F a (w.setCell p u) :=
  ⟨h.os, h.tape, h.output, by rw [World.size_setCell]; exact h.size, fun k hk hF => by
    have hne : k ≠ p.block := by
      intro e
      rcases hp with hp | hp
      · exact hF (e ▸ hp)
      · omega
    rw [heap_setCell_other _ _ _ _ hne]; exact h.block k hk hF⟩
theorem Keeps.alloc {F : Nat → Prop} {a w : World} (h : Keeps F a w) (o : Obj) : Keeps F a (w.alloc o) :=
  ⟨h.os, h.tape, h.output, by rw [World.size_alloc]; have := h.size; omega, fun k hk hF => (Below.heap_alloc w o k (Nat.lt_of_lt_of_le hk h.size)).trans (h.block k hk hF)⟩
theorem Keeps.drew {F : Nat → Prop} {a w : World} (h : Keeps F a w) : Keeps F a w.drew := ⟨h.os, h.tape, h.output, h.size, h.block⟩
theorem Keeps.below {F : Nat → Prop} {w w' : World} {B : Nat} (h : Keeps F w w') (hF : ∀ k, k < B → ¬ F k) (hB : B ≤ w.heap.size) : Below B w w' :=
  ⟨h.os, h.tape, h.output, h.size, fun k hk => h.block k (Nat.lt_of_lt_of_le hk hB) (hF k hk)⟩

/-- cells at an address outside F -/
def AtF (F : Nat → Prop) (w : World) (a : Option Addr) (xs : List Value) : Prop :=
  ∀ j u, xs[j]? = some u → ∃ b o, a = some ⟨b, o, none⟩ ∧ ¬ F b ∧ w.cell? ⟨b, o + j, none⟩ = some u
theorem AtF.at {F : Nat → Prop} {w : World} {a : Option Addr} {xs : List Value} (h : AtF F w a xs) : At w a xs := fun j u hj =>
  let ⟨b, o, ha, _, hc⟩ := h j u hj; ⟨b, o, ha, hc⟩
theorem AtF.kept {F : Nat → Prop} {w w' : World} {a : Option Addr} {xs : List Value} (h : AtF F w a xs) (hk : Keeps F w w') : AtF F w' a xs := by
  intro j u hj
  obtain ⟨b, o, ha, hF, hc⟩ := h j u hj
  refine ⟨b, o, ha, hF, ?_⟩
  rw [World.cell?_of_block (w := w) (hk.block b (lt_of_cell hc) hF)]
  exact hc
theorem AtF.of_new {F : Nat → Prop} {w' : World} {a : Option Addr} {xs : List Value} (h : At w' a xs) (hF : ∀ b o s, a = some ⟨b, o, s⟩ → ¬ F b) : AtF F w' a xs := fun j u hj =>
  let ⟨b, o, ha, hc⟩ := h j u hj; ⟨b, o, ha, hF b o _ ha, hc⟩
theorem AtF.other {F G : Nat → Prop} {w : World} {a : Option Addr} {xs : List Value} (h : AtF F w a xs) (hFG : ∀ b, b < w.heap.size → G b → F b) : AtF G w a xs := fun j u hj =>
  let ⟨b, o, ha, hF, hc⟩ := h j u hj; ⟨b, o, ha, fun hG => hF (hFG b (lt_of_cell hc) hG), hc⟩

/-- a node's data -/
structure ND where
  elem : Bool
  space : Int
  name : ByteArray
  attrs : List Pair
  text : ByteArray
  parent : Int
  kids : List Int

/-- its seven cells -/
def cells7 (d : ND) (aa : Option Addr) (ac : Nat) (ka : Option Addr) (kc : Nat) : List Value :=
  [.bool d.elem, .int .i64 d.space, .string d.name, .slice aa d.attrs.length ac, .string d.text, .int .i64 d.parent, .slice ka d.kids.length kc]

/-- a slice's head is nil, or the beginning of a block -/
def RowForm (a : Option Addr) (c : Nat) : Prop := (a = none ∧ c = 0) ∨ ∃ b, a = some ⟨b, 0, none⟩
theorem RowForm.nil {a : Option Addr} {c : Nat} (h : RowForm a c) : a = none → c = 0 := by
  rcases h with ⟨_, h⟩ | ⟨b, h⟩
  · exact fun _ => h
  · intro e; rw [h] at e; cases e
theorem own_form {w : World} {base : Nat} {e : TypeId} {size : Nat} {a : Option Addr} {n m c : Nat} {xs : List Value} (h : w.ownsRow base e size (.slice a m c) n xs) : RowForm a c := by
  rcases h.2 with ⟨hv, _⟩ | ⟨g, cap, cur, hv, _⟩
  · cases hv; exact .inl ⟨rfl, rfl⟩
  · cases hv; exact .inr ⟨g, rfl⟩

def NodeAt (F : Nat → Prop) (w : World) (cs : List Value) (d : ND) : Prop :=
  ∃ aa ac ka kc, cs = cells7 d aa ac ka kc ∧ d.attrs.length ≤ ac ∧ ac ≤ maxLen ∧ (aa = none → ac = 0) ∧ d.kids.length ≤ kc ∧ kc ≤ maxLen ∧ RowForm ka kc ∧ AtF F w aa (pairsV d.attrs) ∧ AtF F w ka (intsV d.kids)
theorem NodeAt.kept {F : Nat → Prop} {w w' : World} {cs : List Value} {d : ND} (h : NodeAt F w cs d) (hk : Keeps F w w') : NodeAt F w' cs d := by
  obtain ⟨aa, ac, ka, kc, h1, h2, h3, h4, h5, h6, h7, h8, h9⟩ := h
  exact ⟨aa, ac, ka, kc, h1, h2, h3, h4, h5, h6, h7, h8.kept hk, h9.kept hk⟩
theorem NodeAt.other {F G : Nat → Prop} {w : World} {cs : List Value} {d : ND} (h : NodeAt F w cs d) (hFG : ∀ b, b < w.heap.size → G b → F b) : NodeAt G w cs d := by
  obtain ⟨aa, ac, ka, kc, h1, h2, h3, h4, h5, h6, h7, h8, h9⟩ := h
  exact ⟨aa, ac, ka, kc, h1, h2, h3, h4, h5, h6, h7, h8.other hFG, h9.other hFG⟩
theorem NodeAt.len {F : Nat → Prop} {w : World} {cs : List Value} {d : ND} (h : NodeAt F w cs d) : cs.length = 7 := by
  obtain ⟨aa, ac, ka, kc, rfl, _⟩ := h
  rfl

/-- cell lists of seven each -/
theorem flat7 : ∀ (Cs : List (List Value)), (∀ c ∈ Cs, c.length = 7) → Cs.flatten.length = Cs.length * 7
  | [], _ => rfl
  | c :: r, h => by
    rw [List.flatten_cons, List.length_append, flat7 r fun x hx => h x (List.mem_cons_of_mem _ hx), h c List.mem_cons_self, List.length_cons]
    omega
theorem flat7_get : ∀ (Cs : List (List Value)) (i f : Nat) (hi : i < Cs.length), (∀ c ∈ Cs, c.length = 7) → f < 7 → Cs.flatten[i * 7 + f]? = Cs[i][f]?
  | [], _, _, hi, _, _ => by simp at hi
  | c :: r, 0, f, _, h, hf => by
    rw [List.flatten_cons, List.getElem?_append_left (by rw [h c List.mem_cons_self]; omega)]
    simp
  | c :: r, i + 1, f, hi, h, hf => by
    have h7 := h c List.mem_cons_self
    rw [List.flatten_cons, List.getElem?_append_right (by rw [h7]; omega), h7, show (i + 1) * 7 + f - 7 = i * 7 + f from by omega]
    rw [flat7_get r i f (by simpa using hi) (fun x hx => h x (List.mem_cons_of_mem _ hx)) hf]
    simp
theorem flat7_set : ∀ (Cs : List (List Value)) (i f : Nat) (v : Value) (hi : i < Cs.length), (∀ c ∈ Cs, c.length = 7) → f < 7 → Cs.flatten.set (i * 7 + f) v = (Cs.set i (Cs[i].set f v)).flatten
  | [], _, _, _, hi, _, _ => by simp at hi
  | c :: r, 0, f, v, _, h, hf => by
    rw [List.flatten_cons, List.set_append_left _ _ (by rw [h c List.mem_cons_self]; omega)]
    simp
  | c :: r, i + 1, f, v, hi, h, hf => by
    have h7 := h c List.mem_cons_self
    rw [List.flatten_cons, List.set_append_right _ _ (by rw [h7]; omega), h7, show (i + 1) * 7 + f - 7 = i * 7 + f from by omega]
    rw [flat7_set r i f v (by simpa using hi) (fun x hx => h x (List.mem_cons_of_mem _ hx)) hf]
    simp

structure TreeD where
  nodes : List ND
  most : Int
  /-- blocks that its data avoid -/
  far : Nat → Prop

def noFar : Nat → Prop := fun _ => False

/-- the blocks of a tree that are written -/
def Two (tb g : Nat) : Nat → Prop := fun k => k = tb ∨ k = g
/-- the blocks that a tree's data lie outside of -/
def Dat (far : Nat → Prop) (tb g : Nat) : Nat → Prop := fun k => Two tb g k ∨ far k

/-- a tree behind the pointer to block tb, its nodes in block g -/
def TreeAt (tT tN : TypeId) (w : World) (tb g : Nat) (T : TreeD) : Prop :=
  ∃ cap Cs, tb ≠ g ∧ w.heap[tb]? = some (.cells #[.slice (some ⟨g, 0, none⟩) T.nodes.length cap, .int .i64 T.most] tT (0, 0)) ∧
    w.ownsRow 0 tN 7 (.slice (some ⟨g, 0, none⟩) T.nodes.length cap) T.nodes.length (List.flatten Cs) ∧ Cs.length = T.nodes.length ∧
    (∀ i (h : i < Cs.length) (h' : i < T.nodes.length), NodeAt (Dat T.far tb g) w Cs[i] T.nodes[i]) ∧ ∀ k, T.far k → k < w.heap.size ∧ k ≠ tb ∧ k ≠ g

section
variable {tT tN : TypeId} {w w' : World} {tb g : Nat} {T : TreeD}

theorem TreeAt.lt (h : TreeAt tT tN w tb g T) : tb < w.heap.size ∧ g < w.heap.size := by
  obtain ⟨cap, Cs, hne, ht, ho, hl, hn, hfar⟩ := h
  refine ⟨?_, (ho.lt g rfl).2⟩
  rcases Nat.lt_or_ge tb w.heap.size with h | h
  · exact h
  · simp [Array.getElem?_eq_none h] at ht

theorem TreeAt.far_lt (h : TreeAt tT tN w tb g T) : ∀ k, T.far k → k < w.heap.size ∧ k ≠ tb ∧ k ≠ g := by
  obtain ⟨cap, Cs, hne, ht, ho, hl, hn, hfar⟩ := h
  exact hfar

/-- new blocks, draws leave it -/
theorem TreeAt.below (h : TreeAt tT tN w tb g T) (hb : Below w.heap.size w w') : TreeAt tT tN w' tb g T := by
  have hlt := h.lt
  obtain ⟨cap, Cs, hne, ht, ho, hl, hn, hfar⟩ := h
  exact ⟨cap, Cs, hne, (hb.block tb hlt.1).trans ht, own_below ho hb, hl, fun i h h' => (hn i h h').kept (Keeps.ofBelow hb), fun k hk => ⟨Nat.lt_of_lt_of_le (hfar k hk).1 hb.size, (hfar k hk).2⟩⟩

/-- the tree's own two cells -/
theorem TreeAt.head (h : TreeAt tT tN w tb g T) : ∃ cap, T.nodes.length ≤ cap ∧ cap ≤ maxLen ∧ w.cell? ⟨tb, 0, none⟩ = some (.slice (some ⟨g, 0, none⟩) T.nodes.length cap) ∧ w.cell? ⟨tb, 1, none⟩ = some (.int .i64 T.most) ∧
    w.frozen? ⟨tb, 0, none⟩ = false ∧ w.frozen? ⟨tb, 1, none⟩ = false := by
  obtain ⟨cap, Cs, hne, ht, ho, hl, hn, hfar⟩ := h
  obtain ⟨a, c, hv, h1, h2, _⟩ := own_at ho
  simp only [Value.slice.injEq] at hv
  obtain ⟨_, _, rfl⟩ := hv
  exact ⟨cap, h1, h2, by simp [World.cell?, ht], by simp [World.cell?, ht], frozen_of_row _ _ _ _ _ ht, frozen_of_row _ _ _ _ _ ht⟩

theorem nodes_len {Cs : List (List Value)} (hl : Cs.length = T.nodes.length) (hn : ∀ i (h : i < Cs.length) (h' : i < T.nodes.length), NodeAt (Dat T.far tb g) w Cs[i] T.nodes[i]) : ∀ c ∈ Cs, c.length = 7 := by
  intro c hc
  obtain ⟨i, hi, rfl⟩ := List.getElem_of_mem hc
  exact (hn i hi (by omega)).len

/-- a node's seven cells, and what its slices hold -/
theorem TreeAt.node (h : TreeAt tT tN w tb g T) {i : Nat} (hi : i < T.nodes.length) :
    ∃ aa ac ka kc, T.nodes[i].attrs.length ≤ ac ∧ ac ≤ maxLen ∧ (aa = none → ac = 0) ∧ T.nodes[i].kids.length ≤ kc ∧ kc ≤ maxLen ∧ RowForm ka kc ∧
      AtF (Dat T.far tb g) w aa (pairsV T.nodes[i].attrs) ∧ AtF (Dat T.far tb g) w ka (intsV T.nodes[i].kids) ∧
      (∀ f v, (cells7 T.nodes[i] aa ac ka kc)[f]? = some v → w.cell? ⟨g, i * 7 + f, none⟩ = some v) ∧ ∀ j, w.frozen? ⟨g, j, none⟩ = false := by
  obtain ⟨cap, Cs, hne, ht, ho, hl, hn, hfar⟩ := h
  have h7 := nodes_len hl hn
  obtain ⟨aa, ac, ka, kc, h1, h2, h3, h4, h5, h6, h7', h8, h9⟩ := hn i (by omega) hi
  refine ⟨aa, ac, ka, kc, h2, h3, h4, h5, h6, h7', h8, h9, ?_, ho.frozenAt⟩
  intro f v hf
  have hf7 : f < 7 := by
    have := (List.getElem?_eq_some_iff.1 hf).1
    simpa [cells7] using this
  refine (own_row ho).cell ?_
  rw [flat7_get Cs i f (by omega) h7 hf7, h1]
  exact hf

/-- one cell of a node is written -/
theorem TreeAt.write (h : TreeAt tT tN w tb g T) {i : Nat} (hi : i < T.nodes.length) (f : Nat) (hf : f < 7) (v : Value) (d : ND)
    (hd : ∀ cs, NodeAt (Dat T.far tb g) w cs T.nodes[i] → NodeAt (Dat T.far tb g) w (cs.set f v) d) :
    TreeAt tT tN (w.setCell ⟨g, i * 7 + f, none⟩ v) tb g { T with nodes := T.nodes.set i d } := by
  obtain ⟨cap, Cs, hne, ht, ho, hl, hn, hfar⟩ := h
  have h7 := nodes_len hl hn
  have hk : Keeps (Dat T.far tb g) w (w.setCell ⟨g, i * 7 + f, none⟩ v) := (Keeps.refl _ _).set (.inl (.inl (.inr rfl))) v
  refine ⟨cap, Cs.set i (Cs[i].set f v), hne, ?_, ?_, by simpa using hl, ?_, fun k hk => by rw [World.size_setCell]; exact hfar k hk⟩
  · rw [heap_setCell_other _ _ _ _ hne]; simpa using ht
  · rw [← flat7_set Cs i f v (by omega) h7 hf]
    simpa using (ho.stored (i * 7 + f) v).1
  · intro j hj hj'
    simp only [List.length_set] at hj hj'
    simp only [List.getElem_set]
    split
    · rename_i e
      subst e
      exact (hd _ (hn i hj hj')).kept hk
    · exact (hn j hj hj').kept hk
end
end Go.Proofs.YtbabcohidpcjjaaGreat.Mem

/-
  A drawn region whose loads all lie ahead of one operation that writes, behind which nothing touches the world (a call with several results): each operation once, in the text's order. No conditions beyond those that each lemma types.
-/
namespace Go.Proofs.YtbabcohidpcjjaaGreat.Mem
open Go

section
variable {P : Program} {ops : Array Oper} {md : Region.Mode} {w : World}

/-- each operation behind the n-th waits for one between -/
def sinksB (md : Region.Mode) (ops : Array Oper) (n : Nat) : Bool :=
  (List.range ops.size).all fun t => decide (t ≤ n) || (List.range t).any fun s => decide (n ≤ s) && Region.waitsFor md ops t s

theorem waits_end {n : Nat} {listed : Array Bool} (hs : Region.sinkB md ops n = true) (hc : sinksB md ops n = true) (inv : HeadInv md ops n listed) {i : Nat} (hi : i < n) (hn : n < ops.size) (hun : listed.getD i true = false) :
    ∀ t, n ≤ t → t ∉ Region.ready md ops listed := by
  intro t ht hr
  obtain ⟨_, ot, hot, hall⟩ := mem_ready.1 hr
  rcases Nat.lt_or_ge n t with htn | htn
  · have h1 := List.all_eq_true.1 hc t (List.mem_range.2 (Array.getElem?_eq_some_iff.1 hot).1)
    rw [Bool.or_eq_true, decide_eq_true_eq] at h1
    obtain ⟨s, hs1, hs2⟩ := List.any_eq_true.1 (h1.resolve_left (by omega))
    rw [Bool.and_eq_true, decide_eq_true_eq] at hs2
    obtain ⟨o', ho', e, he, hb, hon⟩ := Region.waitsFor_spec hs2.2
    obtain rfl := Option.some.inj (ho'.symm.trans hot)
    have h2 := hall e he hb
    have hst := List.mem_range.1 hs1
    have htlt := (Array.getElem?_eq_some_iff.1 hot).1
    rw [hon, getD_both (inv.tail s hs2.1 (by omega))] at h2
    cases h2
  · obtain rfl : t = n := by omega
    -- the highest unlisted one below
    suffices H : ∀ d k, t - k = d → k < t → listed.getD k true = false → False from H _ i rfl hi hun
    intro d
    induction d using Nat.strongRecOn with
    | _ d ih =>
      intro k hd hk hk0
      obtain ⟨j, hj, hj2⟩ := List.any_eq_true.1 (List.all_eq_true.1 hs k (List.mem_range.2 hk))
      rw [Bool.and_eq_true, decide_eq_true_eq] at hj2
      obtain ⟨oj, hoj, e, he, hb, hon⟩ := Region.waitsFor_spec hj2.2
      have hjt := List.mem_range.1 hj
      rcases Nat.lt_or_ge j t with hlt | hge
      · cases hl : listed.getD j false with
        | true =>
          have h2 := inv.closed j oj hoj hl e he hb
          rw [hon, getD_both hk0] at h2
          cases h2
        | false => exact ih (t - j) (by omega) j rfl hlt (getD_in (by rw [inv.size]; omega) hl)
      · obtain rfl : j = t := by omega
        obtain rfl := Option.some.inj (hoj.symm.trans hot)
        have h2 := hall e he hb
        rw [hon, getD_both hk0] at h2
        cases h2

theorem head_first {n i : Nat} {oi : Oper} {v : Value} {L : Array Bool → Act → Prop} (hi : ops[i]? = some oi) (hsel : ∀ (j : Nat) (o : Oper) cs b, ops[j]? = some o → o.op ≠ .select cs b)
    (hs : Region.sinkB md ops n = true) (hc : sinksB md ops n = true) (hn : n < ops.size) (hin : i < n) (hdone : ∀ listed a, L listed a → ∀ j ∈ Region.ready md ops listed, n ≤ j) :
    ∀ (f : Nat) (listed : Array Bool) (a : Act), HeadInv md ops n listed →
      (∀ j oj, ops[j]? = some oj → j ≠ i → listed.getD j true = false → (∀ e ∈ oj.after, Region.binds md e = true → e.on ≠ i) → oi.apart ops oj = true) →
      i ∈ Region.ready md ops listed → YieldsAt P ops w oi v a → wpAnyL P md ops w n L f (listed.setIfInBounds i true) (a.put oi.dst v) → wpAnyL P md ops w n L (f + 1) listed a := by
  intro f
  induction f with
  | zero =>
    intro listed a inv _ hr hy H
    have hw := waits_end hs hc inv hin hn (mem_ready.1 hr).1
    refine ⟨fun h => (by rw [h] at hr; cases hr), fun j hj => ⟨Nat.lt_of_not_le fun h => hw j h hj, ?_⟩⟩
    by_cases hji : j = i
    · subst hji; exact hy.stOp hi H
    · exact absurd (hdone _ _ H j (ready_mono hj hji)) fun h => hw j h hj
  | succ f ih =>
    intro listed a inv hfree hr hy H
    have hun := (mem_ready.1 hr).1
    have hw := waits_end hs hc inv hin hn hun
    refine ⟨fun h => (by rw [h] at hr; cases hr), fun j hj => ?_⟩
    have hjn : j < n := Nat.lt_of_not_le fun h => hw j h hj
    refine ⟨hjn, ?_⟩
    by_cases hji : j = i
    · subst hji; exact hy.stOp hi H
    · obtain ⟨hjun, oj, hoj, hall⟩ := mem_ready.1 hj
      have hnot : ∀ e ∈ oj.after, Region.binds md e = true → e.on ≠ i := fun e he hb heq => by
        have h1 := hall e he hb
        rw [heq, getD_both hun] at h1
        cases h1
      refine stOp_mono (fun a' h3 => ih (listed.setIfInBounds j true) a' (inv.set hj hjn) (fun k ok hk hki hunk hno => hfree k ok hk hki ?_ hno) (ready_mono hr (Ne.symm hji)) h3.1 ?_)
        (stOp_put hoj (hfree j oj hoj hji hjun hnot) (fun cs b => hsel i oi cs b hi) (fun cs b => hsel j oj cs b hoj) hy (H.2 j (ready_mono hj hji)).2)
      · by_cases hjk : j = k
        · subst hjk; exact hjun
        · rwa [getD_set_ne true hjk] at hunk
      · rw [Array.setIfInBounds_comm _ _ hji]; exact h3.2

/-- the head in the text's order is possible; then the n-th stands alone, then the rest in the text's order -/
def headB (md : Region.Mode) (ops : Array Oper) (n : Nat) : Nat → Nat → Array Bool → Bool
  | 0, _, listed => decide (Region.ready md ops listed = [n]) && Region.lexFrom md ops (ops.size - n - 1) (n + 1) (listed.setIfInBounds n true)
  | f + 1, k, listed => (Region.ready md ops listed).contains k && Region.free md ops listed k && headB md ops n f (k + 1) (listed.setIfInBounds k true)
def endB (md : Region.Mode) (ops : Array Oper) (n : Nat) : Bool :=
  Region.noSelect ops && decide (n < ops.size) && Region.sinkB md ops n && sinksB md ops n && headB md ops n n 0 (Array.replicate ops.size false)

theorem head_lex {n : Nat} {Lq : Act → Prop} (hsel : Region.noSelect ops = true) (hs : Region.sinkB md ops n = true) (hc : sinksB md ops n = true) (hn : n < ops.size) :
    ∀ (l : List Oper) (k : Nat) (listed : Array Bool) (a : Act), (∀ j, j < l.length → l[j]? = ops[k + j]?) → k + l.length = n → HeadInv md ops n listed →
    headB md ops n l.length k listed = true → wpStill P ops w Lq l a →
    wpAnyL P md ops w n (fun x a' => (Region.ready md ops x = [n] ∧ Region.lexFrom md ops (ops.size - n - 1) (n + 1) (x.setIfInBounds n true) = true) ∧ Lq a') l.length listed a
  | [], k, listed, a, _, hk, _, hB, h => by
    have hB : headB md ops n 0 k listed = true := hB
    rw [headB, Bool.and_eq_true, decide_eq_true_eq] at hB
    exact ⟨hB, h⟩
  | o :: l, k, listed, a, hl, hk, inv, hB, h => by
    have h0 : ops[k]? = some o := by simpa using (hl 0 (by simp)).symm
    simp only [List.length_cons, headB, Bool.and_eq_true] at hB
    obtain ⟨⟨hr, hf⟩, hB'⟩ := hB
    have hkn : k < n := by simp only [List.length_cons] at hk; omega
    have hr' : k ∈ Region.ready md ops listed := by simpa using hr
    obtain ⟨v, hy, hK⟩ := yieldsAt_of_stOp h0 (show stOp P ops w k (wpStill P ops w Lq l) a by unfold stOp; simp only [h0]; exact h)
    refine head_first h0 (Region.noSelect_spec hsel) hs hc hn hkn (fun x a' hL j hj => ?_) l.length listed a inv (Region.free_spec h0 hf) hr' hy
      (head_lex hsel hs hc hn l (k + 1) _ _ (fun j hj => by have := hl (j + 1) (by simp; omega); simpa [Nat.add_assoc, Nat.add_comm 1 j] using this) (by simp only [List.length_cons] at hk; omega) (inv.set hr' hkn) hB' hK)
    rw [hL.1.1] at hj
    have := List.mem_singleton.1 hj
    omega

theorem region_end {id : Nat} {Q : Exit → Act → World → Prop} {a : Act} {w : World} {l : List Oper} {o : Oper} (n : Nat) (hm : P.follows .mixedOrders = true) (hB : endB .any l.toArray n = true) (ho : l[n]? = some o)
    (h : wpStill P l.toArray w.drew (fun a' => ∀ K : Act → World → Prop, (∀ b u, wpStill P l.toArray u (fun c => Q .normal c u) (l.drop (n + 1)) b → K b u) → if Region.wanted o (yielded l.toArray a'.tmps) then o.wp P a' w.drew K Q else K (a'.put o.dst undef) w.drew) (l.take n) a) : (Code.region id l.toArray true).wp P Q a w := by
  simp only [endB, Bool.and_eq_true, decide_eq_true_eq] at hB
  obtain ⟨⟨⟨⟨hsel, hn⟩, hs⟩, hc⟩, hlex⟩ := hB
  have hn' : n < l.length := by simpa using hn
  have htl : (l.take n).length = n := by simp; omega
  have hdl : (l.drop (n + 1)).length = l.toArray.size - n - 1 := by simp; omega
  have inv0 : HeadInv .any l.toArray n (Array.replicate l.toArray.size false) :=
    ⟨by simp, fun j oj _ hl => (by rw [getD_replicate_false] at hl; cases hl), fun t _ ht => getD_in (by simpa using ht) (getD_replicate_false _ _)⟩
  have H := head_lex (md := .any) hsel hs hc hn (l.take n) 0 _ a (fun j hj => by
    have hj' : j < n := by rw [htl] at hj; exact hj
    simp [hj']) (by simpa using htl) inv0 (by rw [htl]; exact hlex) h
  refine wp_region_any hm ?_
  have := wpAny_of_head (Q' := Q) (g := l.toArray.size - n) (fun x a' hL => ?_) _ _ _ H
  · rw [htl, show n + (l.toArray.size - n) = l.toArray.size by omega] at this
    exact this
  · rw [show l.toArray.size - n = (l.toArray.size - n - 1) + 1 by omega]
    refine ⟨fun h0 => (by rw [hL.1.1] at h0; cases h0), fun i hi => ?_⟩
    rw [hL.1.1] at hi
    obtain rfl := List.mem_singleton.1 hi
    have h2 := hL.2 (wpAny P .any l.toArray Q (l.toArray.size - i - 1) (x.setIfInBounds i true)) fun b u h2 => by
      rw [← hdl]
      exact wpAny_of_still (fun _ h => h) _ _ _ (wpAnyS_lex hsel (l.drop (i + 1)) (i + 1) _ _ (fun j => by simp [List.getElem?_drop]) (by rw [hdl]; exact hL.1.2) h2)
    unfold wpOp
    simp only [List.getElem?_toArray, ho]
    split
    · rename_i hwn; rw [if_pos hwn] at h2; exact .inl h2
    · rename_i hwn; rw [if_neg hwn] at h2; exact h2
end
end Go.Proofs.YtbabcohidpcjjaaGreat.Mem

/-
  Bytes in small letters: plain Lean. No conditions beyond those that each lemma types.
-/
namespace Go.Proofs.YtbabcohidpcjjaaGreat
open Go.RowKit Mem

/-- a byte in small letters -/
def lowB (b : UInt8) : UInt8 := if 65 ≤ b ∧ b ≤ 90 then b + 32 else b
def lowS (l : Str) : Str := l.map lowB
def mixS (k : Nat) (l : Str) : Str := (l.take k).map lowB ++ l.drop k

theorem lowB_nat (b : UInt8) : ((lowB b).toNat : Int) = if 65 ≤ (b.toNat : Int) ∧ (b.toNat : Int) ≤ 90 then (b.toNat : Int) + 32 else b.toNat := by
  have h1 : (65 ≤ b) ↔ 65 ≤ (b.toNat : Int) := by rw [UInt8.le_iff_toNat_le]; simp; omega
  have h2 : (b ≤ 90) ↔ (b.toNat : Int) ≤ 90 := by rw [UInt8.le_iff_toNat_le]; simp; omega
  unfold lowB
  by_cases h : 65 ≤ (b.toNat : Int) ∧ (b.toNat : Int) ≤ 90
  · rw [if_pos h, if_pos ⟨h1.2 h.1, h2.2 h.2⟩, UInt8.toNat_add]
    simp
    omega
  · rw [if_neg h, if_neg (fun hh => h ⟨h1.1 hh.1, h2.1 hh.2⟩)]

theorem mixS_length (k : Nat) (l : Str) : (mixS k l).length = l.length := by simp [mixS]; omega
theorem mixS_zero (l : Str) : mixS 0 l = l := by simp [mixS]
theorem mixS_all (l : Str) : mixS l.length l = lowS l := by simp [mixS, lowS]
theorem mixS_get (k : Nat) (l : Str) (h : k < l.length) : (mixS k l)[k]? = some l[k] := by
  simp only [mixS]
  rw [List.getElem?_append_right (by simp; omega)]
  simp [Nat.min_eq_left (Nat.le_of_lt h), h]
theorem mixS_succ (k : Nat) (l : Str) (h : k < l.length) : (mixS k l).set k (lowB l[k]) = mixS (k + 1) l := by
  simp only [mixS]
  rw [List.set_append_right _ _ (by simp; omega), List.drop_eq_getElem_cons h]
  simp only [List.length_map, List.length_take, Nat.min_eq_left (Nat.le_of_lt h), Nat.sub_self, List.set_cons_zero]
  rw [List.take_succ_eq_append_getElem h, List.map_append]
  simp
theorem bytesV_mix_succ (k : Nat) (l : Str) (h : k < l.length) (v : Value) (hv : v = .int .u8 (lowB l[k]).toNat) : (bytesV (mixS k l)).set k v = bytesV (mixS (k + 1) l) := by
  subst hv
  unfold bytesV
  rw [← mixS_succ k l h, List.map_set]
theorem bytesV_mix_same (k : Nat) (l : Str) (h : k < l.length) (hv : ((lowB l[k]).toNat : Int) = l[k].toNat) : bytesV (mixS k l) = bytesV (mixS (k + 1) l) := by
  rw [← bytesV_mix_succ k l h (.int .u8 l[k].toNat) (by rw [hv])]
  have hg : (bytesV (mixS k l))[k]? = some (.int .u8 l[k].toNat) := by simp [bytesV, mixS_get k l h]
  obtain ⟨hk, he⟩ := List.getElem?_eq_some_iff.1 hg
  rw [← he, List.set_getElem_self]
theorem bytesV_mix_get (k : Nat) (l : Str) (h : k < l.length) : (bytesV (mixS k l))[k]? = some (.int .u8 l[k].toNat) := by
  simp [bytesV, mixS_get k l h]
end Go.Proofs.YtbabcohidpcjjaaGreat
