/-
  Plain lemmas on the memory of the model, of no program: what a slice's cells hold, what stays when other blocks turn. No conditions beyond those that each lemma types.
-/
import Derived.WalkKit
import Derived.WalkSpells
import Derived.WalkLawsBesides
import Derived.Lib.Hide
import Derived.Lib.ConvBytes
import Derived.Laws.AppendOwnNone
import Derived.Deep.QuietTactic
import Derived.BigQuiet
import Derived.Deep.RegionWith
namespace Go.Proofs.YtclflmjpdglgiaaGreat.Mem
open Go Go.RowKit

abbrev Str := List UInt8

theorem lt_of_cell {w : World} {a : Addr} {v : Value} (h : w.cell? a = some v) : a.block < w.heap.size := World.block_lt_of_cell? w a h

/-- the cells xs lie where a points to -/
def At (w : World) (a : Option Addr) (xs : List Value) : Prop :=
  ∀ j u, xs[j]? = some u → ∃ b o, a = some ⟨b, o, none⟩ ∧ w.cell? ⟨b, o + j, none⟩ = some u

theorem At.below {w w' : World} {a : Option Addr} {xs : List Value} (h : At w a xs) (hb : Below w.heap.size w w') : At w' a xs := by
  intro j u hj
  obtain ⟨b, o, ha, hc⟩ := h j u hj
  exact ⟨b, o, ha, cell_later hb hc⟩

theorem At.nil (w : World) (a : Option Addr) : At w a [] := by
  intro j u h
  simp at h

theorem At.get {w : World} {b o : Nat} {xs : List Value} (h : At w (some ⟨b, o, none⟩) xs) {j : Nat} {u : Value} (hj : xs[j]? = some u) : w.cell? ⟨b, o + j, none⟩ = some u := by
  obtain ⟨b', o', ha, hc⟩ := h j u hj
  cases ha
  exact hc

theorem At.some_of {w : World} {a : Option Addr} {xs : List Value} (h : At w a xs) (hx : xs ≠ []) : ∃ b o, a = some ⟨b, o, none⟩ := by
  cases xs with
  | nil => exact absurd rfl hx
  | cons u r =>
    obtain ⟨b, o, ha, _⟩ := h 0 u rfl
    exact ⟨b, o, ha⟩

/-- where nothing lies the address does not matter; else there is one -/
theorem At.cases {w : World} {a : Option Addr} {xs : List Value} (h : At w a xs) : xs = [] ∨ ∃ b o, a = some ⟨b, o, none⟩ ∧ b < w.heap.size ∧ ∀ j u, xs[j]? = some u → w.cell? ⟨b, o + j, none⟩ = some u := by
  cases xs with
  | nil => exact .inl rfl
  | cons u r =>
    obtain ⟨b, o, rfl, hc⟩ := h 0 u rfl
    exact .inr ⟨b, o, rfl, lt_of_cell hc, fun j v hj => h.get hj⟩

theorem bcell {W w1 : World} (hb : Below W.heap.size W w1) : (∀ b o, b < W.heap.size → w1.cell? ⟨b, o, none⟩ = W.cell? ⟨b, o, none⟩) ∧ (∀ b o, b < W.heap.size → w1.frozen? ⟨b, o, none⟩ = W.frozen? ⟨b, o, none⟩) :=
  ⟨fun b o h => hb.cell (p := ⟨b, o, none⟩) h, fun b o h => hb.frozen (p := ⟨b, o, none⟩) h⟩

/-- what a callee made lies above what was there when the caller began -/
theorem belowCall {w wr w1 : World} (h : Below w.heap.size w wr) (h1 : Below wr.heap.size wr w1) : Below w.heap.size w w1 := h.trans (h1.mono h.size)

/-- block g begins with the cells xs, none of them frozen -/
def Row (w : World) (g : Nat) (xs : List Value) : Prop :=
  ∃ cur e lo hi, w.heap[g]? = some (.cells cur e (lo, hi)) ∧ cur.toList.take xs.length = xs ∧ (xs.length ≤ lo ∨ hi = 0)

theorem Row.cell {w : World} {g : Nat} {xs : List Value} (h : Row w g xs) {j : Nat} {u : Value} (hj : xs[j]? = some u) : w.cell? ⟨g, j, none⟩ = some u := by
  obtain ⟨cur, e, lo, hi, hg, ht, _⟩ := h
  have hlt : j < xs.length := by
    rcases Nat.lt_or_ge j xs.length with h | h
    · exact h
    · simp [List.getElem?_eq_none h] at hj
  simp only [World.cell?, hg]
  rw [← ht, List.getElem?_take_of_lt hlt] at hj
  simpa using hj

theorem Row.frozen {w : World} {g : Nat} {xs : List Value} (h : Row w g xs) {j : Nat} (hj : j < xs.length) : w.frozen? ⟨g, j, none⟩ = false := by
  obtain ⟨cur, e, lo, hi, hg, ht, hf⟩ := h
  simp only [World.frozen?, hg]
  rcases hf with hf | hf
  · simp; omega
  · subst hf; simp

theorem Row.lt {w : World} {g : Nat} {xs : List Value} (h : Row w g xs) : g < w.heap.size := by
  obtain ⟨cur, e, lo, hi, hg, _⟩ := h
  rcases Nat.lt_or_ge g w.heap.size with h | h
  · exact h
  · simp [Array.getElem?_eq_none h] at hg

theorem Row.set {w : World} {g : Nat} {xs : List Value} (h : Row w g xs) (j : Nat) (v : Value) : Row (w.setCell ⟨g, j, none⟩ v) g (xs.set j v) := by
  obtain ⟨cur, e, lo, hi, hg, ht, hf⟩ := h
  have hlt := Row.lt ⟨cur, e, lo, hi, hg, ht, hf⟩
  refine ⟨cur.setIfInBounds j v, e, lo, hi, ?_, ?_, ?_⟩
  · simp [World.setCell, Array.getElem?_modify, hg]
  · rw [List.length_set, Array.toList_setIfInBounds, List.take_set, ht]
  · rw [List.length_set]; exact hf

theorem Row.kept {w w' : World} {g : Nat} {xs : List Value} (h : Row w g xs) (hg : w'.heap[g]? = w.heap[g]?) : Row w' g xs := by
  obtain ⟨cur, e, lo, hi, h1, h2⟩ := h
  exact ⟨cur, e, lo, hi, hg.trans h1, h2⟩

theorem Row.below {w w' : World} {g B : Nat} {xs : List Value} (h : Row w g xs) (hb : Below B w w') (hg : g < B) : Row w' g xs := h.kept (hb.block g hg)

theorem Row.at {w : World} {g : Nat} {xs : List Value} (h : Row w g xs) : At w (some ⟨g, 0, none⟩) xs := by
  intro j u hj
  exact ⟨g, 0, rfl, by rw [Nat.zero_add]; exact h.cell hj⟩

theorem Row.alloc (w : World) (cur : Array Value) (e : TypeId) : Row (w.alloc (.cells cur e)) w.heap.size cur.toList :=
  ⟨cur, e, 0, 0, heap_alloc_new w _, List.take_of_length_le (Nat.le_refl _), .inr rfl⟩

/-- a new block's cells, whatever the block's number is spelled like -/
theorem at_alloc {w : World} {cur : Array Value} {e : TypeId} {g : Nat} {xs : List Value} (hg : g = w.heap.size) (hc : cur.toList = xs) : At (w.alloc (.cells cur e)) (some ⟨g, 0, none⟩) xs := by
  subst hg hc
  exact (Row.alloc w cur e).at

/-- bytes as cells -/
def bytesV (l : Str) : List Value := l.map fun b => Value.int .u8 b.toNat
theorem bytesV_length (l : Str) : (bytesV l).length = l.length := by simp [bytesV]
theorem bytesV_get (l : Str) (k : Nat) (h : k < l.length) : (bytesV l)[k]? = some (.int .u8 (l[k]).toNat) := by simp [bytesV, h]

/-- a string's size is its list's length -/
theorem size_toList (s : ByteArray) : s.toList.length = s.size := by rw [ByteArray.toList_eq, Array.length_toList]; rfl
theorem mk_toList (s : ByteArray) : (ByteArray.mk s.toList.toArray) = s := by rw [ByteArray.toList_eq]
theorem toList_inj {a b : ByteArray} (h : a.toList = b.toList) : a = b := by rw [← mk_toList a, ← mk_toList b, h]

theorem beqT {a b : ByteArray} (h : (a.toList == b.toList) = true) : a = b := toList_inj (by simpa using h)
theorem beqF {a b : ByteArray} (h : (a.toList == b.toList) = false) : a ≠ b := fun e => by subst e; simp at h
theorem beqL {a b : Str} (h : (a == b) = true) : a = b := by simpa using h
theorem beqLF {a b : Str} (h : (a == b) = false) : a ≠ b := by simpa using h
/-- '[]byte(s)': the row, and the world -/
theorem bytesWorld_row (w : World) (e : TypeId) (s : ByteArray) : Row (Lib.bytesWorld w e s) w.heap.size (bytesV s.toList) := by
  refine ⟨_, _, _, _, Lib.bytesWorld_at_new w e s, ?_, .inl ?_⟩
  · rw [bytesV_length, size_toList]
    simp only [Lib.bytesCells, bytesV, ByteArray.toList_eq, Array.toList_append, Array.toList_map]
    rw [List.take_left']
    simp
  · rw [bytesV_length, size_toList]
    simp [Lib.bytesCells]
theorem bytesWorld_below (w : World) (e : TypeId) (s : ByteArray) : Below w.heap.size w (Lib.bytesWorld w e s) := by
  refine ⟨?_, ?_, ?_, by rw [Lib.bytesWorld_size]; omega, fun k hk => Lib.bytesWorld_at_old w e s k hk⟩
  all_goals (unfold Lib.bytesWorld World.freeze; split <;> rfl)

theorem run_bytes_of {P : Program} (w : World) (src dst e : TypeId) (s : ByteArray) {u : TypeDesc}
    (hs : P.underlying src = some u) (hd : P.underlying dst = some (.slice e)) (he : P.underlying e = some (.int .u8)) :
    ∃ c W, (convert src dst (.string s)).run P w = .ok (.slice (some ⟨w.heap.size, 0, none⟩) s.size c) W ∧ Below w.heap.size w W ∧ W.heap.size = w.heap.size + 1 ∧ Row W w.heap.size (bytesV s.toList) ∧ s.size ≤ c :=
  ⟨_, _, Lib.run_convert_string_bytes w src dst e s hs hd he, bytesWorld_below w e s, Lib.bytesWorld_size w e s, bytesWorld_row w e s, grownCap_ge w s.size 0 e⟩

theorem foldl_push (l : Str) : ∀ s : ByteArray, (l.map fun b => ((b.toNat : Nat) : Int)).foldl (fun r n => r.push (UInt8.ofNat n.toNat)) s = ⟨(s.toList ++ l).toArray⟩ := by
  induction l with
  | nil => intro s; simp [ByteArray.toList_eq]
  | cons b r ih =>
    intro s
    simp only [List.map_cons, List.foldl_cons]
    rw [ih]
    congr 2
    rw [ByteArray.toList_eq, ByteArray.toList_eq]
    simp [ByteArray.push]

/-- 'string(b)' of a row of bytes -/
theorem run_string_of {P : Program} (w : World) (src dst e : TypeId) (g c : Nat) (l : Str) (n : Nat) (hn : n = l.length)
    (hs : P.underlying src = some (.slice e)) (he : P.underlying e = some (.int .u8)) (hd : P.underlying dst = some .string) (hr : Row w g (bytesV l)) :
    (convert src dst (.slice (some ⟨g, 0, none⟩) n c)).run P w = .ok (.string ⟨l.toArray⟩) w := by
  subst hn
  rw [run_convert_bytes_string w src dst e _ _ _ hs he hd]
  have h := run_loadCells_list (P := P) (w := w) ⟨g, 0, none⟩ (bytesV l) (by
    intro j v hj
    rw [Addr.add]
    split
    · rename_i h0; subst h0; exact hr.cell hj
    · have := hr.cell hj; simpa using this)
  rw [bytesV_length] at h
  have h2 := run_bytesToString (P := P) w ⟨g, 0, none⟩ l.length c (l.map fun b => ((b.toNat : Nat) : Int)) (by
    rw [h]; simp [bytesV, Function.comp_def])
  rw [h2, foldl_push]
  simp [ByteArray.toList_eq]

/-- strings as cells -/
def strsV (l : List ByteArray) : List Value := l.map Value.string
theorem strsV_length (l : List ByteArray) : (strsV l).length = l.length := by simp [strsV]
theorem strsV_get (l : List ByteArray) (k : Nat) (h : k < l.length) : (strsV l)[k]? = some (.string l[k]) := by simp [strsV, h]

/-- pairs of strings (attributes, fields) as cells -/
abbrev Pair := ByteArray × ByteArray
def pairsV : List Pair → List Value
  | [] => []
  | p :: r => .string p.1 :: .string p.2 :: pairsV r
theorem pairsV_length (l : List Pair) : (pairsV l).length = l.length * 2 := by
  induction l with
  | nil => rfl
  | cons p r ih => simp only [pairsV, List.length_cons, ih]; omega
theorem pairsV_get0 : ∀ (l : List Pair) (k : Nat) (h : k < l.length), (pairsV l)[k * 2]? = some (.string l[k].1)
  | [], _, h => by simp at h
  | p :: r, 0, _ => rfl
  | p :: r, k + 1, h => by
    have := pairsV_get0 r k (by simpa using h)
    rw [show (k + 1) * 2 = k * 2 + 1 + 1 from by omega]
    simpa [pairsV] using this
theorem pairsV_get1 : ∀ (l : List Pair) (k : Nat) (h : k < l.length), (pairsV l)[k * 2 + 1]? = some (.string l[k].2)
  | [], _, h => by simp at h
  | p :: r, 0, _ => rfl
  | p :: r, k + 1, h => by
    have := pairsV_get1 r k (by simpa using h)
    rw [show (k + 1) * 2 + 1 = k * 2 + 1 + 1 + 1 from by omega]
    simpa [pairsV] using this
/-- the cells of pair k, spelled as the walk spells them -/
theorem pair_cells {w : World} {a : Option Addr} {l : List Pair} (h : At w a (pairsV l)) {k : Nat} (hk : k < l.length) :
    ∃ b o, a = some ⟨b, o, none⟩ ∧ b < w.heap.size ∧ w.cell? ⟨b, o + k * 2, none⟩ = some (.string l[k].1) ∧ w.cell? ⟨b, o + k * 2 + 1, none⟩ = some (.string l[k].2) := by
  obtain ⟨b, o, rfl, h1⟩ := h _ _ (pairsV_get0 l k hk)
  exact ⟨b, o, rfl, lt_of_cell h1, h1, by rw [Nat.add_assoc]; exact h.get (pairsV_get1 l k hk)⟩
theorem str_cell {w : World} {a : Option Addr} {l : List ByteArray} (h : At w a (strsV l)) {k : Nat} (hk : k < l.length) :
    ∃ b o, a = some ⟨b, o, none⟩ ∧ b < w.heap.size ∧ w.cell? ⟨b, o + k, none⟩ = some (.string l[k]) := by
  obtain ⟨b, o, rfl, h1⟩ := h _ _ (strsV_get l k hk)
  exact ⟨b, o, rfl, lt_of_cell h1, h1⟩
theorem pairsV_append (l r : List Pair) : pairsV (l ++ r) = pairsV l ++ pairsV r := by
  induction l with
  | nil => rfl
  | cons p l ih => simp [pairsV, ih]
theorem pairsV_one (l : List Pair) : ∀ u ∈ pairsV l, u.oneCell' = true := by
  induction l with
  | nil => intro u h; cases h
  | cons p r ih =>
    intro u h
    simp only [pairsV, List.mem_cons] at h
    rcases h with rfl | rfl | h
    · rfl
    · rfl
    · exact ih u h

theorem drewN_two (w : World) (n m : Nat) : (w.drewN n).drewN m = w.drewN (n + m) := by simp [World.drewN, Nat.add_assoc]
theorem ret_int {k : IntKind} {a b : Int} (h : a = b) : Ending.returned (.int k a) = .returned (.int k b) := by rw [h]
theorem ret_bool {a b : Bool} (h : a = b) : Ending.returned (.bool a) = .returned (.bool b) := by rw [h]
theorem ret_string {a b : ByteArray} (h : a = b) : Ending.returned (.string a) = .returned (.string b) := by rw [h]
theorem ret_eq {v v' : Value} (h : v = v') : Ending.returned v = .returned v' := by rw [h]

end Go.Proofs.YtclflmjpdglgiaaGreat.Mem
