/-
  What the law OpenScopes asks, in plain Lean: elements without parents, one for each name, all open.
-/
import Derived.Test.YtidbihdnginmcaaStkG
namespace Go.Proofs.Ytidbihdnginmcaa
open Go.RowKit Mem

/-- a tree of so many elements -/
def flatT (names : List ByteArray) : TreeD := ⟨rootN :: names.map (fun nm => elemN 0 nm []), 2000, noFar⟩
def nums (k : Nat) : List Int := (List.range k).map fun i => ((i + 1 : Nat) : Int)
theorem nums_succ (k : Nat) : nums (k + 1) = nums k ++ [((k + 1 : Nat) : Int)] := by simp [nums, List.range_succ]
theorem nums_len (k : Nat) : (nums k).length = k := by simp [nums]
theorem nums_rev (k : Nat) : (nums (k + 1)).reverse = ((k + 1 : Nat) : Int) :: (nums k).reverse := by rw [nums_succ]; simp
theorem flat_add (names : List ByteArray) (k : Nat) (h : k < names.length) (h5 : k < 500) :
    mkF (flatT (names.take k)) (elemN 0 names[k] []) = (flatT (names.take (k + 1)), ((k + 1 : Nat) : Int), 0) := by
  have hl : (flatT (names.take k)).nodes.length = k + 1 := by
    show ((names.take k).map _).length + 1 = k + 1
    rw [List.length_map, List.length_take, Nat.min_eq_left (by omega)]
  unfold mkF
  rw [hl, if_pos (by show ((k + 1 : Nat) : Int) - 1 < 2000; omega), List.take_succ_eq_append_getElem h]
  simp only [addF, flatT, List.map_append]
  rfl
theorem flat_elem (names : List ByteArray) (k : Nat) (h : k < names.length) : elemF (flatT names) ((k + 1 : Nat) : Int) = true ∧ spaceQ (flatT names) ((k + 1 : Nat) : Int) = 0 ∧ nameQ (flatT names) ((k + 1 : Nat) : Int) = names[k] := by
  have hl : (flatT names).nodes.length = names.length + 1 := by simp [flatT]
  have hn : (flatT names).nodes[k + 1]'(by omega) = elemN 0 names[k] [] := by simp [flatT]
  have he : elemF (flatT names) ((k + 1 : Nat) : Int) = true := by
    rw [elemF_of _ _ (by omega) (by omega), hn]; rfl
  obtain ⟨h1, h2, _⟩ := what_of (T := flatT names) (i := k + 1) (by omega) he
  exact ⟨he, by rw [h1, hn]; rfl, by rw [h2, hn]; rfl⟩

def lastN (names : List ByteArray) (ask : ByteArray) : Nat → Int
  | 0 => -1
  | k + 1 => if (names.getD k ⟨#[]⟩).toList == ask.toList then k else lastN names ask k
def srch (names : List ByteArray) (ask : ByteArray) (scope : Int) : Nat → Bool
  | 0 => false
  | k + 1 => ((names.getD k ⟨#[]⟩).toList == ask.toList) || (!boundsF scope 0 (names.getD k ⟨#[]⟩) && srch names ask scope k)
def nd (names : List ByteArray) (m : Int) : Nat → Bool
  | 0 => false
  | k + 1 => (((k + 1 : Nat) : Int) == m) || (!boundsF 0 0 (names.getD k ⟨#[]⟩) && nd names m k)

theorem has_srch (names : List ByteArray) (ask : ByteArray) (scope : Int) : ∀ k, k ≤ names.length → searchF (fun x => namedF (flatT names) x [ask]) (stopF (flatT names) scope) (nums k).reverse = srch names ask scope k
  | 0, _ => rfl
  | k + 1, h => by
    obtain ⟨h1, h2, h3⟩ := flat_elem names k h
    have hg : names.getD k ⟨#[]⟩ = names[k] := by simp [List.getD, List.getElem?_eq_getElem h]
    rw [nums_rev, searchF, srch, has_srch names ask scope k (by omega), hg]
    have e1 : namedF (flatT names) ((k + 1 : Nat) : Int) [ask] = (names[k].toList == ask.toList) := by
      rw [namedF, h1, h2, h3]; simp [isW]
    have e2 : stopF (flatT names) scope ((k + 1 : Nat) : Int) = boundsF scope 0 names[k] := by
      rw [stopF, h1, h2, h3]; simp
    rw [e1, e2]
theorem node_nd (names : List ByteArray) (m : Int) : ∀ k, k ≤ names.length → searchF (fun x => x == m) (stopF (flatT names) 0) (nums k).reverse = nd names m k
  | 0, _ => rfl
  | k + 1, h => by
    obtain ⟨h1, h2, h3⟩ := flat_elem names k h
    have hg : names.getD k ⟨#[]⟩ = names[k] := by simp [List.getD, List.getElem?_eq_getElem h]
    rw [nums_rev, searchF, nd, node_nd names m k (by omega), hg]
    have e2 : stopF (flatT names) 0 ((k + 1 : Nat) : Int) = boundsF 0 0 names[k] := by
      rw [stopF, h1, h2, h3]; simp
    rw [e2]
theorem until_len (names : List ByteArray) (ask : ByteArray) : ∀ k, k ≤ names.length → ((untilF (flatT names) [ask] (nums k).reverse).reverse.length : Int) = max (lastN names ask k) 0
  | 0, _ => rfl
  | k + 1, h => by
    obtain ⟨h1, h2, h3⟩ := flat_elem names k h
    have hg : names.getD k ⟨#[]⟩ = names[k] := by simp [List.getD, List.getElem?_eq_getElem h]
    have e1 : namedF (flatT names) ((k + 1 : Nat) : Int) [ask] = (names[k].toList == ask.toList) := by
      rw [namedF, h1, h2, h3]; simp [isW]
    rw [nums_rev, untilF, lastN, hg, e1]
    have ih := until_len names ask k (by omega)
    split
    · simp only [List.reverse_reverse, nums_len]; omega
    · exact ih
theorem lastN_lt (names : List ByteArray) (ask : ByteArray) : ∀ k, -1 ≤ lastN names ask k ∧ lastN names ask k < k
  | 0 => by simp [lastN]
  | k + 1 => by
    have := lastN_lt names ask k
    rw [lastN]
    split <;> omega
theorem srch_last (names : List ByteArray) (ask : ByteArray) (scope : Int) : ∀ k, srch names ask scope k = true → 0 ≤ lastN names ask k
  | 0, h => by cases h
  | k + 1, h => by
    rw [srch] at h
    rw [lastN]
    split
    · omega
    · rename_i hn
      simp only [hn, Bool.false_or, Bool.and_eq_true] at h
      exact srch_last names ask scope k h.2
theorem nd_srch (names : List ByteArray) (ask : ByteArray) : ∀ k, 0 ≤ lastN names ask k → nd names (lastN names ask k + 1) k = srch names ask 0 k
  | 0, h => by simp [lastN] at h
  | k + 1, h => by
    have hlt := lastN_lt names ask k
    rw [lastN] at h ⊢
    rw [nd, srch]
    split
    · rename_i hq
      rw [hq]
      simp
    · rename_i hq
      rw [if_neg hq] at h
      have h1 : (((k + 1 : Nat) : Int) == lastN names ask k + 1) = false := by rw [beq_eq_false_iff_ne]; omega
      have h2 : ((names.getD k ⟨#[]⟩).toList == ask.toList) = false := by simpa using hq
      rw [h1, h2, nd_srch names ask k h]
theorem srch_mono (names : List ByteArray) (ask : ByteArray) (s t : Int) (hb : ∀ x, boundsF t 0 x = true → boundsF s 0 x = true) : ∀ k, srch names ask s k = true → srch names ask t k = true
  | 0, h => by cases h
  | k + 1, h => by
    rw [srch] at h ⊢
    rcases Bool.or_eq_true _ _ ▸ h with h | h
    · rw [h]; rfl
    · simp only [Bool.and_eq_true, Bool.not_eq_true'] at h
      have : boundsF t 0 (names.getD k ⟨#[]⟩) = false := by
        cases hq : boundsF t 0 (names.getD k ⟨#[]⟩)
        · rfl
        · rw [hb _ hq] at h; exact absurd h.1 (by simp)
      rw [this, srch_mono names ask s t hb k h.2]
      simp
theorem isW_sub {a b : List ByteArray} (h : a.all (fun x => isW b x) = true) (x : ByteArray) (hx : isW a x = true) : isW b x = true := by
  obtain ⟨y, hy, he⟩ := List.any_eq_true.1 hx
  have := List.all_eq_true.1 h y hy
  rw [isW] at this ⊢
  have e : x.toList = y.toList := by simpa using he
  rw [e]
  exact this
theorem bounds_sub (s t : Int) (hs : (s = 1 ∧ t = 0) ∨ (s = 2 ∧ t = 0) ∨ (s = 0 ∧ t = 3)) (x : ByteArray) (h : boundsF t 0 x = true) : boundsF s 0 x = true := by
  rcases hs with ⟨rfl, rfl⟩ | ⟨rfl, rfl⟩ | ⟨rfl, rfl⟩
  · exact isW_sub (a := bounds0) (b := bounds1) (by simp [isW, bounds0, bounds1, ByteArray.toList_eq]) x h
  · exact isW_sub (a := bounds0) (b := bounds2) (by simp [isW, bounds0, bounds2, ByteArray.toList_eq]) x h
  · exact isW_sub (a := tabNames) (b := bounds0) (by simp [isW, bounds0, tabNames, ByteArray.toList_eq]) x h
end Go.Proofs.Ytidbihdnginmcaa
