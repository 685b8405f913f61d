/-
  Contract: colanderref12.Find: the same name is found; new blocks alone.
-/
import Derived.Test.YtbabcohidpcjjaaRefsD
import Derived.Test.YtbabcohidpcjjaaMemC
namespace Go.Proofs.Ytbabcohidpcjjaa
open Go.RowKit Mem

theorem info_u8 : (Try.prog.info? 5).map (fun i => (i.zero, i.size, i.bytes)) = some (some (.int .u8 0), 1, 1) := by kernel_rfl
theorem rowsV_length : ∀ l : List (Str × Nat × Nat × Bool), (rowsV l).length = l.length * 4
  | [] => rfl
  | x :: r => by rw [rowsV]; simp only [List.length_cons, rowsV_length r]; omega
theorem rowsV_get : ∀ (l : List (Str × Nat × Nat × Bool)) (k : Nat) (h : k < l.length), (rowsV l)[k * 4]? = some (.string (strB l[k].1)) ∧ (rowsV l)[k * 4 + 1]? = some (.int .i64 l[k].2.1) ∧ (rowsV l)[k * 4 + 2]? = some (.int .i64 l[k].2.2.1) ∧ (rowsV l)[k * 4 + 3]? = some (.bool l[k].2.2.2)
  | [], _, h => by simp at h
  | x :: r, 0, _ => ⟨rfl, rfl, rfl, rfl⟩
  | x :: r, k + 1, h => by
    obtain ⟨h0, h1, h2, h3⟩ := rowsV_get r k (by simpa using h)
    refine ⟨?_, ?_, ?_, ?_⟩
    · rw [show (k + 1) * 4 = k * 4 + 1 + 1 + 1 + 1 from by omega]; simpa [rowsV] using h0
    · rw [show (k + 1) * 4 + 1 = k * 4 + 1 + 1 + 1 + 1 + 1 from by omega]; simpa [rowsV] using h1
    · rw [show (k + 1) * 4 + 2 = k * 4 + 2 + 1 + 1 + 1 + 1 from by omega]; simpa [rowsV] using h2
    · rw [show (k + 1) * 4 + 3 = k * 4 + 3 + 1 + 1 + 1 + 1 from by omega]; simpa [rowsV] using h3
theorem names_small : ∀ x ∈ namesT, x.1.length ≤ 13 ∧ x.2.1 ≤ 1114111 ∧ x.2.2.1 ≤ 1114111 := by decide +kernel
theorem refGo_step (s : Str) (k : Nat) (h : k < namesT.length) (acc : Str × Nat) : refGo s (namesT.drop k) acc = refGo s (namesT.drop (k + 1)) (refStep s namesT[k] acc) := by
  rw [List.drop_eq_getElem_cons h, refGo]
theorem encF_len (c : Nat) : 1 ≤ (encF c).length ∧ (encF c).length ≤ 4 := by
  unfold encF
  split
  · simp
  · split
    · simp
    · split <;> simp
theorem toList_append (a b : ByteArray) : (a ++ b).toList = a.toList ++ b.toList := by
  rw [ByteArray.toList_eq, ByteArray.toList_eq, ByteArray.toList_eq]; simp
theorem refStep_no {s : Str} {x : Str × Nat × Nat × Bool} {acc : Str × Nat} (h1 : (x.1 ++ [59]).isPrefixOf s = false) (h2 : (x.2.2.2 && x.1.isPrefixOf s) = false) : refStep s x acc = acc := by
  unfold refStep
  simp [h1, h2]
theorem refStep_semi {s : Str} {x : Str × Nat × Nat × Bool} {acc : Str × Nat} (h1 : (x.1 ++ [59]).isPrefixOf s = true) : refStep s x acc = if acc.2 < x.1.length + 1 then (chars x.2.1 x.2.2.1, x.1.length + 1) else acc := by
  unfold refStep
  simp only [h1, if_true]
theorem refStep_bare {s : Str} {x : Str × Nat × Nat × Bool} {acc : Str × Nat} (h1 : (x.1 ++ [59]).isPrefixOf s = false) (h2 : (x.2.2.2 && x.1.isPrefixOf s) = true) : refStep s x acc = if acc.2 < x.1.length then (chars x.2.1 x.2.2.1, x.1.length) else acc := by
  unfold refStep
  simp only [h1, h2, if_true, Bool.false_eq_true, if_false]

theorem bytesV_one' (l : Str) : ∀ u ∈ bytesV l, u.oneCell' = true := by
  intro u h
  obtain ⟨n, _, rfl⟩ := List.mem_map.1 h
  rfl
theorem bytesV_app (l r : Str) : bytesV (l ++ r) = bytesV l ++ bytesV r := by simp [bytesV]
theorem chars_one (a : Nat) : chars a 0 = encF a := by simp [chars]
theorem chars_two {a b : Nat} (h : 0 < b) : chars a b = encF a ++ encF b := by rw [chars, if_pos h]
end Go.Proofs.Ytbabcohidpcjjaa
