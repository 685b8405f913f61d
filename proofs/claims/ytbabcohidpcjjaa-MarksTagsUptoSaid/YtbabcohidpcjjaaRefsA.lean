/-
  Contracts: refs.bare, refs.bound, colanderref12.begins: what each computes; the world stays.
-/
import Derived.Test.YtbabcohidpcjjaaShelfA
import Derived.Test.YtbabcohidpcjjaaRefsNames
import Derived.Test.YtbabcohidpcjjaaWords
import Derived.Deep.DeepMust
namespace Go.Proofs.Ytbabcohidpcjjaa
open Go.RowKit Mem

def strB (l : Str) : ByteArray := ⟨l.toArray⟩
theorem strB_list (l : Str) : (strB l).data.toList = l := rfl
theorem strB_of (s : ByteArray) : strB s.data.toList = s := rfl
theorem look_lit {T : List (Str × Str)} {x l v : Str} (h : (x == l) = true) (hv : look T l = v) : look T x = v := by
  have : x = l := by simpa using h
  rw [this]; exact hv
theorem ret_str {a b : ByteArray} {l : Str} (h : l = b.data.toList) (e : a = b) : Ending.returned (.string a) = .returned (.string (strB l)) := by
  subst h e; rfl
set_option maxRecDepth 100000 in
set_option maxHeartbeats 4000000 in
theorem bare_any (name : ByteArray) (w : World) : Calls Try.prog 84 #[.string name] w fun e w' => e = .returned (.string (strB (look bareT name.toList))) ∧ w = w' := by
  go_enter Try.func84, Try.ntmps84
  go_wp2_with fail
  all_goals go_ret
  all_goals exact ⟨ret_str (by first | exact look_lit ‹_› (by decide) | exact clash (x := name.toList) (l := [97, 109, 112]) ‹_› ‹_› | exact clash (x := name.toList) (l := [108, 116]) ‹_› ‹_› | simp [look, bareT, *]) rfl, rfl⟩

set_option maxRecDepth 100000 in
set_option maxHeartbeats 8000000 in
theorem bound_any (name : ByteArray) (w : World) : Calls Try.prog 85 #[.string name] w fun e w' => e = .returned (.string (strB (look boundT name.toList))) ∧ w = w' := by
  go_enter Try.func85, Try.ntmps85
  go_wp2_with fail
  all_goals go_ret
  all_goals exact ⟨ret_str (by first | exact look_lit ‹_› (by decide) | simp [look, boundT, *]) rfl, rfl⟩

theorem ext_list (s : ByteArray) (a b : Nat) : (s.extract a b).toList = (s.toList.drop a).take (b - a) := by
  rw [Lib.extract_toList, ByteArray.toList_eq]
theorem pre_beq (s p : ByteArray) : ((s.extract 0 p.size).toList == p.toList) = p.toList.isPrefixOf s.toList := by
  rw [ext_list, List.drop_zero, Nat.sub_zero, Bool.eq_iff_iff, List.isPrefixOf_iff_prefix, List.prefix_iff_eq_take, size_toList]
  exact ⟨fun h => (beq_iff_eq.1 h).symm, fun h => beq_iff_eq.2 h.symm⟩
theorem pre_long (s p : ByteArray) (h : ¬ p.size ≤ s.size) : false = p.toList.isPrefixOf s.toList := by
  symm
  rw [Bool.eq_false_iff]
  intro h'
  have := (List.isPrefixOf_iff_prefix.1 h').length_le
  rw [size_toList, size_toList] at this
  exact h this
theorem begins12_any (s p : ByteArray) (w : World) : Calls Try.prog 27 #[.string s, .string p] w fun e w' => e = .returned (.bool (p.toList.isPrefixOf s.toList)) ∧ w = w' := by
  by_cases h : p.size ≤ s.size
  · have HP := Lib.hid (pre_beq s p)
    go_enter Try.func27, Try.ntmps27
    go_wp2_with fail
    go_ret
    exact ⟨ret_bool HP.out, rfl⟩
  · have HP := Lib.hid (pre_long s p h)
    go_enter Try.func27, Try.ntmps27
    go_wp2_with fail
    go_ret
    exact ⟨ret_bool HP.out, rfl⟩
end Go.Proofs.Ytbabcohidpcjjaa
