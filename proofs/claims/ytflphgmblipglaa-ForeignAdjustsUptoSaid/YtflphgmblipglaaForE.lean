/-
  Contract: foreign.Breaks at the names that break: one case a name. And both Breaks in one line each.
-/
import Derived.Test.YtflphgmblipglaaForD
namespace Go.Proofs.Ytflphgmblipglaa
open Go.RowKit Mem
section
variable (name : ByteArray) (attrs : List Pair) (a : Option Addr) (c : Nat) (self : Bool) (text : ByteArray) (w : World)
set_option maxRecDepth 100000 in
set_option maxHeartbeats 4000000 in
theorem breaks_name (hin : isIn brkNames name = true) :
    Calls Try.prog 19 #[markA 2 name a attrs.length c self text] w fun e w' => e = .returned (.bool (breaksF 2 name attrs)) ∧ Below w.heap.size w w' := by
  have HP : Hid (breaksF 2 name attrs = true) := by show _ = _; rw [breaksF, if_neg (by decide), if_pos rfl, hin]; rfl
  have h := isIn_mem hin
  clear hin
  simp only [brkNames, List.mem_cons, List.not_mem_nil, or_false, eq_mk_iff] at h
  rcases h with h | h | h | h | h | h | h | h | h | h | h | h | h | h | h | h | h | h | h | h | h | h | h | h | h | h | h | h | h | h | h | h | h | h | h | h | h | h | h | h | h | h | h | h
  all_goals
    as_aux_lemma =>
      go_enter Try.func19, Try.ntmps19
      go_wp2_with fail
      go_ret
      exact ⟨ret_bool HP.out.symm, (Below.refl _ _).alloc (Nat.le_refl _) _⟩

theorem breaks_any (kind : Int) (hl : attrs.length ≤ maxLen) (ha : At w a (pairsV attrs)) :
    Calls Try.prog 19 #[markA kind name a attrs.length c self text] w fun e w' => e = .returned (.bool (breaksF kind name attrs)) ∧ Below w.heap.size w w' := by
  by_cases h3 : kind = 3
  · subst h3; exact breaks_end name attrs a c self text w
  · by_cases h2 : kind = 2
    · subst h2
      cases hin : isIn brkNames name
      · by_cases hf : name.toList = ([102, 111, 110, 116] : List UInt8)
        · exact breaks_font name attrs a c self text w hin hf hl ha
        · exact breaks_no name attrs a c self text w hin (by simpa using hf)
      · exact breaks_name name attrs a c self text w hin
    · exact breaks_none name attrs a c self text w kind (by simpa using h3) (by simpa using h2)
theorem refBreaks_any (kind : Int) (hl : attrs.length ≤ maxLen) (ha : At w a (pairsV attrs)) :
    Calls Try.prog 20 #[markA kind name a attrs.length c self text] w fun e w' => e = .returned (.bool (breaksF kind name attrs)) ∧ Below w.heap.size w w' := by
  by_cases h3 : kind = 3
  · subst h3; exact refBreaks_end name attrs a c self text w
  · by_cases h2 : kind = 2
    · subst h2; exact refBreaks_start name attrs a c self text w hl ha
    · exact refBreaks_none name attrs a c self text w kind (by simpa using h3) (by simpa using h2)
end
end Go.Proofs.Ytflphgmblipglaa
