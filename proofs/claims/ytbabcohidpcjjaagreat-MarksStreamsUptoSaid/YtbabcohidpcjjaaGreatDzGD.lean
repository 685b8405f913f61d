import Derived.Test.YtbabcohidpcjjaaGreatDzBase
import Derived.Test.YtbabcohidpcjjaaGreatZRd
import Derived.Test.YtbabcohidpcjjaaGreatZStep
/-
  Contract: the document's New: a reader at a text's beginning. (Seat 4's '.Z'.)
-/
namespace Go.Proofs.YtbabcohidpcjjaaGreat
open Go.RowKit Mem

def newD (s : Str) : DocD := ⟨strB (putF false s), 0, 0, [], false, 0⟩
theorem dNew_any (s : ByteArray) (w : World) (hs : s.size ≤ 4294967296) :
    Calls Tryz.prog 17 #[.string s] w fun r w' => ∃ b, r = .returned (.pointer (some ⟨b, 0, none⟩)) ∧ w.heap.size ≤ b ∧ Row w' b (docV (newD s.toList)) ∧ Below w.heap.size w w' := by
  have HR := Lib.hid (Read_any s w hs)
  go_enter Tryz.func17, Tryz.ntmps17
  go_wp2_with fail
  refine HR.out.mono ?_
  rintro r W1 ⟨rfl, hb⟩
  have HB := Lib.hid hb
  clear hb
  dsimp only
  go_wp2_with fail
  go_ret
  exact ⟨W1.heap.size, rfl, HB.out.size, Row.alloc W1 _ _, HB.out.alloc HB.out.size _⟩
end Go.Proofs.YtbabcohidpcjjaaGreat

/-
  A mode is set alike by the machine and by the document's reader: plain Lean, no Go.
-/
namespace Go.Proofs.YtbabcohidpcjjaaGreat
open Mem

theorem good_next : ∀ (i : Nat) (s : Str), 0 < i → goodFrom i s = s.all modeB
  | _, [], _ => rfl
  | i, c :: r, h => by
    rw [goodFrom, good_next (i + 1) r (by omega), List.all_cons]
    congr 1
    unfold okC modeB
    rw [decide_eq_true h, Bool.true_and]
theorem good_set (s : Str) : (goodFrom 0 s = true ∧ s ≠ []) ↔ (s ≠ [] ∧ decide (97 ≤ s.headD 0) = true ∧ s.all modeB = true) := by
  cases s with
  | nil => simp
  | cons c r =>
    rw [goodFrom, good_next 1 r (by omega), List.all_cons]
    unfold okC modeB
    simp only [List.headD_cons, Bool.and_eq_true, Bool.or_eq_true, decide_eq_true_eq, ne_eq, List.cons_ne_nil, not_false_eq_true, and_true, true_and]
    constructor
    · rintro ⟨h | ⟨h, -⟩, h2⟩
      · exact ⟨decide_eq_true h.1, .inl h, h2⟩
      · omega
    · rintro ⟨h1, h | h, h2⟩
      · exact ⟨.inl h, h2⟩
      · exfalso
        have e1 := UInt8.le_iff_toNat_le.1 (of_decide_eq_true h1)
        have e2 := UInt8.le_iff_toNat_le.1 h.2
        have a : (97 : UInt8).toNat = 97 := rfl
        have b : (57 : UInt8).toNat = 57 := rfl
        omega
/-- the document's mode and the machine's: alike behind Set and set -/
theorem set_alike (d : DocD) (m : MkM) (mode : Int) (s : Str) : (setDoc d mode s).mode = (setF m mode s).mode ∧ ((setDoc d mode s).mode ≠ 0 → (setDoc d mode s).name = (setF m mode s).name) := by
  have e : setF m mode s = if s ≠ [] ∧ decide (97 ≤ s.headD 0) = true ∧ s.all modeB = true ∧ (mode = 1 ∨ mode = 2) then { m with mode := mode, name := s } else { m with mode := 0, name := [] } := rfl
  have hg := good_set s
  unfold setDoc
  rw [e]
  by_cases h : goodFrom 0 s = true ∧ s ≠ [] ∧ (mode = 1 ∨ mode = 2)
  · have h2 := hg.1 ⟨h.1, h.2.1⟩
    rw [if_pos h, if_pos ⟨h2.1, h2.2.1, h2.2.2, h.2.2⟩]
    exact ⟨rfl, fun _ => rfl⟩
  · have h2 : ¬ (s ≠ [] ∧ decide (97 ≤ s.headD 0) = true ∧ s.all modeB = true ∧ (mode = 1 ∨ mode = 2)) := fun k => by
      have := hg.2 ⟨k.1, k.2.1, k.2.2.1⟩
      exact h ⟨this.1, this.2, k.2.2.2⟩
    rw [if_neg h, if_neg h2]
    exact ⟨rfl, fun _ => rfl⟩
end Go.Proofs.YtbabcohidpcjjaaGreat
