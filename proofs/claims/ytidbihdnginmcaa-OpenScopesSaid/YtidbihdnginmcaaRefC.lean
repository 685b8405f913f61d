/-
  Contract: colanderref14.New: a tree of the root alone, in new blocks.
-/
import Derived.Test.YtidbihdnginmcaaRefA
import Derived.Test.YtidbihdnginmcaaOpenC
namespace Go.Proofs.Ytidbihdnginmcaa
open Go.RowKit Mem

theorem rNew_any (most : Int) (w : World) : Calls Try.prog 11 #[.int .i64 most] w fun e w' =>
    ∃ rb gn gk, e = .returned (.pointer (some ⟨rb, 0, none⟩)) ∧ RefO w' rb gn gk ⟨[rootN], most, noFar⟩ ∧ w.heap.size ≤ rb ∧ w.heap.size ≤ gn ∧ w.heap.size ≤ gk ∧ Below w.heap.size w w' := by
  go_enter Try.func11, Try.ntmps11
  go_wp2
  go_ret
  have hb1 := (Below.refl w.heap.size w).alloc (Nat.le_refl _) (.cells (cellsR rootN none 0).toArray 93)
  have hb2 := hb1.alloc (by simp) (.cells #[.slice none 0 0] 32)
  have hb3 := hb2.alloc (by simp; omega) (.cells #[.slice (some ⟨w.heap.size, 0, none⟩) 1 1, .slice (some ⟨w.heap.size + 1, 0, none⟩) 1 1, .int .i64 most] 97)
  refine ⟨w.heap.size + 1 + 1, w.heap.size, w.heap.size + 1, ret_eq (by simp), ⟨1, 1, [cellsR rootN none 0], [.slice none 0 0], ?_⟩, by omega, by omega, by omega, hb3⟩
  refine ⟨by omega, by omega, by omega, heap_new_at (by simp), ?_, ?_, rfl, ?_, ?_, fun k hk => False.elim hk⟩
  · refine own_below (own_below (w := w.alloc _) (World.ownsRow_lit w (cellsR rootN none 0).toArray 1 (Nat.zero_le _) (by decide) rfl) ((Below.refl _ _).alloc (Nat.le_refl _) _)) ((Below.refl _ _).alloc (Nat.le_refl _) _)
  · have := World.ownsRow_lit (base := 0) (e := 32) (size := 1) (w.alloc (.cells (cellsR rootN none 0).toArray 93)) #[.slice none 0 0] 1 (Nat.zero_le _) (by decide) rfl
    have h2 := own_below this ((Below.refl _ _).alloc (Nat.le_refl _) (.cells #[.slice (some ⟨w.heap.size, 0, none⟩) 1 1, .slice (some ⟨w.heap.size + 1, 0, none⟩) 1 1, .int .i64 most] 97))
    simpa [cellsR, rootN] using h2
  · intro i h h'
    simp at h
    subst h
    exact ⟨none, 0, rfl, Nat.le_refl _, by decide, fun _ => rfl, fun j u hj => by simp [rootN, pairsV] at hj⟩
  · intro i h h'
    simp at h
    subst h
    exact ⟨none, 0, rfl, Nat.le_refl _, by decide, .inl ⟨rfl, rfl⟩, fun j u hj => by simp [rootN, intsV] at hj⟩
end Go.Proofs.Ytidbihdnginmcaa
