/-
  Contracts: open.New: a tree of the root alone, in new blocks.
-/
import Derived.Test.YtidbihdnginmcaaOpenB
import Derived.Test.YtidbihdnginmcaaTreeMemB
namespace Go.Proofs.Ytidbihdnginmcaa
open Go.RowKit Mem

def rootN : ND := ⟨false, 0, ⟨#[]⟩, [], ⟨#[]⟩, -1, []⟩

theorem heap_new_at {w : World} {o : Obj} {n : Nat} (h : w.heap.size = n) : (w.alloc o).heap[n]? = some o := by
  subst h
  exact heap_alloc_new w o

theorem New_any (most : Int) (w : World) : Calls Try.prog 10 #[.int .i64 most] w fun e w' =>
    ∃ tb g, e = .returned (.pointer (some ⟨tb, 0, none⟩)) ∧ TreeO w' tb g ⟨[rootN], most, noFar⟩ ∧ w.heap.size ≤ tb ∧ w.heap.size ≤ g ∧ Below w.heap.size w w' := by
  go_enter Try.func10, Try.ntmps10
  go_wp2
  go_ret
  refine ⟨w.heap.size + 1, w.heap.size, ret_eq (by simp), ?_, by omega, by omega, ?_⟩
  · refine ⟨1, [cells7 rootN none 0 none 0], by omega, heap_new_at (by simp), ?_, rfl, ?_, fun k hk => False.elim hk⟩
    · refine own_below (w := w.alloc _) (World.ownsRow_lit w (cells7 rootN none 0 none 0).toArray 1 (Nat.zero_le _) (by decide) rfl) ((Below.refl _ _).alloc (Nat.le_refl _) _)
    · intro i h h'
      simp at h
      subst h
      exact ⟨none, 0, none, 0, rfl, Nat.le_refl _, by decide, fun _ => rfl, Nat.le_refl _, by decide, .inl ⟨rfl, rfl⟩, fun j u hj => by simp [rootN, pairsV] at hj, fun j u hj => by simp [rootN, intsV] at hj⟩
  · exact ((Below.refl _ _).alloc (Nat.le_refl _) _).alloc (by simp) _
end Go.Proofs.Ytidbihdnginmcaa
