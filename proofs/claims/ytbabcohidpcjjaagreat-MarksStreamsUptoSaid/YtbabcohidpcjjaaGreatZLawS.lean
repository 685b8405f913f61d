import Derived.Test.YtbabcohidpcjjaaGreatZLaw
import Derived.Test.YtbabcohidpcjjaaGreatZBulk
/-
  What a list of texts that came in holds, and how long each is. Conditions: the statement's own (bulk at most 1048576).
-/
namespace Go.Proofs.YtbabcohidpcjjaaGreat
open Go.ChangeShapes Go.WideShapes Go.ChangeAt Go.RowKit
open Mem Law Bulk

theorem spot_none {w : World} {a : Addr} {u : Value} (h : w.cell? (a.add 0) = some u) : a.spot = none := by
  obtain ⟨b, o, sp⟩ := a
  simp only [Addr.add, if_true] at h
  cases sp with
  | none => rfl
  | some q =>
    simp only [World.cell?] at h
    split at h <;> simp at h
set_option maxRecDepth 100000 in
theorem open_pieces {H : Type} {enc : TypeId × Value → H} {W : World} {base : Nat} {spare : Nat → Bool} {held : Bool} {r : _root_.Go.Reach} {b0 : Nat} {v : Value} {d : DataW H} {p : List MemPlace} {ds : List (DataW H)}
    (hv : Value.okWide Tryz.prog W r b0 30 v) (h : DataW.Trod enc Tryz.prog W base spare held 30 v d p) (hd : d ∈ ds) (hk : Rows.uptoSmall H ds = true) :
    ∃ (a : Option Addr) (c : Nat) (l : List ByteArray), v = .slice a l.length c ∧ l.length ≤ 1048576 ∧ (∀ k (h : k < l.length), l[k].size ≤ 1048576) ∧ At W a (strsV l) := by
  obtain ⟨a0, n0, c0, rfl⟩ := okWide_slice Tryz.underlying30 hv
  have hshort := slice_short Tryz.underlying30 h hd hk
  have htot := Nat.le_trans (mem_le hd) (small_le hk)
  obtain ⟨fuel, hf⟩ := h
  rcases Deep.open_slice Tryz.underlying30 (by simpa [Value.cells] using hf) with ⟨he, _⟩ | ⟨a, len, cap, m, n, D, Pl, he, _, hlc, hcm, hm, hx, hel⟩
  · simp only [List.cons.injEq, Value.slice.injEq, and_true] at he
    obtain ⟨rfl, rfl, rfl⟩ := he
    exact ⟨none, 0, [], rfl, Nat.zero_le _, fun k h => by simp at h, At.nil _ _⟩
  · simp only [List.cons.injEq, Value.slice.injEq, and_true] at he
    obtain ⟨rfl, rfl, rfl⟩ := he
    simp only [Prod.mk.injEq] at hx
    obtain ⟨rfl, _⟩ := hx
    have hle : n0 ≤ m := by rw [hm]; split <;> omega
    have hex : ∀ i, i < n0 → ∃ z : ByteArray, z.size ≤ 1048576 ∧ W.cell? (a.add i) = some (.string z) := by
      intro i hi
      obtain ⟨cs, h1, h2⟩ := hel i (by omega)
      rw [show Tryz.prog.cellsOf 9 = 1 from by kernel_rfl, Nat.mul_one] at h1
      obtain ⟨_, hlen, hcell⟩ := World.cells?_some h1
      match cs, hlen with
      | [u], _ =>
        obtain ⟨z, e, hx, _⟩ := DataW.trod_string Tryz.underlying9 h2
        simp only [List.cons.injEq, and_true] at e
        subst e
        have hDm : D i ∈ (List.range n0).map D := List.mem_map_of_mem (List.mem_range.2 hi)
        have hb := mem_le hDm
        simp only [Rows.uptoBulk] at htot
        have hDi : D i = .lit (.string z.data.toList) := congrArg Prod.fst hx
        rw [hDi] at hb
        simp only [Rows.uptoBulk] at hb
        have hz : z.data.toList.length = z.size := Array.length_toList
        refine ⟨z, by omega, ?_⟩
        have h0 := hcell 0 (by simp)
        rw [Deep.add_add, Nat.add_zero] at h0
        simpa using h0
    obtain ⟨Z, hZ⟩ := Deep.choose_lt hex
    refine ⟨some a, c0, (List.range n0).map fun i => Z i, by simp, by simpa using hshort, ?_, ?_⟩
    · intro k hk
      have hk' : k < n0 := by simpa using hk
      simp only [List.getElem_map, List.getElem_range]
      exact (hZ k hk').1
    · intro j x hj
      unfold strsV at hj
      rw [List.getElem?_map] at hj
      by_cases hk' : j < n0
      · have z5 := (hZ j hk').2
        have hnone := spot_none (by have := (hZ 0 (by omega)).2; exact this)
        obtain ⟨b, o, sp⟩ := a
        simp only at hnone
        subst hnone
        refine ⟨b, o, rfl, ?_⟩
        rw [List.getElem?_map, List.getElem?_range hk'] at hj
        simp only [Option.map_some, Option.some.injEq] at hj
        rw [← hj, ← z5]
        unfold Addr.add
        split
        · rename_i h0; rw [h0]; rfl
        · rfl
      · exfalso
        rw [List.getElem?_eq_none (by simp; omega)] at hj
        cases hj
end Go.Proofs.YtbabcohidpcjjaaGreat
