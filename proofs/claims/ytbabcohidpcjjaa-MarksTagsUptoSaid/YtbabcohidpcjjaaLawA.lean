/-
  What a list of attributes that came in holds, and how long its texts are. Conditions: the statement's own (bulk at most 1048576).
-/
import Derived.Test.YtbabcohidpcjjaaLaw
import Derived.Test.YtbabcohidpcjjaaBulk
namespace Go.Proofs.Ytbabcohidpcjjaa
open Go.ChangeShapes Go.WideShapes Go.ChangeAt Go.RowKit
open Mem Law Bulk

theorem attr_under : Try.prog.underlying 38 = some (.struct (Try.prog.fieldsOf 38)) := by kernel_rfl
theorem attr_cells : Try.prog.cellsOf 38 = 2 := by kernel_rfl
theorem attr_fields : (Try.prog.fieldsOf 38).toList.map (fun f => (f.type, f.offset, Try.prog.cellsOf f.type)) = [(9, 0, 1), (9, 1, 1)] := by kernel_rfl

section
variable {H : Type} {enc : TypeId × Value → H} {P : Program} {w : World} {base : Nat} {spare : Nat → Bool} {held : Bool}
/-- a struct of one-cell fields: its cells, each with its own reading, a part of the whole's -/
theorem struct_parts {t : TypeId} {fs : Array Field} {Ts : List TypeId} {fuel : Nat} {cs : List Value} {x : DataW H × List MemPlace} (ht : P.underlying t = some (.struct fs))
    (hf : fs.toList.map (fun f => (f.type, f.offset, P.cellsOf f.type)) = Ts.zipIdx.map fun p => (p.1, p.2, 1)) (h : DataW.trod enc P w base spare held fuel t cs = some x) :
    ∀ (i : Nat) (T : TypeId), Ts[i]? = some T → i < cs.length → ∃ n v y, cs[i]? = some v ∧ DataW.trod enc P w base spare held n T [v] = some y ∧ Rows.uptoBulk y.1 ≤ Rows.uptoBulk x.1 := by
  obtain ⟨xs, n, _, hx1, _, hlen, hx⟩ := DataW.trod_struct ht h
  intro i T hT hi
  have hfi : (fs.toList.map (fun f => (f.type, f.offset, P.cellsOf f.type)))[i]? = some (T, i, 1) := by
    rw [hf]; simp [List.getElem?_zipIdx, hT]
  rw [List.getElem?_map] at hfi
  cases hg : fs.toList[i]? with
  | none => rw [hg] at hfi; simp at hfi
  | some f =>
    rw [hg] at hfi
    simp only [Option.map_some, Option.some.injEq, Prod.mk.injEq] at hfi
    obtain ⟨h1, h2, h3⟩ := hfi
    have hlt : i < fs.size := by
      have := (List.getElem?_eq_some_iff.1 hg).1
      simpa using this
    have hy := hx i f (by simpa using hg)
    rw [h1] at h3
    rw [h1, h2, h3, List.drop_eq_getElem_cons hi] at hy
    rw [List.getElem?_eq_getElem (by omega)] at hy
    refine ⟨n, cs[i], _, List.getElem?_eq_getElem hi, hy, ?_⟩
    rw [hx1]
    have hm : (xs[i]'(by omega)).1 ∈ xs.map (·.1) := List.mem_map_of_mem (List.getElem_mem _)
    have := mem_le hm
    simp only [Rows.uptoBulk]
    omega
end

theorem open_attr {H : Type} {enc : TypeId × Value → H} {w : World} {base : Nat} {spare : Nat → Bool} {held : Bool} {cs : List Value} {n : Nat} {x : DataW H × List MemPlace} (hlen : cs.length = 2) (h : DataW.trod enc Try.prog w base spare held n 38 cs = some x) :
    ∃ p q : ByteArray, cs = [.string p, .string q] ∧ p.size ≤ Rows.uptoBulk x.1 ∧ q.size ≤ Rows.uptoBulk x.1 := by
  have hc := struct_parts (P := Try.prog) (Ts := [9, 9]) attr_under (attr_fields.trans (by rfl)) h
  match cs, hlen with
  | [v0, v1], _ =>
    obtain ⟨n0, u0, y0, e0, h0, b0⟩ := hc 0 _ rfl (by simp)
    obtain ⟨n1, u1, y1, e1, h1, b1⟩ := hc 1 _ rfl (by simp)
    simp only [List.getElem?_cons_zero, List.getElem?_cons_succ, Option.some.injEq] at e0 e1
    subst e0 e1
    obtain ⟨p, e, rfl, _⟩ := DataW.trod_string Try.underlying9 h0
    simp only [List.cons.injEq, and_true] at e
    subst e
    obtain ⟨q, e, rfl, _⟩ := DataW.trod_string Try.underlying9 h1
    simp only [List.cons.injEq, and_true] at e
    subst e
    have hp : p.data.toList.length = p.size := Array.length_toList
    have hq : q.data.toList.length = q.size := Array.length_toList
    simp only [Rows.uptoBulk] at b0 b1
    exact ⟨p, q, rfl, by omega, by omega⟩
theorem add_none (b o n : Nat) : (⟨b, o, none⟩ : Addr).add n = ⟨b, o + n, none⟩ := by
  unfold Addr.add
  split
  · rename_i h; rw [h]; rfl
  · rfl
theorem attrs_short {H : Type} {enc : TypeId × Value → H} {W : World} {base : Nat} {spare : Nat → Bool} {held : Bool} {a : Option Addr} {n c : Nat} {d : DataW H} {p : List MemPlace} {ds : List (DataW H)}
    (h : DataW.Trod enc Try.prog W base spare held 34 (.slice a n c) d p) (hd : d ∈ ds) (hk : Rows.uptoSmall H ds = true) {l : List Pair} (hl : l.length = n) (hat : At W a (pairsV l)) : ∀ q ∈ l, q.1.size ≤ 1048576 ∧ q.2.size ≤ 1048576 := by
  have htot := Nat.le_trans (mem_le hd) (small_le hk)
  obtain ⟨fuel, hf⟩ := h
  rcases Deep.open_slice Try.underlying34 (by simpa [Value.cells] using hf) with ⟨he, _⟩ | ⟨a', len, cap, m, k, D, Pl, he, _, hlc, hcm, hm, hx, hel⟩
  · simp only [List.cons.injEq, Value.slice.injEq, and_true] at he
    obtain ⟨rfl, rfl, rfl⟩ := he
    intro q hq
    rw [List.eq_nil_of_length_eq_zero hl] at hq
    cases hq
  · simp only [List.cons.injEq, Value.slice.injEq, and_true] at he
    obtain ⟨rfl, rfl, rfl⟩ := he
    simp only [Prod.mk.injEq] at hx
    obtain ⟨rfl, _⟩ := hx
    have hle : n ≤ m := by rw [hm]; split <;> omega
    intro q hq
    obtain ⟨i, hi, rfl⟩ := List.getElem_of_mem hq
    obtain ⟨cs, h1, h2⟩ := hel i (by omega)
    rw [attr_cells] at h1
    obtain ⟨_, hlen, hcell⟩ := World.cells?_some h1
    obtain ⟨x0, x1, rfl, g1, g2⟩ := open_attr hlen h2
    have hDm : D i ∈ (List.range n).map D := List.mem_map_of_mem (List.mem_range.2 (by omega))
    have hb := mem_le hDm
    simp only [Rows.uptoBulk] at htot
    obtain ⟨b, o, ha, -, c0, c1⟩ := pair_cells hat hi
    cases ha
    have e0 := hcell 0 (by omega)
    have e1 := hcell 1 (by omega)
    rw [add_none, add_none] at e0 e1
    rw [Nat.add_zero, c0] at e0
    rw [c1] at e1
    simp only [List.getElem?_cons_zero, List.getElem?_cons_succ, Option.some.injEq, Value.string.injEq] at e0 e1
    rw [e0, e1]
    simp only at g1 g2
    exact ⟨by omega, by omega⟩
end Go.Proofs.Ytbabcohidpcjjaa
