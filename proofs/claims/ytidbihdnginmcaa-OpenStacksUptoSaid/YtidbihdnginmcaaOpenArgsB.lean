/-
  What a list of steps that came in holds, and how long its parts are. Conditions: the statement's own (bulk at most 1048576).
-/
import Derived.Test.YtidbihdnginmcaaOpenWZ
import Derived.Test.YtidbihdnginmcaaOpenArgs
import Derived.Test.YtidbihdnginmcaaBulk
namespace Go.Proofs.Ytidbihdnginmcaa
open Go.ChangeShapes Go.WideShapes Go.ChangeAt Go.RowKit
open Mem Law Bulk

theorem attr_under : Try.prog.underlying 81 = some (.struct (Try.prog.fieldsOf 81)) := by kernel_rfl
theorem attr_cells : Try.prog.cellsOf 81 = 2 := by kernel_rfl
theorem attr_fields : (Try.prog.fieldsOf 81).toList.map (fun f => (f.type, f.offset, Try.prog.cellsOf f.type)) = [(9, 0, 1), (9, 1, 1)] := by kernel_rfl
theorem op_under : Try.prog.underlying 31 = some (.struct (Try.prog.fieldsOf 31)) := by kernel_rfl
theorem op_fields : (Try.prog.fieldsOf 31).toList.map (fun f => (f.type, f.offset, Try.prog.cellsOf f.type)) = [(3, 0, 1), (3, 1, 1), (3, 2, 1), (3, 3, 1), (9, 4, 1), (29, 5, 1)] := by kernel_rfl
theorem op_cells : Try.prog.cellsOf 31 = 6 := by kernel_rfl

section
variable {H : Type} {enc : TypeId × Value → H} {P : Program} {w : World} {base : Nat} {spare : Nat → Bool} {held : Bool}
/-- a struct of one-cell fields: its cells, each with its own reading, a part of the whole's -/
theorem struct_parts {t : TypeId} {fs : Array Field} {Ts : List TypeId} {fuel : Nat} {cs : List Value} {x : DataW H × List MemPlace} (ht : P.underlying t = some (.struct fs))
    (hf : fs.toList.map (fun f => (f.type, f.offset, P.cellsOf f.type)) = Ts.zipIdx.map fun p => (p.1, p.2, 1)) (h : DataW.trod enc P w base spare held fuel t cs = some x) :
    ∀ (i : Nat) (T : TypeId), Ts[i]? = some T → i < cs.length → ∃ n v y, cs[i]? = some v ∧ DataW.trod enc P w base spare held n T [v] = some y ∧ Rows.uptoBulk y.1 ≤ Rows.uptoBulk x.1 := by
  obtain ⟨xs, n, _, hx1, _, hlen, hx⟩ := DataW.trod_struct ht h
  intro i T hT hi
  have hfi : (fs.toList.map (fun f => (f.type, f.offset, P.cellsOf f.type)))[i]? = some (T, i, 1) := by
    rw [hf]; simp [List.getElem?_zipIdx, hT]
  rw [List.getElem?_map] at hfi
  cases hg : fs.toList[i]? with
  | none => rw [hg] at hfi; simp at hfi
  | some f =>
    rw [hg] at hfi
    simp only [Option.map_some, Option.some.injEq, Prod.mk.injEq] at hfi
    obtain ⟨h1, h2, h3⟩ := hfi
    have hlt : i < fs.size := by
      have := (List.getElem?_eq_some_iff.1 hg).1
      simpa using this
    have hy := hx i f (by simpa using hg)
    rw [h1] at h3
    rw [h1, h2, h3, List.drop_eq_getElem_cons hi] at hy
    rw [List.getElem?_eq_getElem (by omega)] at hy
    refine ⟨n, cs[i], _, List.getElem?_eq_getElem hi, hy, ?_⟩
    rw [hx1]
    have hm : (xs[i]'(by omega)).1 ∈ xs.map (·.1) := List.mem_map_of_mem (List.getElem_mem _)
    have := mem_le hm
    simp only [Rows.uptoBulk]
    omega
end

set_option maxRecDepth 100000 in
theorem open_op {H : Type} {enc : TypeId × Value → H} {w : World} {base : Nat} {spare : Nat → Bool} {held : Bool} {cs : List Value} {n : Nat} {x : DataW H × List MemPlace} (hlen : cs.length = 6) (h : DataW.trod enc Try.prog w base spare held n 31 cs = some x) :
    ∃ (o : OpD) (aa : Option Addr) (ac : Nat), cs = opV o aa ac ∧ (aa = none → ac = 0) ∧ At w aa (pairsV o.attrs) ∧ o.s.size ≤ Rows.uptoBulk x.1 ∧ o.attrs.length ≤ Rows.uptoBulk x.1 := by
  have hc := struct_parts (P := Try.prog) (Ts := [3, 3, 3, 3, 9, 29]) op_under (op_fields.trans (by rfl)) h
  match cs, hlen with
  | [v0, v1, v2, v3, v4, v5], _ =>
    obtain ⟨n0, u0, y0, e0, h0, _⟩ := hc 0 _ rfl (by simp)
    obtain ⟨n1, u1, y1, e1, h1, _⟩ := hc 1 _ rfl (by simp)
    obtain ⟨n2, u2, y2, e2, h2, _⟩ := hc 2 _ rfl (by simp)
    obtain ⟨n3, u3, y3, e3, h3, _⟩ := hc 3 _ rfl (by simp)
    obtain ⟨n4, u4, y4, e4, h4, b4⟩ := hc 4 _ rfl (by simp)
    obtain ⟨n5, u5, y5, e5, h5, b5⟩ := hc 5 _ rfl (by simp)
    simp only [List.getElem?_cons_zero, List.getElem?_cons_succ, Option.some.injEq] at e0 e1 e2 e3 e4 e5
    subst e0 e1 e2 e3 e4 e5
    obtain ⟨k, rfl, _⟩ := open_int1 Try.underlying3 h0
    obtain ⟨a, rfl, _⟩ := open_int1 Try.underlying3 h1
    obtain ⟨b, rfl, _⟩ := open_int1 Try.underlying3 h2
    obtain ⟨c, rfl, _⟩ := open_int1 Try.underlying3 h3
    obtain ⟨s, e4, rfl, _⟩ := DataW.trod_string Try.underlying9 h4
    simp only [List.cons.injEq, and_true] at e4
    subst e4
    obtain ⟨aa, ac, l, rfl, g1, g2, g3, g4, g5⟩ := open_pairs Try.underlying29 Try.underlying9 attr_under attr_cells attr_fields h5
    refine ⟨⟨k, a, b, c, s, l⟩, aa, ac, rfl, g3, g4, ?_, ?_⟩
    · simp only [Rows.uptoBulk] at b4
      have : s.data.toList.length = s.size := Array.length_toList
      show s.size ≤ _
      omega
    · show l.length ≤ _
      rcases slice_len Try.underlying29 h5 with ⟨_, e⟩ | ⟨el, sp, e, hl⟩
      · omega
      · rw [e] at b5
        simp only [Rows.uptoBulk] at b5
        have := all_len el
        omega

instance : Inhabited OpD := ⟨⟨0, 0, 0, 0, ⟨#[]⟩, []⟩⟩
theorem addr_none {w : World} {a : Addr} {u : Value} (h : w.cell? (a.add 0) = some u) : a.spot = none := by
  obtain ⟨b, o, sp⟩ := a
  simp only [Addr.add, if_true] at h
  cases sp with
  | none => rfl
  | some q =>
    simp only [World.cell?] at h
    split at h <;> simp at h

set_option maxRecDepth 100000 in
theorem open_ops {H : Type} {enc : TypeId × Value → H} {W : World} {base : Nat} {spare : Nat → Bool} {held : Bool} {r : _root_.Go.Reach} {b0 : Nat} {v : Value} {d : DataW H} {p : List MemPlace} {ds : List (DataW H)}
    (hv : Value.okWide Try.prog W r b0 22 v) (h : DataW.Trod enc Try.prog W base spare held 22 v d p) (hd : d ∈ ds) (hk : Rows.uptoSmall H ds = true) :
    ∃ (a : Option Addr) (c : Nat) (l : List OpD), v = .slice a l.length c ∧ l.length ≤ 1048576 ∧ l.length ≤ c ∧ c ≤ maxLen ∧ (∀ k (h : k < l.length), l[k].s.size ≤ 1048576 ∧ l[k].attrs.length ≤ 1048576) ∧ OpsAt W a l := by
  obtain ⟨a0, n0, c0, rfl⟩ := okWide_slice Try.underlying22 hv
  have hshort := slice_short Try.underlying22 h hd hk
  have htot := Nat.le_trans (mem_le hd) (small_le hk)
  obtain ⟨fuel, hf⟩ := h
  rcases Deep.open_slice Try.underlying22 (by simpa [Value.cells] using hf) with ⟨he, _⟩ | ⟨a, len, cap, m, n, D, Pl, he, _, hlc, hcm, hm, hx, hel⟩
  · simp only [List.cons.injEq, Value.slice.injEq, and_true] at he
    obtain ⟨rfl, rfl, rfl⟩ := he
    exact ⟨none, 0, [], rfl, Nat.zero_le _, Nat.zero_le _, Nat.zero_le _, fun k h => by simp at h, ⟨fun k h => by simp at h⟩⟩
  · simp only [List.cons.injEq, Value.slice.injEq, and_true] at he
    obtain ⟨rfl, rfl, rfl⟩ := he
    simp only [Prod.mk.injEq] at hx
    obtain ⟨rfl, _⟩ := hx
    have hle : n0 ≤ m := by rw [hm]; split <;> omega
    have hex : ∀ i, i < n0 → ∃ z : OpD × Option Addr × Nat, (z.2.1 = none → z.2.2 = 0) ∧ At W z.2.1 (pairsV z.1.attrs) ∧ z.1.s.size ≤ 1048576 ∧ z.1.attrs.length ≤ 1048576 ∧ ∀ j u, (opV z.1 z.2.1 z.2.2)[j]? = some u → W.cell? (a.add (i * 6 + j)) = some u := by
      intro i hi
      obtain ⟨cs, h1, h2⟩ := hel i (by omega)
      rw [op_cells] at h1
      obtain ⟨_, hlen, hcell⟩ := World.cells?_some h1
      obtain ⟨o, aa, ac, rfl, g1, g2, g3, g4⟩ := open_op hlen h2
      have hDm : D i ∈ (List.range n0).map D := List.mem_map_of_mem (List.mem_range.2 hi)
      have hb := mem_le hDm
      simp only [Rows.uptoBulk] at htot
      refine ⟨(o, aa, ac), g1, g2, by simp only at g3 ⊢; omega, by simp only at g4 ⊢; omega, fun j u hj => ?_⟩
      have hj6 : j < 6 := by
        have := (List.getElem?_eq_some_iff.1 hj).1
        simpa [opV] using this
      rw [← Deep.add_add, hcell j hj6]
      exact hj
    obtain ⟨Z, hZ⟩ := Deep.choose_lt hex
    refine ⟨some a, c0, (List.range n0).map fun i => (Z i).1, by simp, by simpa using hshort, by simpa using hlc, hcm, ?_, ⟨?_⟩⟩
    · intro k hk
      have hk' : k < n0 := by simpa using hk
      simp only [List.getElem_map, List.getElem_range]
      exact ⟨(hZ k hk').2.2.1, (hZ k hk').2.2.2.1⟩
    · intro k hk
      have hk' : k < n0 := by simpa using hk
      simp only [List.getElem_map, List.getElem_range]
      obtain ⟨z1, z2, _, _, z5⟩ := hZ k hk'
      have hnone := addr_none (by have := (hZ 0 (by omega)).2.2.2.2 0 _ rfl; simpa using this)
      obtain ⟨b, o, sp⟩ := a
      simp only at hnone
      subst hnone
      refine ⟨b, o, (Z k).2.1, (Z k).2.2, rfl, z1, AtF.of_new z2 (fun _ _ _ _ h => h), fun f u hf => ?_⟩
      have := z5 f u hf
      rw [← this, show o + k * 6 + f = o + (k * 6 + f) from by omega]
      unfold Addr.add
      split
      · rename_i h0; rw [h0]; rfl
      · rfl
end Go.Proofs.Ytidbihdnginmcaa
