import Derived.Test.YtbabcohidpcjjaaGreatZLaw
import Derived.Test.YtbabcohidpcjjaaGreatZBulk
/-
  What a list of a reader's calls that came in holds, and how long its names are. Conditions: the statement's own (bulk at most 1048576).
-/
namespace Go.Proofs.YtbabcohidpcjjaaGreat
open Go.ChangeShapes Go.WideShapes Go.ChangeAt Go.RowKit
open Mem Law Bulk

/-- a reader's call -/
structure CallD where
  kind : Int
  n : Int
  name : ByteArray
def callV (o : CallD) : List Value := [.int .i64 o.kind, .int .i64 o.n, .string o.name]
/-- a list of calls in memory -/
structure CallsAt (w : World) (a : Option Addr) (l : List CallD) : Prop where
  acts : ∀ k (h : k < l.length), ∃ b o, a = some ⟨b, o, none⟩ ∧ ∀ f v, (callV l[k])[f]? = some v → w.cell? ⟨b, o + k * 3 + f, none⟩ = some v
instance : Inhabited CallD := ⟨⟨0, 0, ⟨#[]⟩⟩⟩
theorem call_under : Tryz.prog.underlying 43 = some (.struct (Tryz.prog.fieldsOf 43)) := by kernel_rfl
theorem call_fields : (Tryz.prog.fieldsOf 43).toList.map (fun f => (f.type, f.offset, Tryz.prog.cellsOf f.type)) = [(3, 0, 1), (3, 1, 1), (9, 2, 1)] := by kernel_rfl
theorem call_cells : Tryz.prog.cellsOf 43 = 3 := by kernel_rfl

section
variable {H : Type} {enc : TypeId × Value → H} {P : Program} {w : World} {base : Nat} {spare : Nat → Bool} {held : Bool}
/-- a struct of one-cell fields: its cells, each with its own reading, a part of the whole's -/
theorem struct_parts {t : TypeId} {fs : Array Field} {Ts : List TypeId} {fuel : Nat} {cs : List Value} {x : DataW H × List MemPlace} (ht : P.underlying t = some (.struct fs))
    (hf : fs.toList.map (fun f => (f.type, f.offset, P.cellsOf f.type)) = Ts.zipIdx.map fun p => (p.1, p.2, 1)) (h : DataW.trod enc P w base spare held fuel t cs = some x) :
    ∀ (i : Nat) (T : TypeId), Ts[i]? = some T → i < cs.length → ∃ n v y, cs[i]? = some v ∧ DataW.trod enc P w base spare held n T [v] = some y ∧ Rows.uptoBulk y.1 ≤ Rows.uptoBulk x.1 := by
  obtain ⟨xs, n, _, hx1, _, hlen, hx⟩ := DataW.trod_struct ht h
  intro i T hT hi
  have hfi : (fs.toList.map (fun f => (f.type, f.offset, P.cellsOf f.type)))[i]? = some (T, i, 1) := by
    rw [hf]; simp [List.getElem?_zipIdx, hT]
  rw [List.getElem?_map] at hfi
  cases hg : fs.toList[i]? with
  | none => rw [hg] at hfi; simp at hfi
  | some f =>
    rw [hg] at hfi
    simp only [Option.map_some, Option.some.injEq, Prod.mk.injEq] at hfi
    obtain ⟨h1, h2, h3⟩ := hfi
    have hlt : i < fs.size := by
      have := (List.getElem?_eq_some_iff.1 hg).1
      simpa using this
    have hy := hx i f (by simpa using hg)
    rw [h1] at h3
    rw [h1, h2, h3, List.drop_eq_getElem_cons hi] at hy
    rw [List.getElem?_eq_getElem (by omega)] at hy
    refine ⟨n, cs[i], _, List.getElem?_eq_getElem hi, hy, ?_⟩
    rw [hx1]
    have hm : (xs[i]'(by omega)).1 ∈ xs.map (·.1) := List.mem_map_of_mem (List.getElem_mem _)
    have := mem_le hm
    simp only [Rows.uptoBulk]
    omega
end

theorem spot_none {w : World} {a : Addr} {u : Value} (h : w.cell? (a.add 0) = some u) : a.spot = none := by
  obtain ⟨b, o, sp⟩ := a
  simp only [Addr.add, if_true] at h
  cases sp with
  | none => rfl
  | some q =>
    simp only [World.cell?] at h
    split at h <;> simp at h
set_option maxRecDepth 100000 in
theorem open_call {H : Type} {enc : TypeId × Value → H} {w : World} {base : Nat} {spare : Nat → Bool} {held : Bool} {cs : List Value} {n : Nat} {x : DataW H × List MemPlace} (hlen : cs.length = 3) (h : DataW.trod enc Tryz.prog w base spare held n 43 cs = some x) :
    ∃ o : CallD, cs = callV o ∧ o.name.size ≤ Rows.uptoBulk x.1 := by
  have hc := struct_parts (P := Tryz.prog) (Ts := [3, 3, 9]) call_under (call_fields.trans (by rfl)) h
  match cs, hlen with
  | [v0, v1, v4], _ =>
    obtain ⟨n0, u0, y0, e0, h0, _⟩ := hc 0 _ rfl (by simp)
    obtain ⟨n1, u1, y1, e1, h1, _⟩ := hc 1 _ rfl (by simp)
    obtain ⟨n4, u4, y4, e4, h4, b4⟩ := hc 2 _ rfl (by simp)
    simp only [List.getElem?_cons_zero, List.getElem?_cons_succ, Option.some.injEq] at e0 e1 e4
    subst e0 e1 e4
    obtain ⟨k, rfl, _⟩ := open_int1 Tryz.underlying3 h0
    obtain ⟨a, rfl, _⟩ := open_int1 Tryz.underlying3 h1
    obtain ⟨s, e4, rfl, _⟩ := DataW.trod_string Tryz.underlying9 h4
    simp only [List.cons.injEq, and_true] at e4
    subst e4
    refine ⟨⟨k, a, s⟩, rfl, ?_⟩
    simp only [Rows.uptoBulk] at b4
    have : s.data.toList.length = s.size := Array.length_toList
    show s.size ≤ _
    omega

set_option maxRecDepth 100000 in
theorem open_calls {H : Type} {enc : TypeId × Value → H} {W : World} {base : Nat} {spare : Nat → Bool} {held : Bool} {r : _root_.Go.Reach} {b0 : Nat} {v : Value} {d : DataW H} {p : List MemPlace} {ds : List (DataW H)}
    (hv : Value.okWide Tryz.prog W r b0 37 v) (h : DataW.Trod enc Tryz.prog W base spare held 37 v d p) (hd : d ∈ ds) (hk : Rows.uptoSmall H ds = true) :
    ∃ (a : Option Addr) (c : Nat) (l : List CallD), v = .slice a l.length c ∧ l.length ≤ 1048576 ∧ (∀ k (h : k < l.length), l[k].name.size ≤ 1048576) ∧ CallsAt W a l := by
  obtain ⟨a0, n0, c0, rfl⟩ := okWide_slice Tryz.underlying37 hv
  have hshort := slice_short Tryz.underlying37 h hd hk
  have htot := Nat.le_trans (mem_le hd) (small_le hk)
  obtain ⟨fuel, hf⟩ := h
  rcases Deep.open_slice Tryz.underlying37 (by simpa [Value.cells] using hf) with ⟨he, _⟩ | ⟨a, len, cap, m, n, D, Pl, he, _, hlc, hcm, hm, hx, hel⟩
  · simp only [List.cons.injEq, Value.slice.injEq, and_true] at he
    obtain ⟨rfl, rfl, rfl⟩ := he
    exact ⟨none, 0, [], rfl, Nat.zero_le _, fun k h => by simp at h, ⟨fun k h => by simp at h⟩⟩
  · simp only [List.cons.injEq, Value.slice.injEq, and_true] at he
    obtain ⟨rfl, rfl, rfl⟩ := he
    simp only [Prod.mk.injEq] at hx
    obtain ⟨rfl, _⟩ := hx
    have hle : n0 ≤ m := by rw [hm]; split <;> omega
    have hex : ∀ i, i < n0 → ∃ z : CallD, z.name.size ≤ 1048576 ∧ ∀ j u, (callV z)[j]? = some u → W.cell? (a.add (i * 3 + j)) = some u := by
      intro i hi
      obtain ⟨cs, h1, h2⟩ := hel i (by omega)
      rw [call_cells] at h1
      obtain ⟨_, hlen, hcell⟩ := World.cells?_some h1
      obtain ⟨o, rfl, g3⟩ := open_call hlen h2
      have hDm : D i ∈ (List.range n0).map D := List.mem_map_of_mem (List.mem_range.2 hi)
      have hb := mem_le hDm
      simp only [Rows.uptoBulk] at htot
      refine ⟨o, by simp only at g3 ⊢; omega, fun j u hj => ?_⟩
      have hj6 : j < 3 := by
        have := (List.getElem?_eq_some_iff.1 hj).1
        simpa [callV] using this
      rw [← Deep.add_add, hcell j hj6]
      exact hj
    obtain ⟨Z, hZ⟩ := Deep.choose_lt hex
    refine ⟨some a, c0, (List.range n0).map fun i => Z i, by simp, by simpa using hshort, ?_, ⟨?_⟩⟩
    · intro k hk
      have hk' : k < n0 := by simpa using hk
      simp only [List.getElem_map, List.getElem_range]
      exact (hZ k hk').1
    · intro k hk
      have hk' : k < n0 := by simpa using hk
      simp only [List.getElem_map, List.getElem_range]
      obtain ⟨_, z5⟩ := hZ k hk'
      have hnone := spot_none (by have := (hZ 0 (by omega)).2 0 _ rfl; simpa using this)
      obtain ⟨b, o, sp⟩ := a
      simp only at hnone
      subst hnone
      refine ⟨b, o, rfl, fun f u hf => ?_⟩
      have := z5 f u hf
      rw [← this, show o + k * 3 + f = o + (k * 3 + f) from by omega]
      unfold Addr.add
      split
      · rename_i h0; rw [h0]; rfl
      · rfl
end Go.Proofs.YtbabcohidpcjjaaGreat
