/-
  A list of acts as an argument of a law, laid open: its cells, and what they hold. (Layer 14.)
-/
import Derived.Test.YtidbihdnginmcaaOpenArgsB
namespace Go.Proofs.Ytidbihdnginmcaa
open Go.ChangeShapes Go.WideShapes Go.ChangeAt Go.RowKit
open Mem Law Bulk

structure DoD where
  kind : Int
  n : Int
  m : Int
  names : List ByteArray
def doV (o : DoD) (a : Option Addr) (c : Nat) : List Value := [.int .i64 o.kind, .int .i64 o.n, .int .i64 o.m, .slice a o.names.length c]
/-- a list of acts in memory -/
structure DosAt (w : World) (a : Option Addr) (l : List DoD) : Prop where
  acts : ∀ k (h : k < l.length), ∃ b o aa ac, a = some ⟨b, o, none⟩ ∧ l[k].names.length ≤ ac ∧ ac ≤ maxLen ∧ (aa = none → ac = 0) ∧ AtF Non w aa (strsV l[k].names) ∧ ∀ f v, (doV l[k] aa ac)[f]? = some v → w.cell? ⟨b, o + k * 4 + f, none⟩ = some v
instance : Inhabited DoD := ⟨⟨0, 0, 0, []⟩⟩
theorem do_under : ∃ fs, Try.prog.underlying 68 = some (.struct fs) ∧ fs.toList.map (fun f => (f.type, f.offset, Try.prog.cellsOf f.type)) = [(3, 0, 1), (3, 1, 1), (3, 2, 1), (51, 3, 1)] := ⟨_, Try.underlying68, by kernel_rfl⟩
theorem do_cells : Try.prog.cellsOf 68 = 4 := by kernel_rfl

theorem all_four {H : Type} : ∀ {l : List (DataW H)}, (∀ d ∈ l, 4 ≤ Rows.uptoBulk d) → l.length * 4 ≤ Rows.uptoBulkAll l
  | [], _ => by simp [Rows.uptoBulkAll]
  | d :: r, h => by
    have h1 := h d (by simp)
    have h2 := all_four (l := r) fun x hx => h x (by simp [hx])
    simp only [Rows.uptoBulkAll, List.length_cons]
    omega
theorem struct_four {H : Type} {enc : TypeId × Value → H} {P : Program} {w : World} {base : Nat} {spare : Nat → Bool} {held : Bool} {t : TypeId} {fs : Array Field} {fuel : Nat} {cs : List Value} {x : DataW H × List MemPlace} (ht : P.underlying t = some (.struct fs)) (hf : fs.toList.length = 4) (h : DataW.trod enc P w base spare held fuel t cs = some x) : 4 ≤ Rows.uptoBulk x.1 := by
  obtain ⟨xs, n, _, hx1, _, hlen, hx⟩ := DataW.trod_struct ht h
  have := all_len (xs.map (·.1))
  rw [List.length_map] at this
  rw [hx1]
  simp only [Rows.uptoBulk]
  have : fs.toList.length = fs.size := rfl
  omega

set_option maxRecDepth 100000 in
theorem open_do {H : Type} {enc : TypeId × Value → H} {w : World} {base : Nat} {spare : Nat → Bool} {held : Bool} {cs : List Value} {n : Nat} {x : DataW H × List MemPlace} (hlen : cs.length = 4) (h : DataW.trod enc Try.prog w base spare held n 68 cs = some x) :
    ∃ (o : DoD) (aa : Option Addr) (ac : Nat), cs = doV o aa ac ∧ o.names.length ≤ ac ∧ ac ≤ maxLen ∧ (aa = none → ac = 0) ∧ At w aa (strsV o.names) ∧ o.names.length ≤ Rows.uptoBulk x.1 ∧ 4 ≤ Rows.uptoBulk x.1 := by
  obtain ⟨fs, hfs, hf⟩ := do_under
  have h4 := struct_four hfs (by have := congrArg List.length hf; simpa using this) h
  have hc := struct_parts (P := Try.prog) (Ts := [3, 3, 3, 51]) hfs (hf.trans (by rfl)) h
  match cs, hlen with
  | [v0, v1, v2, v3], _ =>
    obtain ⟨n0, u0, y0, e0, h0, _⟩ := hc 0 _ rfl (by simp)
    obtain ⟨n1, u1, y1, e1, h1, _⟩ := hc 1 _ rfl (by simp)
    obtain ⟨n2, u2, y2, e2, h2, _⟩ := hc 2 _ rfl (by simp)
    obtain ⟨n3, u3, y3, e3, h3, b3⟩ := hc 3 _ rfl (by simp)
    simp only [List.getElem?_cons_zero, List.getElem?_cons_succ, Option.some.injEq] at e0 e1 e2 e3
    subst e0 e1 e2 e3
    obtain ⟨k, rfl, _⟩ := open_int1 Try.underlying3 h0
    obtain ⟨a, rfl, _⟩ := open_int1 Try.underlying3 h1
    obtain ⟨b, rfl, _⟩ := open_int1 Try.underlying3 h2
    obtain ⟨aa, ac, l, rfl, g1, g2, g3, g4, _⟩ := open_strs Try.underlying51 Try.underlying9 (by kernel_rfl) h3
    refine ⟨⟨k, a, b, l⟩, aa, ac, rfl, g1, g2, g3, g4, ?_, h4⟩
    show l.length ≤ _
    rcases slice_len Try.underlying51 h3 with ⟨_, e⟩ | ⟨el, sp, e, hl⟩
    · omega
    · rw [e] at b3
      simp only [Rows.uptoBulk] at b3
      have := all_len el
      omega

set_option maxRecDepth 100000 in
theorem open_dos {H : Type} {enc : TypeId × Value → H} {W : World} {base : Nat} {spare : Nat → Bool} {held : Bool} {r : _root_.Go.Reach} {b0 : Nat} {v : Value} {d : DataW H} {p : List MemPlace} {ds : List (DataW H)}
    (hv : Value.okWide Try.prog W r b0 62 v) (h : DataW.Trod enc Try.prog W base spare held 62 v d p) (hd : d ∈ ds) (hk : Rows.uptoSmall H ds = true) :
    ∃ (a : Option Addr) (c : Nat) (l : List DoD), v = .slice a l.length c ∧ l.length ≤ 262144 ∧ l.length ≤ c ∧ c ≤ maxLen ∧ (∀ k (h : k < l.length), l[k].names.length ≤ 1048576) ∧ DosAt W a l := by
  obtain ⟨a0, n0, c0, rfl⟩ := okWide_slice Try.underlying62 hv
  have hshort := slice_short Try.underlying62 h hd hk
  have htot := Nat.le_trans (mem_le hd) (small_le hk)
  obtain ⟨fuel, hf⟩ := h
  rcases Deep.open_slice Try.underlying62 (by simpa [Value.cells] using hf) with ⟨he, _⟩ | ⟨a, len, cap, m, n, D, Pl, he, _, hlc, hcm, hm, hx, hel⟩
  · simp only [List.cons.injEq, Value.slice.injEq, and_true] at he
    obtain ⟨rfl, rfl, rfl⟩ := he
    exact ⟨none, 0, [], rfl, Nat.zero_le _, Nat.zero_le _, Nat.zero_le _, fun k h => by simp at h, ⟨fun k h => by simp at h⟩⟩
  · simp only [List.cons.injEq, Value.slice.injEq, and_true] at he
    obtain ⟨rfl, rfl, rfl⟩ := he
    simp only [Prod.mk.injEq] at hx
    obtain ⟨rfl, _⟩ := hx
    have hle : n0 ≤ m := by rw [hm]; split <;> omega
    have hex : ∀ i, i < n0 → ∃ z : DoD × Option Addr × Nat, z.1.names.length ≤ z.2.2 ∧ z.2.2 ≤ maxLen ∧ (z.2.1 = none → z.2.2 = 0) ∧ At W z.2.1 (strsV z.1.names) ∧ (z.1.names.length ≤ 1048576 ∧ 4 ≤ Rows.uptoBulk (D i)) ∧ ∀ j u, (doV z.1 z.2.1 z.2.2)[j]? = some u → W.cell? (a.add (i * 4 + j)) = some u := by
      intro i hi
      obtain ⟨cs, h1, h2⟩ := hel i (by omega)
      rw [do_cells] at h1
      obtain ⟨_, hlen, hcell⟩ := World.cells?_some h1
      obtain ⟨o, aa, ac, rfl, e1, e2, g1, g2, g4, g5⟩ := open_do hlen h2
      have hDm : D i ∈ (List.range n0).map D := List.mem_map_of_mem (List.mem_range.2 hi)
      have hb := mem_le hDm
      simp only [Rows.uptoBulk] at htot
      refine ⟨(o, aa, ac), e1, e2, g1, g2, ⟨by simp only at g4 ⊢; omega, g5⟩, fun j u hj => ?_⟩
      have hj6 : j < 4 := by
        have := (List.getElem?_eq_some_iff.1 hj).1
        simpa [doV] using this
      rw [← Deep.add_add, hcell j hj6]
      exact hj
    obtain ⟨Z, hZ⟩ := Deep.choose_lt hex
    have h4 := all_four (l := (List.range n0).map D) fun d hd => by
      obtain ⟨i, hi, rfl⟩ := List.mem_map.1 hd
      exact (hZ i (List.mem_range.1 hi)).2.2.2.2.1.2
    simp only [Rows.uptoBulk] at htot
    have hshort4 : n0 ≤ 262144 := by
      rw [List.length_map, List.length_range] at h4
      omega
    refine ⟨some a, c0, (List.range n0).map fun i => (Z i).1, by simp, by simpa using hshort4, by simpa using hlc, hcm, ?_, ⟨?_⟩⟩
    · intro k hk
      have hk' : k < n0 := by simpa using hk
      simp only [List.getElem_map, List.getElem_range]
      exact (hZ k hk').2.2.2.2.1.1
    · intro k hk
      have hk' : k < n0 := by simpa using hk
      simp only [List.getElem_map, List.getElem_range]
      obtain ⟨y1, y2, z1, z2, _, z5⟩ := hZ k hk'
      have hnone := addr_none (by have := (hZ 0 (by omega)).2.2.2.2.2 0 _ rfl; simpa using this)
      obtain ⟨b, o, sp⟩ := a
      simp only at hnone
      subst hnone
      refine ⟨b, o, (Z k).2.1, (Z k).2.2, rfl, y1, y2, z1, AtF.of_new z2 (fun _ _ _ _ h => h), fun f u hf => ?_⟩
      have := z5 f u hf
      rw [← this, show o + k * 4 + f = o + (k * 4 + f) from by omega]
      unfold Addr.add
      split
      · rename_i h0; rw [h0]; rfl
      · rfl
end Go.Proofs.Ytidbihdnginmcaa
