import Derived.Test.YtclflmjpdglgiaaGreatDmH
import Derived.Test.YtclflmjpdglgiaaGreatOpenArgs
import Derived.Test.YtclflmjpdglgiaaGreatBulk
import Derived.Test.YtclflmjpdglgiaaGreatLawB
/-
  What a list of the law FormatRestores' steps that came in holds, and how long its parts are. Conditions: the statement's own (bulk at most 1048576).
-/
namespace Go.Proofs.YtclflmjpdglgiaaGreat
open Go.ChangeShapes Go.WideShapes Go.ChangeAt Go.RowKit
open Mem Law Bulk

theorem attr_cells : Tryz.prog.cellsOf 98 = 2 := by kernel_rfl
theorem attr_fields : (Tryz.prog.fieldsOf 98).toList.map (fun f => (f.type, f.offset, Tryz.prog.cellsOf f.type)) = [(9, 0, 1), (9, 1, 1)] := by kernel_rfl
theorem op_under : Tryz.prog.underlying 29 = some (.struct (Tryz.prog.fieldsOf 29)) := by kernel_rfl
theorem op_fields : (Tryz.prog.fieldsOf 29).toList.map (fun f => (f.type, f.offset, Tryz.prog.cellsOf f.type)) = [(3, 0, 1), (3, 1, 1), (9, 2, 1), (4, 3, 1), (27, 4, 1)] := by kernel_rfl
theorem op_cells : Tryz.prog.cellsOf 29 = 5 := by kernel_rfl

section
variable {H : Type} {enc : TypeId × Value → H} {P : Program} {w : World} {base : Nat} {spare : Nat → Bool} {held : Bool}
/-- a struct of one-cell fields: its cells, each with its own reading, a part of the whole's -/
theorem struct_parts {t : TypeId} {fs : Array Field} {Ts : List TypeId} {fuel : Nat} {cs : List Value} {x : DataW H × List MemPlace} (ht : P.underlying t = some (.struct fs))
    (hf : fs.toList.map (fun f => (f.type, f.offset, P.cellsOf f.type)) = Ts.zipIdx.map fun p => (p.1, p.2, 1)) (h : DataW.trod enc P w base spare held fuel t cs = some x) :
    ∀ (i : Nat) (T : TypeId), Ts[i]? = some T → i < cs.length → ∃ n v y, cs[i]? = some v ∧ DataW.trod enc P w base spare held n T [v] = some y ∧ Rows.uptoBulk y.1 ≤ Rows.uptoBulk x.1 := by
  obtain ⟨xs, n, _, hx1, _, hlen, hx⟩ := DataW.trod_struct ht h
  intro i T hT hi
  have hfi : (fs.toList.map (fun f => (f.type, f.offset, P.cellsOf f.type)))[i]? = some (T, i, 1) := by
    rw [hf]; simp [List.getElem?_zipIdx, hT]
  rw [List.getElem?_map] at hfi
  cases hg : fs.toList[i]? with
  | none => rw [hg] at hfi; simp at hfi
  | some f =>
    rw [hg] at hfi
    simp only [Option.map_some, Option.some.injEq, Prod.mk.injEq] at hfi
    obtain ⟨h1, h2, h3⟩ := hfi
    have hlt : i < fs.size := by
      have := (List.getElem?_eq_some_iff.1 hg).1
      simpa using this
    have hy := hx i f (by simpa using hg)
    rw [h1] at h3
    rw [h1, h2, h3, List.drop_eq_getElem_cons hi] at hy
    rw [List.getElem?_eq_getElem (by omega)] at hy
    refine ⟨n, cs[i], _, List.getElem?_eq_getElem hi, hy, ?_⟩
    rw [hx1]
    have hm : (xs[i]'(by omega)).1 ∈ xs.map (·.1) := List.mem_map_of_mem (List.getElem_mem _)
    have := mem_le hm
    simp only [Rows.uptoBulk]
    omega
end

theorem int_wf {n : Int} (h : (Lit.int .i64 n).wf = true) : -9223372036854775808 ≤ n ∧ n ≤ 9223372036854775807 := by
  simp only [Lit.wf, Bool.and_eq_true, decide_eq_true_eq] at h
  exact h
set_option maxRecDepth 100000 in
theorem open_op {H : Type} {enc : TypeId × Value → H} {w : World} {base : Nat} {spare : Nat → Bool} {held : Bool} {cs : List Value} {n : Nat} {x : DataW H × List MemPlace} (hlen : cs.length = 5) (h : DataW.trod enc Tryz.prog w base spare held n 29 cs = some x) :
    ∃ (o : OpF) (aa : Option Addr) (ac : Nat), cs = opfV o aa ac ∧ (aa = none → ac = 0) ∧ At w aa (pairsV o.attrs) ∧ o.s.size ≤ Rows.uptoBulk x.1 ∧ o.attrs.length ≤ Rows.uptoBulk x.1 ∧ -9223372036854775808 ≤ o.n ∧ o.n ≤ 9223372036854775807 := by
  have hc := struct_parts (P := Tryz.prog) (Ts := [3, 3, 9, 4, 27]) op_under (op_fields.trans (by rfl)) h
  match cs, hlen with
  | [v0, v1, v2, v3, v4], _ =>
    obtain ⟨n0, u0, y0, e0, h0, _⟩ := hc 0 _ rfl (by simp)
    obtain ⟨n1, u1, y1, e1, h1, _⟩ := hc 1 _ rfl (by simp)
    obtain ⟨n4, u4, y4, e4, h4, b4⟩ := hc 2 _ rfl (by simp)
    obtain ⟨n3, u3, y3, e3, h3, _⟩ := hc 3 _ rfl (by simp)
    obtain ⟨n5, u5, y5, e5, h5, b5⟩ := hc 4 _ rfl (by simp)
    simp only [List.getElem?_cons_zero, List.getElem?_cons_succ, Option.some.injEq] at e0 e1 e3 e4 e5
    subst e0 e1 e3 e4 e5
    obtain ⟨k, rfl, _⟩ := open_int1 Tryz.underlying3 h0
    obtain ⟨a, rfl, hwf⟩ := open_int1 Tryz.underlying3 h1
    obtain ⟨c, rfl⟩ := open_bool1 Tryz.underlying4 h3
    obtain ⟨s, e4, rfl, _⟩ := DataW.trod_string Tryz.underlying9 h4
    simp only [List.cons.injEq, and_true] at e4
    subst e4
    obtain ⟨aa, ac, l, rfl, g1, g2, g3, g4, g5⟩ := open_pairs Tryz.underlying27 Tryz.underlying9 attr_under attr_cells attr_fields h5
    refine ⟨⟨k, a, s, c, l⟩, aa, ac, rfl, g3, g4, ?_, ?_, int_wf hwf⟩
    · simp only [Rows.uptoBulk] at b4
      have : s.data.toList.length = s.size := Array.length_toList
      show s.size ≤ _
      omega
    · show l.length ≤ _
      rcases slice_len Tryz.underlying27 h5 with ⟨_, e⟩ | ⟨el, sp, e, hl⟩
      · omega
      · rw [e] at b5
        simp only [Rows.uptoBulk] at b5
        have := all_len el
        omega

instance : Inhabited OpF := ⟨⟨0, 0, ⟨#[]⟩, false, []⟩⟩
theorem addr_none {w : World} {a : Addr} {u : Value} (h : w.cell? (a.add 0) = some u) : a.spot = none := by
  obtain ⟨b, o, sp⟩ := a
  simp only [Addr.add, if_true] at h
  cases sp with
  | none => rfl
  | some q =>
    simp only [World.cell?] at h
    split at h <;> simp at h

set_option maxRecDepth 100000 in
theorem open_ops {H : Type} {enc : TypeId × Value → H} {W : World} {base : Nat} {spare : Nat → Bool} {held : Bool} {r : _root_.Go.Reach} {b0 : Nat} {v : Value} {d : DataW H} {p : List MemPlace} {ds : List (DataW H)}
    (hv : Value.okWide Tryz.prog W r b0 22 v) (h : DataW.Trod enc Tryz.prog W base spare held 22 v d p) (hd : d ∈ ds) (hk : Rows.uptoSmall H ds = true) :
    ∃ (a : Option Addr) (c : Nat) (l : List OpF), v = .slice a l.length c ∧ l.length ≤ 1048576 ∧ (∀ k (h : k < l.length), l[k].s.size ≤ 1048576 ∧ l[k].attrs.length ≤ 1048576 ∧ -9223372036854775808 ≤ l[k].n ∧ l[k].n ≤ 9223372036854775807) ∧ OpsF W a l := by
  obtain ⟨a0, n0, c0, rfl⟩ := okWide_slice Tryz.underlying22 hv
  have hshort := slice_short Tryz.underlying22 h hd hk
  have htot := Nat.le_trans (mem_le hd) (small_le hk)
  obtain ⟨fuel, hf⟩ := h
  rcases Deep.open_slice Tryz.underlying22 (by simpa [Value.cells] using hf) with ⟨he, _⟩ | ⟨a, len, cap, m, n, D, Pl, he, _, hlc, hcm, hm, hx, hel⟩
  · simp only [List.cons.injEq, Value.slice.injEq, and_true] at he
    obtain ⟨rfl, rfl, rfl⟩ := he
    exact ⟨none, 0, [], rfl, Nat.zero_le _, fun k h => by simp at h, ⟨fun k h => by simp at h⟩⟩
  · simp only [List.cons.injEq, Value.slice.injEq, and_true] at he
    obtain ⟨rfl, rfl, rfl⟩ := he
    simp only [Prod.mk.injEq] at hx
    obtain ⟨rfl, _⟩ := hx
    have hle : n0 ≤ m := by rw [hm]; split <;> omega
    have hex : ∀ i, i < n0 → ∃ z : OpF × Option Addr × Nat, (z.2.1 = none → z.2.2 = 0) ∧ At W z.2.1 (pairsV z.1.attrs) ∧ z.1.s.size ≤ 1048576 ∧ z.1.attrs.length ≤ 1048576 ∧ (-9223372036854775808 ≤ z.1.n ∧ z.1.n ≤ 9223372036854775807) ∧ ∀ j u, (opfV z.1 z.2.1 z.2.2)[j]? = some u → W.cell? (a.add (i * 5 + j)) = some u := by
      intro i hi
      obtain ⟨cs, h1, h2⟩ := hel i (by omega)
      rw [op_cells] at h1
      obtain ⟨_, hlen, hcell⟩ := World.cells?_some h1
      obtain ⟨o, aa, ac, rfl, g1, g2, g3, g4, g5, g6⟩ := open_op hlen h2
      have hDm : D i ∈ (List.range n0).map D := List.mem_map_of_mem (List.mem_range.2 hi)
      have hb := mem_le hDm
      simp only [Rows.uptoBulk] at htot
      refine ⟨(o, aa, ac), g1, g2, by simp only at g3 ⊢; omega, by simp only at g4 ⊢; omega, ⟨g5, g6⟩, fun j u hj => ?_⟩
      have hj6 : j < 5 := by
        have := (List.getElem?_eq_some_iff.1 hj).1
        simpa [opfV] using this
      rw [← Deep.add_add, hcell j hj6]
      exact hj
    obtain ⟨Z, hZ⟩ := Deep.choose_lt hex
    refine ⟨some a, c0, (List.range n0).map fun i => (Z i).1, by simp, by simpa using hshort, ?_, ⟨?_⟩⟩
    · intro k hk
      have hk' : k < n0 := by simpa using hk
      simp only [List.getElem_map, List.getElem_range]
      exact ⟨(hZ k hk').2.2.1, (hZ k hk').2.2.2.1, (hZ k hk').2.2.2.2.1⟩
    · intro k hk
      have hk' : k < n0 := by simpa using hk
      simp only [List.getElem_map, List.getElem_range]
      obtain ⟨z1, z2, _, _, _, z5⟩ := hZ k hk'
      have hnone := addr_none (by have := (hZ 0 (by omega)).2.2.2.2.2 0 _ rfl; simpa using this)
      obtain ⟨b, o, sp⟩ := a
      simp only at hnone
      subst hnone
      refine ⟨b, o, (Z k).2.1, (Z k).2.2, rfl, z1, z2, fun f u hf => ?_⟩
      have := z5 f u hf
      rw [← this, show o + k * 5 + f = o + (k * 5 + f) from by omega]
      unfold Addr.add
      split
      · rename_i h0; rw [h0]; rfl
      · rfl
end Go.Proofs.YtclflmjpdglgiaaGreat

/-
  The law FormatRestores returns true for every input within the bound. Conditions: none beyond the statement's own.
-/
namespace Go.Proofs.YtclflmjpdglgiaaGreat
open Go.ChangeShapes Go.WideShapes Go.ChangeAt Go.RowKit
open Go.ChangeMaps (open_string)
open Mem Law

theorem formatRestores_own : ownKnob Tryz.prog.godebug = none := by kernel_rfl
theorem formatRestores_types : ∀ t ∈ Tryz.f3.params.toList, Tryz.prog.readableRec t = true ∧ t < Tryz.prog.types.size := by
  have h : (Tryz.f3.params.toList.all fun t => Tryz.prog.readableRec t && decide (t < Tryz.prog.types.size)) = true := by kernel_rfl
  intro t ht
  have := List.all_eq_true.1 h t ht
  simpa using this

set_option maxRecDepth 100000 in
theorem formatRestores_contract (H : Type) (enc : TypeId × Value → H) (W : World) (base : Nat) (args : Array Value) (ds gs : List (DataW H)) (before : List MemPlace)
    (hval0 : ∀ (j : Nat) t v, Tryz.f3.params[j]? = some t → args[j]? = some v → Value.okWide Tryz.prog W .any base t v)
    (hW : DataW.Whole enc Tryz.prog Tryz.f3.params.toList Rows.formatRestoresSpec.vars false W args.toList ds gs before) (hk : Rows.uptoSmall H (ds ++ gs) = true) :
    Calls Tryz.prog 3 args W fun e W' => ∃ v, e = .returned v ∧ Rows.formatRestoresSpec.post enc Tryz.prog Tryz.f3 false true false false W args v W' := by
  have hval : ∀ (j : Nat) t v, Tryz.f3.params[j]? = some t → args[j]? = some v → Value.okWide Tryz.prog W .any base t v := hval0
  have hW' := hW
  obtain ⟨p, q, hA0, hV, rfl, _, _⟩ := hW
  have hA : DataW.TrodAll enc Tryz.prog W 0 (fun _ => true) true Tryz.f3.params.toList args.toList ds p := hA0
  rw [Tryz.params3] at hA hval
  obtain ⟨v0, vs0, d0, ds0, p0, q0, hargs, rfl, rfl, h0, r0⟩ := trodAll_cons hA
  obtain ⟨rfl, rfl, rfl⟩ := trodAll_nil r0
  obtain rfl : args = #[v0] := by cases args; simp_all
  obtain ⟨a0, c0, l0, hv0, hl0, hs0, ha0⟩ := open_ops (hval 0 22 v0 rfl rfl) h0 (by simp) hk
  subst hv0
  clear hA0 hval0
  refine (law_FormatRestores l0 a0 c0 hl0 hs0 ha0).mono fun e W' ⟨he, hb⟩ => ?_
  subst he
  exact ⟨_, rfl, law_post hW' rfl (by kernel_rfl) Tryz.underlying4 rfl laid_out formatRestores_types hb⟩

set_option maxRecDepth 100000 in
theorem formatRestores_lifted (os : Os) (started : os.Started) (H : Type) (enc : TypeId × Value → H) (F : Stop.Interp) :
    ReturnsInHanded {} Tryz.checked os 3 .any ((Rows.OpenSpec.upto Rows.formatRestoresSpec).pre6 enc Tryz.prog Tryz.f3 Rows.formatRestoresUptoRow.domain false) (((Rows.OpenSpec.upto Rows.formatRestoresSpec).at F).post enc Tryz.prog Tryz.f3 false true false false) := by
  refine returnsInHanded_of_cond (C := Tryz.checked) (s := Rows.OpenSpec.upto Rows.formatRestoresSpec) (k := Rows.uptoSmall) rfl formatRestores_own started (by kernel_rfl) Tryz.func3
    (OpenSpec.witness (enc := enc) (C := Tryz.checked) (s := Rows.OpenSpec.upto Rows.formatRestoresSpec) (k := Rows.uptoSmall) rfl false ⟨#[], #[.slice none 0 0], []⟩ 8 (by kernel_rfl) (by kernel_rfl) (by kernel_rfl)
      (x := ([.nil], [], [])) (by kernel_rfl) rfl (by kernel_rfl)) ?_
  intro W base args ds gs before hval hW _ hk _
  exact formatRestores_contract H enc W base args ds gs before hval hW hk

/-- THE STATEMENT -/
theorem formatRestores_holds : Rows.FormatRestoresUptoSaid :=
  OpenClaim.holds_of_cond 3 Tryz.f3 rfl rfl rfl rfl rfl rfl rfl ⟨rfl, rfl, rfl, rfl, rfl⟩ rfl rfl rfl rfl rfl (by kernel_rfl) Tryz.func3 (by kernel_rfl)
    (of_decide_eq_true (by kernel_rfl)) (by unfold Func.isWrapper; first | (rw [if_pos (by decide +kernel)]; kernel_rfl) | (rw [if_neg (by decide +kernel)]; exact ⟨rfl, rfl⟩))
    (fun os started H enc _ F => formatRestores_lifted os started H enc F)
#print axioms formatRestores_holds
end Go.Proofs.YtclflmjpdglgiaaGreat
