/-
  Contracts: the document's list: Place. No conditions beyond those that each lemma types.
-/
import Derived.Test.YtclflmjpdglgiaaGreatDlAD
namespace Go.Proofs.YtclflmjpdglgiaaGreat
open Go.RowKit Mem

/-- the lowest table among the open elements ahead of k, and where things go then -/
def tabP (T : TreeD) (first : Int) (l : List Int) (k : Nat) (t : Int) : Prop :=
  (t = -1 ∧ fostR T first (l.take k).reverse = (first, 0)) ∨ ∃ (j : Nat) (_ : j < l.length), t = j ∧ namedF T l[j] tableN = true ∧ fostR T first (l.take k).reverse = if 0 ≤ parentQ T l[j] then (parentQ T l[j], l[j]) else if j = 0 then (0, 0) else (l.getD (j - 1) 0, 0)
theorem tabP_zero (T : TreeD) (first : Int) (l : List Int) : tabP T first l 0 (-1) := .inl ⟨rfl, rfl⟩
theorem tabP_yes {T : TreeD} {first : Int} {l : List Int} {k : Nat} (hk : k < l.length) (h : namedF T l[k] tableN = true) : tabP T first l (k + 1) k :=
  .inr ⟨k, hk, rfl, h, by rw [fostR_step T first l k hk, h, if_pos rfl]⟩
theorem tabP_no {T : TreeD} {first : Int} {l : List Int} {k : Nat} {t : Int} (hk : k < l.length) (h : namedF T l[k] tableN = false) (ht : tabP T first l k t) : tabP T first l (k + 1) t := by
  have e : fostR T first (l.take (k + 1)).reverse = fostR T first (l.take k).reverse := by rw [fostR_step T first l k hk, h]; rfl
  rcases ht with ⟨h1, h2⟩ | ⟨j, hj, h1, h2, h3⟩
  · exact .inl ⟨h1, e.trans h2⟩
  · exact .inr ⟨j, hj, h1, h2, e.trans h3⟩

section
variable {w0 w w' : World} {B B' rb sb lb : Nat} {ex : Nat → Prop} {T T' : TreeD} {l l' ent ent' : List Int} {on on' : Bool}
theorem RSI.cells2 (h : RSI w0 B rb sb ex T l w) : ∃ a c, w.cell? ⟨sb, 0, none⟩ = some (.pointer (some ⟨rb, 0, none⟩)) ∧ w.cell? ⟨sb, 1, none⟩ = some (.slice a l.length c) ∧ At w a (intsV l) ∧ (a = none → c = 0) ∧ w.frozen? ⟨sb, 1, none⟩ = false ∧ sb < w.heap.size ∧ l.length ≤ c ∧ c ≤ maxLen := by
  obtain ⟨_, _, _, _, _, h, _⟩ := h
  have hlt := h.lt sb (.inl rfl)
  obtain ⟨a, c, h1, h2, h3, h4, h5, h6, h7, _⟩ := h.cells
  obtain ⟨_, _, he, k1, k2, _⟩ := own_at h4.1
  injection he with _ _ e3
  subst e3
  exact ⟨a, c, h1, h2, h3, h7, h5, hlt, k1, k2⟩
theorem LD.stk (h : LD w0 B rb sb lb ex T l ent on w) : ∃ a c, w.cell? ⟨sb, 0, none⟩ = some (.pointer (some ⟨rb, 0, none⟩)) ∧ w.cell? ⟨sb, 1, none⟩ = some (.slice a l.length c) ∧ At w a (intsV l) ∧ (a = none → c = 0) ∧ w.frozen? ⟨sb, 1, none⟩ = false ∧ sb < w.heap.size ∧ l.length ≤ c ∧ c ≤ maxLen := by
  obtain ⟨_, h⟩ := h.rsi
  exact h.cells2
theorem dnamedT_ld (h : LD w0 B rb sb lb ex T l ent on w) (n : Int) :
    Calls Tryz.prog 61 #[.pointer (some ⟨sb, 0, none⟩), .int .i64 n, .slice (some ⟨w.heap.size, 0, none⟩) 1 1] (w.alloc (.cells #[.string (⟨#[116, 97, 98, 108, 101]⟩ : ByteArray)] 9)) fun e w' => e = .returned (.bool (namedF T n tableN)) ∧ Below w.heap.size w w' := dnamed1_ld h n _
theorem dnamed5_ld (h : LD w0 B rb sb lb ex T l ent on w) (n : Int) :
    Calls Tryz.prog 61 #[.pointer (some ⟨sb, 0, none⟩), .int .i64 n, .slice (some ⟨w.heap.size, 0, none⟩) 5 5] (w.alloc (.cells #[.string (⟨#[116, 97, 98, 108, 101]⟩ : ByteArray), .string (⟨#[116, 98, 111, 100, 121]⟩ : ByteArray), .string (⟨#[116, 102, 111, 111, 116]⟩ : ByteArray), .string (⟨#[116, 104, 101, 97, 100]⟩ : ByteArray), .string (⟨#[116, 114]⟩ : ByteArray)] 9)) fun e w' => e = .returned (.bool (namedF T n rowN)) ∧ Below w.heap.size w w' := by
  have hb := (Below.refl w.heap.size w).alloc (Nat.le_refl _) (.cells #[.string (⟨#[116, 97, 98, 108, 101]⟩ : ByteArray), .string (⟨#[116, 98, 111, 100, 121]⟩ : ByteArray), .string (⟨#[116, 102, 111, 111, 116]⟩ : ByteArray), .string (⟨#[116, 104, 101, 97, 100]⟩ : ByteArray), .string (⟨#[116, 114]⟩ : ByteArray)] 9)
  exact (dnamed_ld (h.world hb) n rowN (some ⟨w.heap.size, 0, none⟩) 5 (at_alloc rfl rfl) (by simp [rowN])).mono fun e w' ⟨he, hb'⟩ => ⟨he, belowCall hb hb'⟩
theorem keepL1 {u u' : World} {lb sb : Nat} (hb : Below u.heap.size u u') (h : u.cell? ⟨lb, 1, none⟩ = some (.pointer (some ⟨sb, 0, none⟩))) : u'.cell? ⟨lb, 1, none⟩ = some (.pointer (some ⟨sb, 0, none⟩)) := cell_later hb h
theorem keepL2 {u u' : World} {lb sb b o : Nat} {x : Value} (hb : Below u.heap.size u u') (h : u.cell? ⟨lb, 1, none⟩ = some (.pointer (some ⟨sb, 0, none⟩)) ∧ u.cell? ⟨b, o, none⟩ = some x) :
    u'.cell? ⟨lb, 1, none⟩ = some (.pointer (some ⟨sb, 0, none⟩)) ∧ u'.cell? ⟨b, o, none⟩ = some x :=
  ⟨cell_later hb h.1, cell_later hb h.2⟩

set_option maxRecDepth 100000 in
set_option maxHeartbeats 8000000 in
theorem dPlace_ld (h : LD w0 B rb sb lb ex T l ent on w) (target : Int) :
    Calls Tryz.prog 58 #[.pointer (some ⟨lb, 0, none⟩), .int .i64 target] w fun e w' => e = .returned (.tuple #[.int .i64 (placeQ T l on target).1, .int .i64 (placeQ T l on target).2]) ∧ Below w.heap.size w w' := by
  obtain ⟨_, _, c0, c1, _, c3, _⟩ := h.cells
  obtain ⟨va, vc, s0, s1, hat, hnil0, _, _, hvc, hvm⟩ := h.stk
  have hsh := h.short.1
  have HL := Lib.hid h
  by_cases hnil : l = []
  · have HP : Hid (placeQ T l on target = (0, 0)) := Lib.hid (by rw [placeQ, if_pos hnil])
    clear h hat
    subst hnil
    go_enter Tryz.func58, Tryz.ntmps58
    go_wp2_with fail
    go_ret2
    exact ⟨by rw [HP.out]; rfl, Below.refl _ _⟩
  · have hpos : 0 < l.length := List.length_pos_iff.2 hnil
    have q0 : ((l.length : Int) == 0) = false := by rw [beq_eq_false_iff_ne]; omega
    obtain ⟨t, ht⟩ : ∃ t, t = (if target = 0 then l.getLast?.getD 0 else target) := ⟨_, rfl⟩
    have HP : Hid (placeQ T l on target = if on && namedF T t rowN then fostR T (l.head?.getD 0) l.reverse else (t, 0)) := Lib.hid (by rw [placeQ, if_neg hnil, ht])
    have HA := Lib.hid hat
    clear h hnil hnil0 hat
    unfold maxLen at hvm
    go_enter Tryz.func58, Tryz.ntmps58
    go_upto_if 22 with fail
    go_cut [1] from 21 to 27 (fun s1 wx => s1 = .int .i64 t ∧ ∃ q, wx = w.drewN q)
    case first =>
      by_cases h0 : target = 0
      · have HTop := Lib.hid (dTop_ld HL.out)
        rw [if_pos h0] at ht
        subst h0
        rw [← ht] at HTop
        go_wp2_with (go_at_call 60; go_must (refine HTop.out.mono ?_; rintro e w2 ⟨rfl, hq⟩; have HQ := Lib.hid hq; clear hq))
        go_meet
        exact ⟨congrArg _ ht.symm, HQ.out⟩
      · have q1 : (target == 0) = false := by simpa using h0
        rw [if_neg h0] at ht
        go_wp2_with fail
        go_meet
        exact ⟨by rw [ht], 0, rfl⟩
    case rest =>
    obtain ⟨rfl, q, rfl⟩ := hcut
    clear ht
    have H2 := Lib.hid (HL.out.world (stk_drewN w q))
    have HB2 := Lib.hid (stk_drewN w q)
    have HA2 := Lib.hid (HA.out.below (stk_drewN w q))
    have d0' : (w.drewN q).cell? ⟨lb, 0, none⟩ = some (.pointer (some ⟨rb, 0, none⟩)) := c0
    have d1' : (w.drewN q).cell? ⟨lb, 1, none⟩ = some (.pointer (some ⟨sb, 0, none⟩)) := c1
    have d3' : (w.drewN q).cell? ⟨lb, 3, none⟩ = some (.bool on) := c3
    clear HL HA c0 c1 c3 s0 s1
    generalize w.drewN q = w2 at *
    have HN5 := Lib.hid (dnamed5_ld H2.out t)
    obtain ⟨bb, o, hva⟩ := HA2.out.some_of (by intro h; have := congrArg List.length h; rw [intsV_length, List.length_nil] at this; omega)
    subst hva
    obtain ⟨fst, hfst⟩ : ∃ fst, fst = l.head?.getD 0 := ⟨_, rfl⟩
    rw [← hfst] at HP
    have hx0 := HA2.out.get (intsV_get l 0 hpos)
    have hf0 : l[0] = fst := by rw [hfst, List.head?_eq_getElem?, List.getElem?_eq_getElem hpos]; rfl
    rw [hf0] at hx0
    clear hfst hf0
    obtain ⟨n5, hn5⟩ : ∃ n5, n5 = namedF T t rowN := ⟨_, rfl⟩
    rw [← hn5] at HP HN5
    clear hn5
    cases hcase : (on && n5)
    · have HP2 : Hid (placeQ T l on target = (t, 0)) := Lib.hid (by rw [HP.out, hcase]; rfl)
      cases on <;> cases n5
      case true.true => simp at hcase
      all_goals
        go_wp2_with (go_at_call 61; go_must (refine HN5.out.mono ?_; rintro e w3 ⟨rfl, hb⟩; have e3' := cell_later hb d3'; have HB3 := Lib.hid hb; clear hb))
        go_ret2
        exact ⟨by rw [HP2.out]; rfl, belowCall HB2.out HB3.out⟩
    · obtain ⟨rfl, rfl⟩ : on = true ∧ n5 = true := by simpa using hcase
      have HP2 : Hid (placeQ T l true target = fostR T fst l.reverse) := Lib.hid (by rw [HP.out]; rfl)
      clear hcase HP
      go_wp2_with (go_at_call 61; go_must (refine HN5.out.mono ?_; rintro e w3 ⟨rfl, hb⟩; have e3' := cell_later hb d3'; have HB3 := Lib.hid hb; clear hb))
      have H3 := Lib.hid (H2.out.world HB3.out)
      have HBT := Lib.hid (belowCall HB2.out HB3.out)
      have e0' := cell_later HB3.out d0'
      have e1' := cell_later HB3.out d1'
      have ex0 := cell_later HB3.out hx0
      have HA3 := Lib.hid (HA2.out.below HB3.out)
      have HTZ := Lib.hid (tabP_zero T fst l)
      clear d0' d1' d3' e3' hx0 HN5 HA2 H2 HB2 HB3
      go_loopw [8, 9] (fun s8 i wr => ∃ (k : Nat) (t : Int), k ≤ l.length ∧ i = .int .i64 k ∧ s8 = .int .i64 t ∧ Below w3.heap.size w3 wr ∧ Hid (tabP T fst l k t)) (fun _ i _ => l.length - (intOf i).toNat)
      case atStart => exact ⟨0, -1, Nat.zero_le _, rfl, rfl, Below.refl _ _, HTZ⟩
      case round =>
        obtain ⟨k, t', hk, rfl, rfl, hb, HT⟩ := hrel
        have HBr := Lib.hid hb
        by_cases hlt : k < l.length
        · have hx := cell_later hb (HA3.out.get (intsV_get l k hlt))
          have f1 := cell_later hb e1'
          have HN := Lib.hid (dnamedT_ld (H3.out.world hb.drew) l[k])
          have HY := Lib.hid (fun h => tabP_yes (T := T) (first := fst) hlt h)
          have HNo := Lib.hid (fun h => tabP_no (T := T) (first := fst) hlt h HT.out)
          obtain ⟨x, hxx⟩ : ∃ x, x = l[k] := ⟨_, rfl⟩
          rw [← hxx] at hx HN HY HNo
          have q1 : wr.drew.cell? ⟨lb, 1, none⟩ = some (.pointer (some ⟨sb, 0, none⟩)) := f1
          have qx : wr.drew.cell? ⟨bb, o + k, none⟩ = some (.int .i64 x) := hx
          have HBA := Lib.hid ((Below.refl wr.drew.heap.size wr.drew).alloc (Nat.le_refl _) (.cells #[.string (⟨#[116, 97, 98, 108, 101]⟩ : ByteArray)] 9))
          have HBD := Lib.hid hb.drew
          clear hb hxx HT
          cases hnm : namedF T x tableN
          all_goals
            rw [hnm] at HN
            go_wp2_with fail
            go_region_held3 (fun u => u.cell? ⟨lb, 1, none⟩ = some (.pointer (some ⟨sb, 0, none⟩)) ∧ u.cell? ⟨bb, o + k, none⟩ = some (.int .i64 x))
              (first | exact ⟨q1, qx⟩ | with_reducible exact keepL2 HB4.out ⟨q1, qx⟩ | with_reducible exact keepL2 HBA.out ⟨q1, qx⟩)
              (first | (go_at_call 61; go_must (refine HN.out.mono ?_; rintro e w4 ⟨rfl, hb4⟩; have HB4 := Lib.hid hb4; clear hb4)))
            have HB5 := Lib.hid (belowCall HBD.out HB4.out)
            go_wp2_with fail
            go_roundw
            case rel => exact ⟨k + 1, _, by omega, by go_num, rfl, HB5.out, Lib.hid (by first | exact HY.out hnm | exact HNo.out hnm)⟩
            case measure => simp [intOf]; omega
        · obtain rfl : k = l.length := by omega
          have HBx := Lib.hid (belowCall HBT.out hb)
          have y0 := cell_later hb ex0
          rw [Nat.add_zero] at y0
          have f0 := cell_later hb e0'
          rcases HT.out with ⟨rfl, hv⟩ | ⟨j, hj, rfl, hnm, hv⟩
          · have HV := Lib.hid hv
            rw [List.take_of_length_le (Nat.le_refl _)] at HV
            clear hv hb
            go_wp2_with fail
            go_ret2
            exact ⟨by rw [HP2.out, HV.out]; rfl, HBx.out⟩
          · have HV := Lib.hid hv
            rw [List.take_of_length_le (Nat.le_refl _)] at HV
            have hel : elemF T l[j] = true := by
              cases h : elemF T l[j]
              · rw [namedF, h] at hnm; cases hnm
              · rfl
            obtain ⟨i, hi, hx, h1i, _⟩ := elemF_nat hel
            obtain ⟨gn, gk, far, hR⟩ := (H3.out.world hb).ref
            obtain ⟨capn, capk, p1, p2, p3, p4, r0, r1, _, _, _, _⟩ := hR.head
            obtain ⟨aa, ac, _, _, _, _, _, _, _, _, n5⟩ := hR.node6 (T := farW far T) (i := i) hi
            have hpq : parentQ T l[j] = T.nodes[i].parent := by
              rw [hx, parentQ, show isF T i = true by simp [isF]; omega, if_pos rfl]
              simp [parentF, hi]
            have hx' := cell_later hb (HA3.out.get (intsV_get l j hj))
            rw [hpq, hx] at HV
            rw [hx] at hx'
            have hlen : ((farW far T).nodes.length) = T.nodes.length := rfl
            have hp5 : wr.cell? ⟨gn, i * 6 + 5, none⟩ = some (.int .i64 T.nodes[i].parent) := n5
            rw [hlen] at r0 p1
            unfold maxLen at p2
            generalize T.nodes[i].parent = pr at *
            have ht0 : ¬ ((j : Int) < 0) := by omega
            clear hv n5 r1 hR hlen hpq hx hel hnm HT
            by_cases hp : 0 ≤ pr
            · rw [if_pos hp] at HV
              clear hb
              go_wp2_with fail
              go_quiet (fail)
              go_wp2_with fail
              go_quiet (fail)
              go_wp2_with fail
              go_ret2
              exact ⟨by rw [HP2.out, HV.out]; rfl, belowCall (belowCall HBx.out (stk_drewN _ _)) (stk_drewN _ _)⟩
            · rw [if_neg hp] at HV
              by_cases hj0 : j = 0
              · rw [if_pos hj0] at HV
                have hj1 : ((j : Int) == 0) = true := by rw [hj0]; rfl
                clear hb hj0
                go_wp2_with fail
                go_quiet (fail)
                go_wp2_with fail
                go_ret2
                exact ⟨by rw [HP2.out, HV.out]; rfl, belowCall HBx.out (stk_drewN _ _)⟩
              · obtain ⟨m, rfl⟩ : ∃ m, j = m + 1 := ⟨j - 1, by omega⟩
                rw [if_neg hj0] at HV
                have hml : m < l.length := by omega
                have hy := cell_later hb (HA3.out.get (intsV_get l m hml))
                have ej : l.getD (m + 1 - 1) 0 = l[m] := by simp [List.getD, List.getElem?_eq_getElem hml]
                rw [ej] at HV
                generalize l[m] = y at *
                have hj1 : (((m + 1 : Nat) : Int) == 0) = false := by rw [beq_eq_false_iff_ne]; omega
                clear hj0 ej hb
                go_wp2_with fail
                go_quiet (fail)
                go_wp2_with fail
                go_ret2
                exact ⟨by rw [HP2.out, HV.out]; rfl, belowCall HBx.out (stk_drewN _ _)⟩
end
end Go.Proofs.YtclflmjpdglgiaaGreat
