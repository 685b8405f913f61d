/-
  Contract: colanderlaw14.count: how many nodes there are in a node that is given by value.
-/
import Derived.Test.YtidbihdnginmcaaOpenZ
namespace Go.Proofs.Ytidbihdnginmcaa
open Go.RowKit Mem

theorem counts_take (l : List NT) (j : Nat) (h : j < l.length) : ntCounts (l.take (j + 1)) = ntCounts (l.take j) + ntCount l[j] := by
  have : l.take (j + 1) = l.take j ++ [l[j]] := by rw [List.take_add_one]; simp [h]
  rw [this, counts_append]
  simp [ntCounts]
theorem counts_take_le : ∀ (l : List NT) (j : Nat), ntCounts (l.take j) ≤ ntCounts l
  | [], j => by simp
  | x :: r, 0 => by simp [ntCounts]
  | x :: r, j + 1 => by
    rw [List.take_succ_cons, ntCounts, ntCounts]
    have := counts_take_le r j
    omega

/-- a kid's six cells -/
theorem kid_cells {F : Nat → Prop} {w : World} {ka : Option Addr} {css : List (List Value)} {f0 f1 : Int} {f2 : ByteArray} {f3 : Option Addr} {f4 f5 : Nat} {f6 : ByteArray} {f7 : Option Addr} {f8 f9 : Nat} (h6 : ∀ c ∈ css, c.length = 6) (h : AtF F w ka css.flatten) {j : Nat} (hj : j < css.length) (hc : css[j] = nodeV f0 f1 f2 f3 f4 f5 f6 f7 f8 f9) :
    ∃ b o, ka = some ⟨b, o, none⟩ ∧ w.cell? ⟨b, o + j * 6, none⟩ = some (.int .i64 f0) ∧ w.cell? ⟨b, o + j * 6 + 1, none⟩ = some (.int .i64 f1) ∧ w.cell? ⟨b, o + j * 6 + 2, none⟩ = some (.string f2) ∧ w.cell? ⟨b, o + j * 6 + 3, none⟩ = some (.slice f3 f4 f5) ∧ w.cell? ⟨b, o + j * 6 + 4, none⟩ = some (.string f6) ∧ w.cell? ⟨b, o + j * 6 + 5, none⟩ = some (.slice f7 f8 f9) := by
  have key : ∀ f u, f < 6 → (nodeV f0 f1 f2 f3 f4 f5 f6 f7 f8 f9)[f]? = some u → ∃ b o, ka = some ⟨b, o, none⟩ ∧ w.cell? ⟨b, o + j * 6 + f, none⟩ = some u := by
    intro f u hf hu
    obtain ⟨b, o, e, _, hcell⟩ := h (j * 6 + f) u (by rw [flat6_get css j f hj h6 hf, hc]; exact hu)
    exact ⟨b, o, e, by rw [show o + j * 6 + f = o + (j * 6 + f) from by omega]; exact hcell⟩
  obtain ⟨b, o, rfl, c0⟩ := key 0 _ (by omega) rfl
  obtain ⟨_, _, e, c1⟩ := key 1 _ (by omega) rfl
  cases e
  obtain ⟨_, _, e, c2⟩ := key 2 _ (by omega) rfl
  cases e
  obtain ⟨_, _, e, c3⟩ := key 3 _ (by omega) rfl
  cases e
  obtain ⟨_, _, e, c4⟩ := key 4 _ (by omega) rfl
  cases e
  obtain ⟨_, _, e, c5⟩ := key 5 _ (by omega) rfl
  cases e
  exact ⟨b, o, rfl, c0, c1, c2, c3, c4, c5⟩

set_option maxRecDepth 100000 in
set_option maxHeartbeats 4000000 in
theorem count_step (kind space : Int) (name : ByteArray) (a : Option Addr) (an ac : Nat) (text : ByteArray) (ka : Option Addr) (kc : Nat) (kids : List NT) (css : List (List Value)) (w : World)
    (k1 : kids.length ≤ kc) (k2 : kc ≤ maxLen) (k4 : AtF Non w ka css.flatten) (hl : css.length = kids.length) (hk : ∀ i (h : i < css.length) (h' : i < kids.length), NodeC Non w css[i] kids[i]) (hm : 1 + ntCounts kids ≤ 1000000000000)
    (ih : ∀ j (h : j < kids.length) (cs : List Value) (u : World), NodeC Non u cs kids[j] → Calls Try.prog 17 #[.agg cs.toArray] u fun e u' => e = .returned (.int .i64 (ntCount kids[j])) ∧ Below u.heap.size u u') :
    Calls Try.prog 17 #[.agg #[.int .i64 kind, .int .i64 space, .string name, .slice a an ac, .string text, .slice ka kids.length kc]] w fun e w' => e = .returned (.int .i64 ((1 + ntCounts kids : Nat) : Int)) ∧ Below w.heap.size w w' := by
  have HK4 := Lib.hid k4
  have HK := Lib.hid hk
  have HIH := Lib.hid ih
  have HL := Lib.hid hl
  have hB := heap_alloc_new w (.cells #[.int .i64 kind, .int .i64 space, .string name, .slice a an ac, .string text, .slice ka kids.length kc] 36)
  have hb := (Below.refl w.heap.size w).alloc (Nat.le_refl _) (.cells #[.int .i64 kind, .int .i64 space, .string name, .slice a an ac, .string text, .slice ka kids.length kc] 36)
  unfold maxLen at k2
  have hkc : kids.length ≤ 9223372036854775807 := by omega
  clear k4 hk ih hl
  go_enter Try.func17, Try.ntmps17
  go_wp2_with fail
  generalize w.alloc (.cells #[.int .i64 kind, .int .i64 space, .string name, .slice a an ac, .string text, .slice ka kids.length kc] 36) = w1 at *
  have HB := Lib.hid hB
  have HB1 := Lib.hid hb
  clear hB hb
  go_loopw [4, 3] (fun i s wr => ∃ j : Nat, j ≤ kids.length ∧ i = .int .i64 j ∧ (∃ acc : Nat, acc = 1 + ntCounts (kids.take j) ∧ s = .int .i64 acc) ∧ Below w1.heap.size w1 wr) (fun i _ _ => kids.length - (intOf i).toNat)
  case atStart => exact ⟨0, Nat.zero_le _, rfl, ⟨1, rfl, rfl⟩, Below.refl _ _⟩
  case round =>
    obtain ⟨j, hj, rfl, ⟨acc, hacc, rfl⟩, hbr⟩ := hrel
    have HBr := Lib.hid hbr
    have HBw := Lib.hid (HB1.out.trans (hbr.mono HB1.out.size))
    have hBr := (hbr.block w.heap.size (row_lt HB.out)).trans HB.out
    obtain ⟨⟨_, _, _, _, _, c5⟩, _⟩ := cells6 hBr
    have HACC := Lib.hid hacc
    clear hacc hbr hBr
    by_cases hlt : j < kids.length
    · have hlt' : j < css.length := by rw [HL.out]; exact hlt
      have hkw := Keeps.ofBelow (F := Non) HBw.out
      have hnode := (HK.out j hlt' hlt).kept hkw
      have h6 : ∀ c ∈ css, c.length = 6 := by
        intro c hc
        obtain ⟨i, hi, rfl⟩ := List.getElem_of_mem hc
        exact (HK.out i hi (by rw [← HL.out]; exact hi)).len
      obtain ⟨f0, f1, f2, f3, f4, f5, f6, f7, f8, f9, he⟩ := nodeC_form hnode
      obtain ⟨b, o, rfl, e0, e1, e2, e3, e4, e5⟩ := kid_cells h6 (HK4.out.kept hkw) hlt' he
      rw [he] at hnode
      have HC := Lib.hid (HIH.out j hlt _ wr hnode)
      unfold nodeV at HC
      have hc1 := counts_take kids j hlt
      have hc2 := counts_take_le kids (j + 1)
      have hw1 : IntKind.i64.wrap ((acc : Int) + (ntCount kids[j] : Int)) = (acc : Int) + (ntCount kids[j] : Int) := by
        have := HACC.out
        rw [IntKind.wrap_i64]
        omega
      have HN : Hid (acc + ntCount kids[j] = 1 + ntCounts (kids.take (j + 1))) := Lib.hid (by rw [HACC.out, hc1]; omega)
      clear hkw hnode h6 he hc1 hc2
      go_wp2_with fail
      refine HC.out.mono ?_
      rintro e w2 ⟨rfl, hb2⟩
      have HB2 := Lib.hid (belowCall HBr.out hb2)
      clear hb2
      go_wp2_with fail
      go_roundw
      case rel => exact ⟨j + 1, by omega, by go_num, ⟨acc + ntCount kids[j], HN.out, by simp⟩, HB2.out⟩
      case measure => simp [intOf]; omega
    · have he : kids.take j = kids := List.take_of_length_le (by omega)
      go_wp2_with fail
      go_ret
      refine ⟨?_, HBw.out⟩
      rw [HACC.out, he]
      rfl

theorem count_any : ∀ (m : Nat) (n : NT) (w : World) (cs : List Value), ntCount n ≤ m → m ≤ 1000000000000 → NodeC Non w cs n → Calls Try.prog 17 #[.agg cs.toArray] w fun e w' => e = .returned (.int .i64 (ntCount n)) ∧ Below w.heap.size w w'
  | 0, .mk _ _ _ _ _ _, _, _, h, _, _ => by
    rw [ntCount] at h
    omega
  | m + 1, n, w, cs, h, hm, hn => by
    cases hn with
    | @mk kind space name a c attrs text ka kc kids css h1 h2 h3 h4 k1 k2 k3 k4 hl hk =>
      rw [ntCount] at h ⊢
      refine count_step kind space name a attrs.length c text ka kc kids css w k1 k2 k4 hl hk (by omega) ?_
      intro j hj cs u hc
      have := counts_mem kids kids[j] (List.getElem_mem hj)
      exact count_any m kids[j] u cs (by omega) (by omega) hc
end Go.Proofs.Ytidbihdnginmcaa
