/-
  The walk of ForeignAdjusts, two more cases and the whole: it returns true; the world behind has new blocks alone. The list has at most 1048576 elements.
-/
import Derived.Test.YtflphgmblipglaaForP
namespace Go.Proofs.Ytflphgmblipglaa
open Go.RowKit Mem

set_option maxRecDepth 100000 in
set_option maxHeartbeats 16000000 in
theorem lawAdjusts_other (space : Int) (h1 : (space != 1) = true) (h0 : (space == 0) = false) (name : ByteArray) (l : List Pair) (a : Option Addr) (c : Nat) (w : World) (hl : l.length ≤ 1048576) (hns : name.size ≤ maxLen) (hs : ∀ p ∈ l, p.1.size ≤ maxLen) (ha : At w a (pairsV l)) :
    Calls Try.prog 7 #[.int .i64 space, .string name, .slice a l.length c] w fun e w' => e = .returned (.bool true) ∧ Below w.heap.size w w' := by
  have b4 : l.length ≤ 2097152 := by omega
  have HA := Lib.hid ha
  have HS := Lib.hid hs
  clear ha hs
  obtain ⟨nm, hnm⟩ : ∃ nm, nm = nameF space name := ⟨_, rfl⟩
  have hnz : nm.size ≤ maxLen := by rw [hnm]; exact nameF_size _ _ hns
  have L1 : Hid (∀ u, Calls Try.prog 26 #[.string nm] u fun e w' => e = .returned (.string ⟨(lowS name.toList).toArray⟩) ∧ Below u.heap.size u w') := Lib.hid fun u => by
    have h := Lower_any nm u hnz
    rw [hnm, nameF_low, ← hnm] at h
    exact h
  have N1 : Hid (∀ u, Calls Try.prog 24 #[.int .i64 space, .string name] u fun e w' => e = .returned (.string nm) ∧ Below u.heap.size u w') := Lib.hid fun u => by
    rw [hnm]; exact name_any space name u
  have N2 : Hid (∀ u, Calls Try.prog 24 #[.int .i64 space, .string nm] u fun e w' => e = .returned (.string nm) ∧ Below u.heap.size u w') := Lib.hid fun u => by
    have h := name_any space nm u
    rw [hnm, nameF_again, ← hnm] at h
    exact h
  have hnn : (nm.toList == name.toList) = true := by rw [hnm, nameF, if_neg (by simpa using h1)]; simp
  clear hnm hnz
  go_enter Try.func7, Try.ntmps7
  go_wp2_with fail
  refine (shown16_any _).mono ?_
  rintro e w1 ⟨rfl, hb1⟩
  have HB1 := Lib.hid hb1
  clear hb1
  go_wp2_with fail
  refine (N1.out _).mono ?_
  rintro e w2 ⟨rfl, hb2⟩
  have HB2 := Lib.hid (belowCall HB1.out hb2)
  clear hb2
  go_wp2_with fail
  refine (attrs_n space l a _ c _ rfl b4 (HA.out.below HB2.out)).mono ?_
  rintro e w3 ⟨a3, c3, rfl, hat3, hb3⟩
  have HT3 := Lib.hid hat3
  have HB3 := Lib.hid (belowCall HB2.out hb3)
  clear hat3 hb3 HB1 HB2
  go_wp2_with fail
  refine (L1.out _).mono ?_
  rintro e w4 ⟨rfl, hb4⟩
  have HB4 := Lib.hid hb4
  clear hb4
  go_wp2_with fail
  refine (Lower_any name _ hns).mono ?_
  rintro e w5 ⟨rfl, hb5⟩
  have HB5 := Lib.hid (belowCall HB4.out hb5)
  clear hb5 HB4
  go_wp2_with fail
  refine (N2.out _).mono ?_
  rintro e w6 ⟨rfl, hb6⟩
  have HB6 := Lib.hid (belowCall HB5.out hb6)
  clear hb6 HB5
  have HT6 := Lib.hid (HT3.out.below HB6.out)
  have HBw := Lib.hid (belowCall HB3.out HB6.out)
  clear HT3 HB3 HB6 L1 N1 N2
  go_wp2_with fail
  go_loopw [10] (fun i wr => ∃ k : Nat, k ≤ l.length ∧ i = .int .i64 k ∧ Below w6.heap.size w6 wr) (fun i _ => l.length - (intOf i).toNat)
  case atStart => exact ⟨0, Nat.zero_le _, rfl, Below.refl _ _⟩
  case round =>
    obtain ⟨k, hk, rfl, hb⟩ := hrel
    have HB := Lib.hid hb
    by_cases hlt : k < l.length
    · have hka : k < (attrsF space l).length := by rw [attrsF_length]; exact hlt
      obtain ⟨b, o, rfl, hlb, p1, p2⟩ := pair_cells ((HA.out.below HBw.out).below hb) hlt
      obtain ⟨b', o', rfl, hlb', q1, q2⟩ := pair_cells (HT6.out.below hb) hka
      rw [attrsF_get space l k hlt hka] at q1 q2
      simp only at q1 q2
      obtain ⟨x, hx⟩ : ∃ x, x = large (wordsOf space) l[k].1 := ⟨_, rfl⟩
      rw [← hx] at q1
      have hxz : x.size ≤ maxLen := by rw [hx]; exact large_size _ _ (HS.out _ (List.getElem_mem hlt)) (wordsOf_size space)
      have L2 : Hid (∀ u, Calls Try.prog 26 #[.string x] u fun e w' => e = .returned (.string ⟨(lowS l[k].1.toList).toArray⟩) ∧ Below u.heap.size u w') := Lib.hid fun u => by
        have h := Lower_any x u hxz
        rw [hx, large_low, ← hx] at h
        exact h
      have L3 : Hid (∀ u, Calls Try.prog 26 #[.string l[k].1] u fun e w' => e = .returned (.string ⟨(lowS l[k].1.toList).toArray⟩) ∧ Below u.heap.size u w') := Lib.hid fun u => Lower_any _ u (HS.out _ (List.getElem_mem hlt))
      have HK : Hid (w6.heap.size ≤ wr.heap.size ∧ Below w6.heap.size w6 wr) := ⟨hb.size, hb⟩
      have HX := Lib.hid hx
      clear hb hx hxz hlb hlb' hka
      go_wp2_with fail
      refine wp_region_calm (by kernel_rfl) (by kernel_rfl) ?_
      repeat
        with_reducible refine wpQuiet_step (fun K hK => ?_)
        first
          | (with_reducible apply calm_skip
             · rfl
             simp only [Act.put, List.setIfInBounds_toArray, List.set_cons_zero, List.set_cons_succ]
             refine hK _ ?_
             clear hK K)
          | (with_reducible apply calm_run
             · rfl
             · intro wq hC
               have zq1 := cell_later hC.out q1
               have zq2 := cell_later hC.out q2
               have zp1 := cell_later hC.out p1
               have zp2 := cell_later hC.out p2
               unfold Oper.quietAt
               go_simp
               first | done | (go_at_call_of 26 (Value.string x); refine (L2.out _).mono ?_; rintro e wx ⟨rfl, hbx⟩; exact ⟨rfl, Lib.hid (belowCall hC.out hbx)⟩) | (go_at_call 26; refine (L3.out _).mono ?_; rintro e wy ⟨rfl, hby⟩; exact ⟨rfl, Lib.hid (belowCall hC.out hby)⟩) | with_reducible rfl | rfl
             simp only [Act.put, List.setIfInBounds_toArray, List.set_cons_zero, List.set_cons_succ]
             refine hK _ ?_
             clear hK K)
      with_reducible refine wpQuiet_nil ?_
      intro wq HQ
      have zq1 := cell_later HQ.out q1
      have zq2 := cell_later HQ.out q2
      have zp1 := cell_later HQ.out p1
      have zp2 := cell_later HQ.out p2
      go_wp2_with fail
      go_roundw
      case rel => exact ⟨k + 1, by omega, by go_num, belowCall HB.out HQ.out⟩
      case measure => simp [intOf]; omega
    · go_wp2_with fail
      refine (attrs_n space (attrsF space l) a3 _ c3 _ (attrsF_length space l).symm (by rw [attrsF_length]; exact b4) (HT6.out.below HB.out)).mono ?_
      rintro e w7 ⟨a7, c7, rfl, hat7, hb7⟩
      rw [attrsF_again] at hat7
      have HT7 := Lib.hid hat7
      have HB7 := Lib.hid (belowCall HB.out hb7)
      clear hat7 hb7
      go_wp2_with fail
      refine (same_self (attrsF space l) a7 a3 _ _ c7 c3 _ (attrsF_length space l).symm (attrsF_length space l).symm (by rw [attrsF_length]; unfold maxLen; omega) HT7.out (HT6.out.below HB7.out)).mono ?_
      rintro e w8 ⟨rfl, hb8⟩
      have HB8 := Lib.hid (belowCall HB7.out hb8)
      clear hb8
      go_wp2_with fail
      go_ret
      exact ⟨rfl, belowCall HBw.out HB8.out⟩

theorem lawAdjusts (space : Int) (name : ByteArray) (l : List Pair) (a : Option Addr) (c : Nat) (w : World) (hl : l.length ≤ 1048576) (hns : name.size ≤ maxLen) (hs : ∀ p ∈ l, p.1.size ≤ maxLen) (ha : At w a (pairsV l)) :
    Calls Try.prog 7 #[.int .i64 space, .string name, .slice a l.length c] w fun e w' => e = .returned (.bool true) ∧ Below w.heap.size w w' := by
  by_cases h1 : space = 1
  · subst h1; exact lawAdjusts_svg name l a c w hl hns hs ha
  · by_cases h0 : space = 0
    · subst h0; exact lawAdjusts_zero name l a c w hl hns hs ha
    · exact lawAdjusts_other space (by simpa using h1) (by simpa using h0) name l a c w hl hns hs ha
end Go.Proofs.Ytflphgmblipglaa
