/-
  The walk of ForeignAdjusts: it returns true; the world behind has new blocks alone. The list has at most 1048576 elements. And the plain law: a name that is written anew is the same in small letters, and stays.
-/
import Derived.Test.YtflphgmblipglaaForN
import Derived.Deep.RegionHeld3
namespace Go.Proofs.Ytflphgmblipglaa
open Go.RowKit Mem

theorem lowB_low (b : UInt8) : lowB (lowB b) = lowB b := by
  have h := lowB_nat b
  have h2 := lowB_nat (lowB b)
  rw [← UInt8.toNat_inj]
  split at h <;> split at h2 <;> omega
theorem lowS_low (l : Str) : lowS (lowS l) = lowS l := by
  simp [lowS, lowB_low]
theorem large_low (words : List ByteArray) (n : ByteArray) : lowS (large words n).toList = lowS n.toList := by
  induction words with
  | nil => rfl
  | cons x r ih =>
    rw [large]
    split
    · rename_i h; rw [← h, lowS_low]
    · exact ih
theorem large_mem (words : List ByteArray) (n : ByteArray) : large words n = n ∨ large words n ∈ words := by
  induction words with
  | nil => exact .inl rfl
  | cons x r ih =>
    rw [large]
    split
    · exact .inr List.mem_cons_self
    · exact ih.imp id (List.mem_cons_of_mem _)
theorem large_none (words : List ByteArray) (n : ByteArray) (h : ∀ x ∈ words, lowS x.toList ≠ n.toList) : large words n = n := by
  induction words with
  | nil => rfl
  | cons x r ih =>
    rw [large, if_neg (h x List.mem_cons_self)]
    exact ih fun y hy => h y (List.mem_cons_of_mem _ hy)
/-- written again it stays, where each word has a large letter -/
theorem large_again (words : List ByteArray) (n : ByteArray) (hw : ∀ x ∈ words, lowS x.toList ≠ x.toList) : large words (large words n) = large words n := by
  rcases large_mem words n with h | h
  · rw [h]; exact h
  · refine large_none _ _ fun y hy he => hw _ h ?_
    rw [← he, lowS_low]
theorem large_size (words : List ByteArray) (n : ByteArray) (hn : n.size ≤ maxLen) (hw : ∀ x ∈ words, x.size ≤ maxLen) : (large words n).size ≤ maxLen := by
  rcases large_mem words n with h | h
  · rw [h]; exact hn
  · exact hw _ h

theorem caps_of (words : List Str) (h : (words.all fun x => decide (lowS x ≠ x)) = true) : ∀ x ∈ words.map (fun l => (⟨l.toArray⟩ : ByteArray)), lowS x.toList ≠ x.toList := by
  intro x hx
  obtain ⟨l, hl, rfl⟩ := List.mem_map.1 hx
  rw [ByteArray.toList_mk]
  simpa using List.all_eq_true.1 h l hl
theorem svgNames_caps : ∀ x ∈ svgNames, lowS x.toList ≠ x.toList :=
  caps_of [([97, 108, 116, 71, 108, 121, 112, 104] : List UInt8), ([97, 110, 105, 109, 97, 116, 101, 77, 111, 116, 105, 111, 110] : List UInt8), ([97, 110, 105, 109, 97, 116, 101, 84, 114, 97, 110, 115, 102, 111, 114, 109] : List UInt8), ([99, 108, 105, 112, 80, 97, 116, 104] : List UInt8), ([102, 101, 71, 97, 117, 115, 115, 105, 97, 110, 66, 108, 117, 114] : List UInt8), ([102, 111, 114, 101, 105, 103, 110, 79, 98, 106, 101, 99, 116] : List UInt8), ([103, 108, 121, 112, 104, 82, 101, 102] : List UInt8), ([108, 105, 110, 101, 97, 114, 71, 114, 97, 100, 105, 101, 110, 116] : List UInt8), ([114, 97, 100, 105, 97, 108, 71, 114, 97, 100, 105, 101, 110, 116] : List UInt8), ([116, 101, 120, 116, 80, 97, 116, 104] : List UInt8)] (by decide)
theorem wordsOf_caps (space : Int) : ∀ x ∈ wordsOf space, lowS x.toList ≠ x.toList := by
  unfold wordsOf
  split
  · exact caps_of [([97, 116, 116, 114, 105, 98, 117, 116, 101, 78, 97, 109, 101] : List UInt8), ([103, 114, 97, 100, 105, 101, 110, 116, 84, 114, 97, 110, 115, 102, 111, 114, 109] : List UInt8), ([103, 114, 97, 100, 105, 101, 110, 116, 85, 110, 105, 116, 115] : List UInt8), ([112, 97, 116, 104, 76, 101, 110, 103, 116, 104] : List UInt8), ([112, 97, 116, 116, 101, 114, 110, 85, 110, 105, 116, 115] : List UInt8), ([112, 114, 101, 115, 101, 114, 118, 101, 65, 115, 112, 101, 99, 116, 82, 97, 116, 105, 111] : List UInt8), ([114, 101, 102, 88] : List UInt8), ([114, 101, 102, 89] : List UInt8), ([115, 116, 100, 68, 101, 118, 105, 97, 116, 105, 111, 110] : List UInt8), ([116, 101, 120, 116, 76, 101, 110, 103, 116, 104] : List UInt8), ([118, 105, 101, 119, 66, 111, 120] : List UInt8)] (by decide)
  · split
    · exact caps_of [([100, 101, 102, 105, 110, 105, 116, 105, 111, 110, 85, 82, 76] : List UInt8)] (by decide)
    · intro x hx; cases hx
theorem wordsOf_size (space : Int) : ∀ x ∈ wordsOf space, x.size ≤ maxLen := by
  unfold wordsOf
  split
  · decide
  · split
    · decide
    · intro x hx; cases hx
theorem nameF_low (space : Int) (name : ByteArray) : lowS (nameF space name).toList = lowS name.toList := by
  unfold nameF
  split
  · exact large_low _ _
  · rfl
theorem nameF_again (space : Int) (name : ByteArray) : nameF space (nameF space name) = nameF space name := by
  unfold nameF
  split
  · exact large_again _ _ svgNames_caps
  · rfl
theorem nameF_size (space : Int) (name : ByteArray) (h : name.size ≤ maxLen) : (nameF space name).size ≤ maxLen := by
  unfold nameF
  split
  · exact large_size _ _ h (by decide)
  · exact h
theorem attrsF_again (space : Int) (l : List Pair) : attrsF space (attrsF space l) = attrsF space l := by
  simp only [attrsF, List.map_map]
  refine List.map_congr_left fun p _ => ?_
  simp only [Function.comp, adjust]
  rw [large_again _ _ (wordsOf_caps space)]
theorem attrsF_length (space : Int) (l : List Pair) : (attrsF space l).length = l.length := by simp [attrsF]
theorem attrsF_get (space : Int) (l : List Pair) (k : Nat) (h : k < l.length) (h' : k < (attrsF space l).length) : (attrsF space l)[k] = (large (wordsOf space) l[k].1, l[k].2) := by simp [attrsF, adjust]

theorem keep4 {B : Nat} {W u u' : World} {p1 p2 p3 p4 : Addr} {v1 v2 v3 v4 : Value} (hb : Below u.heap.size u u')
    (h : u.cell? p1 = some v1 ∧ u.cell? p2 = some v2 ∧ u.cell? p3 = some v3 ∧ u.cell? p4 = some v4 ∧ Hid (B ≤ u.heap.size ∧ Below B W u)) :
    u'.cell? p1 = some v1 ∧ u'.cell? p2 = some v2 ∧ u'.cell? p3 = some v3 ∧ u'.cell? p4 = some v4 ∧ Hid (B ≤ u'.heap.size ∧ Below B W u') :=
  ⟨cell_later hb h.1, cell_later hb h.2.1, cell_later hb h.2.2.1, cell_later hb h.2.2.2.1, Nat.le_trans h.2.2.2.2.1 hb.size, h.2.2.2.2.2.trans (hb.mono h.2.2.2.2.1)⟩

theorem attrs_n (space : Int) (l : List Pair) (a : Option Addr) (n c : Nat) (w : World) (hn : n = l.length) (hl : l.length ≤ 2097152) (ha : At w a (pairsV l)) :
    Calls Try.prog 22 #[.int .i64 space, .slice a n c] w fun e w' => ∃ a' c', e = .returned (.slice a' n c') ∧ At w' a' (pairsV (attrsF space l)) ∧ Below w.heap.size w w' := by
  subst hn
  refine (attrs_any space l a c w hl ha).mono ?_
  rintro e w' ⟨v, rfl, ho, hb⟩
  obtain ⟨a', c', rfl, _, _, _, hat⟩ := own_at ho
  exact ⟨a', c', rfl, hat, hb⟩
theorem same_self (l : List Pair) (a a' : Option Addr) (n m c c' : Nat) (w : World) (hn : n = l.length) (hm : m = l.length) (hl : l.length ≤ maxLen) (ha : At w a (pairsV l)) (ha' : At w a' (pairsV l)) :
    Calls Try.prog 23 #[.slice a n c, .slice a' m c'] w fun e w' => e = .returned (.bool true) ∧ Below w.heap.size w w' := by
  refine (sameAttrs_n l l a a' n m c c' w hn hm hl hl ha ha').mono ?_
  rintro e w' ⟨he, k, rfl⟩
  rw [samePairs_self] at he
  exact ⟨he, below_drewN _ _⟩

theorem keep_out {B : Nat} {W u : World} {p1 p2 p3 p4 : Addr} {v1 v2 v3 v4 : Value}
    (h : u.cell? p1 = some v1 ∧ u.cell? p2 = some v2 ∧ u.cell? p3 = some v3 ∧ u.cell? p4 = some v4 ∧ Hid (B ≤ u.heap.size ∧ Below B W u)) : Below B W u := h.2.2.2.2.2

set_option maxRecDepth 100000 in
set_option maxHeartbeats 16000000 in
theorem lawAdjusts_zero (name : ByteArray) (l : List Pair) (a : Option Addr) (c : Nat) (w : World) (hl : l.length ≤ 1048576) (hns : name.size ≤ maxLen) (hs : ∀ p ∈ l, p.1.size ≤ maxLen) (ha : At w a (pairsV l)) :
    Calls Try.prog 7 #[.int .i64 0, .string name, .slice a l.length c] w fun e w' => e = .returned (.bool true) ∧ Below w.heap.size w w' := by
  have b4 : l.length ≤ 2097152 := by omega
  have HA := Lib.hid ha
  have HS := Lib.hid hs
  clear ha hs
  obtain ⟨nm, hnm⟩ : ∃ nm, nm = nameF 0 name := ⟨_, rfl⟩
  have hnz : nm.size ≤ maxLen := by rw [hnm]; exact nameF_size _ _ hns
  have L1 : Hid (∀ u, Calls Try.prog 26 #[.string nm] u fun e w' => e = .returned (.string ⟨(lowS name.toList).toArray⟩) ∧ Below u.heap.size u w') := Lib.hid fun u => by
    have h := Lower_any nm u hnz
    rw [hnm, nameF_low, ← hnm] at h
    exact h
  have N1 : Hid (∀ u, Calls Try.prog 24 #[.int .i64 0, .string name] u fun e w' => e = .returned (.string nm) ∧ Below u.heap.size u w') := Lib.hid fun u => by
    rw [hnm]; exact name_any 0 name u
  have N2 : Hid (∀ u, Calls Try.prog 24 #[.int .i64 0, .string nm] u fun e w' => e = .returned (.string nm) ∧ Below u.heap.size u w') := Lib.hid fun u => by
    have h := name_any 0 nm u
    rw [hnm, nameF_again, ← hnm] at h
    exact h
  have hnn : (nm.toList == name.toList) = true := by rw [hnm, nameF, if_neg (by decide)]; simp
  clear hnm hnz
  go_enter Try.func7, Try.ntmps7
  go_wp2_with fail
  refine (shown16_any _).mono ?_
  rintro e w1 ⟨rfl, hb1⟩
  have HB1 := Lib.hid hb1
  clear hb1
  go_wp2_with fail
  refine (N1.out _).mono ?_
  rintro e w2 ⟨rfl, hb2⟩
  have HB2 := Lib.hid (belowCall HB1.out hb2)
  clear hb2
  go_wp2_with fail
  refine (attrs_n 0 l a _ c _ rfl b4 (HA.out.below HB2.out)).mono ?_
  rintro e w3 ⟨a3, c3, rfl, hat3, hb3⟩
  have HT3 := Lib.hid hat3
  have HB3 := Lib.hid (belowCall HB2.out hb3)
  clear hat3 hb3 HB1 HB2
  go_wp2_with fail
  refine (L1.out _).mono ?_
  rintro e w4 ⟨rfl, hb4⟩
  have HB4 := Lib.hid hb4
  clear hb4
  go_wp2_with fail
  refine (Lower_any name _ hns).mono ?_
  rintro e w5 ⟨rfl, hb5⟩
  have HB5 := Lib.hid (belowCall HB4.out hb5)
  clear hb5 HB4
  go_wp2_with fail
  refine (N2.out _).mono ?_
  rintro e w6 ⟨rfl, hb6⟩
  have HB6 := Lib.hid (belowCall HB5.out hb6)
  clear hb6 HB5
  have HT6 := Lib.hid (HT3.out.below HB6.out)
  have HBw := Lib.hid (belowCall HB3.out HB6.out)
  clear HT3 HB3 HB6 L1 N1 N2
  go_wp2_with fail
  go_loopw [10] (fun i wr => ∃ k : Nat, k ≤ l.length ∧ i = .int .i64 k ∧ Below w6.heap.size w6 wr) (fun i _ => l.length - (intOf i).toNat)
  case atStart => exact ⟨0, Nat.zero_le _, rfl, Below.refl _ _⟩
  case round =>
    obtain ⟨k, hk, rfl, hb⟩ := hrel
    have HB := Lib.hid hb
    by_cases hlt : k < l.length
    · have hka : k < (attrsF 0 l).length := by rw [attrsF_length]; exact hlt
      obtain ⟨b, o, rfl, hlb, p1, p2⟩ := pair_cells ((HA.out.below HBw.out).below hb) hlt
      obtain ⟨b', o', rfl, hlb', q1, q2⟩ := pair_cells (HT6.out.below hb) hka
      rw [attrsF_get 0 l k hlt hka] at q1 q2
      simp only at q1 q2
      obtain ⟨x, hx⟩ : ∃ x, x = large (wordsOf 0) l[k].1 := ⟨_, rfl⟩
      rw [← hx] at q1
      have hxz : x.size ≤ maxLen := by rw [hx]; exact large_size _ _ (HS.out _ (List.getElem_mem hlt)) (wordsOf_size 0)
      have L2 : Hid (∀ u, Calls Try.prog 26 #[.string x] u fun e w' => e = .returned (.string ⟨(lowS l[k].1.toList).toArray⟩) ∧ Below u.heap.size u w') := Lib.hid fun u => by
        have h := Lower_any x u hxz
        rw [hx, large_low, ← hx] at h
        exact h
      have L3 : Hid (∀ u, Calls Try.prog 26 #[.string l[k].1] u fun e w' => e = .returned (.string ⟨(lowS l[k].1.toList).toArray⟩) ∧ Below u.heap.size u w') := Lib.hid fun u => Lower_any _ u (HS.out _ (List.getElem_mem hlt))
      have HK : Hid (w6.heap.size ≤ wr.heap.size ∧ Below w6.heap.size w6 wr) := ⟨hb.size, hb⟩
      have HX := Lib.hid hx
      clear hb hx hxz hlb hlb' hka
      have hne : ∀ u, (binOp .neq 31 (.agg #[.string x, .string l[k].2]) (.agg #[.string l[k].1, .string l[k].2])).run Try.prog u = .ok (.bool false) u := fun u => by
        rw [HX.out, show wordsOf 0 = [] from rfl, large_nil]
        have h := neq_attr l[k] l[k] u
        rw [decide_eq_true rfl] at h
        exact h
      go_wp2_with fail
      go_region_held3 (fun u => u.cell? ⟨b', o' + k * 2, none⟩ = some (.string x) ∧ u.cell? ⟨b', o' + k * 2 + 1, none⟩ = some (.string l[k].2) ∧ u.cell? ⟨b, o + k * 2, none⟩ = some (.string l[k].1) ∧ u.cell? ⟨b, o + k * 2 + 1, none⟩ = some (.string l[k].2) ∧ Hid (w6.heap.size ≤ u.heap.size ∧ Below w6.heap.size w6 u))
        (first | exact keep4 (Below.refl _ _).drew ⟨q1, q2, p1, p2, HK⟩ | exact keep4 (p1 := ⟨b', o' + k * 2, none⟩) (p2 := ⟨b', o' + k * 2 + 1, none⟩) (p3 := ⟨b, o + k * 2, none⟩) (p4 := ⟨b, o + k * 2 + 1, none⟩) (v1 := .string x) (v2 := .string l[k].2) (v3 := .string l[k].1) (v4 := .string l[k].2) (B := w6.heap.size) (W := w6) hbx (by assumption))
        (first | (go_at_call_of 26 (Value.string x); refine (L2.out _).mono ?_; rintro e wx ⟨rfl, hbx⟩) | (go_at_call 26; refine (L3.out _).mono ?_; rintro e wx ⟨rfl, hbx⟩))
      all_goals
        have HF := Lib.hid (keep_out (p1 := ⟨b', o' + k * 2, none⟩) (p2 := ⟨b', o' + k * 2 + 1, none⟩) (p3 := ⟨b, o + k * 2, none⟩) (p4 := ⟨b, o + k * 2 + 1, none⟩) (v1 := .string x) (v2 := .string l[k].2) (v3 := .string l[k].1) (v4 := .string l[k].2) (B := w6.heap.size) (W := w6) (by assumption))
        go_wp2_with fail
        go_roundw
        case rel => exact ⟨k + 1, by omega, by go_num, HF.out⟩
        case measure => simp [intOf]; omega
    · go_wp2_with fail
      refine (attrs_n 0 (attrsF 0 l) a3 _ c3 _ (attrsF_length 0 l).symm (by rw [attrsF_length]; exact b4) (HT6.out.below HB.out)).mono ?_
      rintro e w7 ⟨a7, c7, rfl, hat7, hb7⟩
      rw [attrsF_again] at hat7
      have HT7 := Lib.hid hat7
      have HB7 := Lib.hid (belowCall HB.out hb7)
      clear hat7 hb7
      go_wp2_with fail
      refine (same_self (attrsF 0 l) a7 a3 _ _ c7 c3 _ (attrsF_length 0 l).symm (attrsF_length 0 l).symm (by rw [attrsF_length]; unfold maxLen; omega) HT7.out (HT6.out.below HB7.out)).mono ?_
      rintro e w8 ⟨rfl, hb8⟩
      have HB8 := Lib.hid (belowCall HB7.out hb8)
      clear hb8
      go_wp2_with fail
      go_ret
      exact ⟨rfl, belowCall HBw.out HB8.out⟩

end Go.Proofs.Ytflphgmblipglaa
