/-
  The walk of OpenStacks. (Its lists of steps and of acts, their texts, attributes and names within the bound.)
-/
import Derived.Test.YtidbihdnginmcaaRstT
import Derived.Test.YtidbihdnginmcaaIntsA
namespace Go.Proofs.Ytidbihdnginmcaa
open Go.RowKit Mem

set_option maxRecDepth 100000 in
set_option maxHeartbeats 8000000 in
theorem law_OpenStacks (l : List OpD) (a : Option Addr) (c : Nat) (hl : l.length ≤ 1048576) (hs : ∀ k (h : k < l.length), l[k].s.size ≤ 1048576 ∧ l[k].attrs.length ≤ 1048576) (hc : l.length ≤ c) (hcm : c ≤ maxLen) {w : World} (ha : OpsAt w a l)
    (l2 : List DoD) (a2 : Option Addr) (c2 : Nat) (hl2 : l2.length ≤ 262144) (hs2 : ∀ k (h : k < l2.length), l2[k].names.length ≤ 1048576) (hc2 : l2.length ≤ c2) (hcm2 : c2 ≤ maxLen) (ha2 : DosAt w a2 l2) :
    Calls Try.prog 6 #[.slice a l.length c, .slice a2 l2.length c2] w fun e w' => e = .returned (.bool true) ∧ Below w.heap.size w w' := by
  have HA := Lib.hid ha
  have HS := Lib.hid hs
  have HA2 := Lib.hid ha2
  have HS2 := Lib.hid hs2
  unfold maxLen at hcm hcm2
  clear ha hs ha2 hs2
  go_enter Try.func6, Try.ntmps6
  go_wp2_with fail
  refine (shown14_any _).mono ?_
  rintro e w1 ⟨rfl, hb1⟩
  have HB1 := Lib.hid hb1
  have HNew := Lib.hid (New_tx (ex := fun _ => False) 5000 (by decide) (fun _ h => h.elim) hb1)
  clear hb1
  go_wp2_with fail
  refine HNew.out.mono ?_
  rintro e w2 ⟨tb, rfl, hT2, hb2⟩
  have HT2 := Lib.hid hT2
  have HRN := Lib.hid (rNew_ri w w2 5000 (by decide) (fun k => w.heap.size ≤ k ∧ k < w2.heap.size) (fun _ h => h.2) hT2.below)
  clear hT2 hb2 HNew HB1
  go_wp2_with fail
  refine HRN.out.mono ?_
  rintro e w3 ⟨rb, rfl, hR3, hb3⟩
  have HD3 := Lib.hid (DT.begin HT2.out hR3 hb3)
  clear hR3 hb3 HRN HT2
  go_wp2_with fail
  go_loopw [8] (fun i wr => ∃ k : Nat, k ≤ l.length ∧ i = .int .i64 k ∧ ∃ T, DT w (k * 1048576) (k * 1048576) tb rb T T (fun _ => False) wr) (fun i _ => l.length - (intOf i).toNat)
  case atStart => exact ⟨0, Nat.zero_le _, rfl, _, HD3.out.more (Nat.zero_le _) (Nat.zero_le _)⟩
  case round =>
    obtain ⟨k, hk, rfl, T, hT⟩ := hrel
    have HT := Lib.hid hT
    clear hT HD3
    by_cases hlt : k < l.length
    · obtain ⟨b, o, aa, ac, rfl, p1, p2, p3⟩ := HA.out.ops k hlt
      have hbw := HT.out.below
      have d0 := cell_later hbw (p3 0 _ rfl)
      have d1 := cell_later hbw (p3 1 _ rfl)
      have d2 := cell_later hbw (p3 2 _ rfl)
      have d3 := cell_later hbw (p3 3 _ rfl)
      have d4 := cell_later hbw (p3 4 _ rfl)
      have d5 := cell_later hbw (p3 5 _ rfl)
      rw [Nat.add_zero] at d0
      obtain ⟨q1, q2⟩ := HS.out k hlt
      have HP2 : AtF (fun k => w.heap.size ≤ k) wr aa (pairsV l[k].attrs) := (p2.other (fun b hb hx => by omega)).kept (Keeps.ofBelow hbw)
      have HC := Lib.hid (run_any (B' := (k + 1) * 1048576) (C' := (k + 1) * 1048576) HT.out l[k] aa ac p1 q2 HP2 (by omega) (by omega) (by omega) (by omega))
      generalize l[k] = x at *
      clear p1 p2 p3 q1 q2 HP2 hbw
      go_wp2_with fail
      refine HC.out.mono ?_
      rintro e w4 ⟨rfl, h4, _⟩
      have H4 := Lib.hid h4
      clear h4 HC
      go_wp2_with fail
      go_roundw
      case rel => exact ⟨k + 1, by omega, by go_num, _, H4.out⟩
      case measure => simp [intOf]; omega
    · have HSN := Lib.hid (stk_new (w := wr) (tb := tb))
      clear HA HS
      generalize k * 1048576 = B at *
      go_wp2_with fail
      refine HSN.out.mono ?_
      rintro e w4 ⟨rfl, h4, hb4, hs4⟩
      have H4 := Lib.hid h4
      have HB4 := Lib.hid hb4
      clear h4 hb4 hs4 HSN
      go_wp2_with fail
      have hb5 := (Below.refl w4.heap.size w4).alloc (Nat.le_refl _) (.cells #[.pointer (some ⟨rb, 0, none⟩), .slice none 0 0] 65)
      have HQ : Hid (RstO (w4.alloc (.cells #[.pointer (some ⟨rb, 0, none⟩), .slice none 0 0] 65)) w4.heap.size rb none []) := Lib.hid ⟨.slice none 0 0, heap_alloc_new _ _, OwnI.nil _, by simp⟩
      have HD5 := Lib.hid (DS.start HT.out HB4.out H4.out hb5 HQ.out)
      clear H4 HB4 hb5 HQ HT
      generalize w4.alloc (.cells #[.pointer (some ⟨rb, 0, none⟩), .slice none 0 0] 65) = w5 at *
      generalize wr.heap.size = sb at *
      generalize w4.heap.size = qb at *
      go_loopw [12] (fun i wi => ∃ k : Nat, k ≤ l2.length ∧ i = .int .i64 k ∧ ∃ m : List Int, m.length ≤ k ∧ DS w B B tb rb sb qb T T m m (fun _ => False) wi) (fun i _ => l2.length - (intOf i).toNat)
      case atStart => exact ⟨0, Nat.zero_le _, rfl, [], Nat.zero_le _, HD5.out⟩
      case round =>
        obtain ⟨j, hj, rfl, m, hm, hD⟩ := hrel
        have HD := Lib.hid hD
        clear hD HD5
        by_cases hjt : j < l2.length
        · obtain ⟨b, o, aa, ac, rfl, p0, p00, p1, p2, p3⟩ := HA2.out.acts j hjt
          have hbw := HD.out.below
          have d0 := cell_later hbw (p3 0 _ rfl)
          have d1 := cell_later hbw (p3 1 _ rfl)
          have d2 := cell_later hbw (p3 2 _ rfl)
          have d3 := cell_later hbw (p3 3 _ rfl)
          rw [Nat.add_zero] at d0
          have HP2 := (p2.at).below hbw
          have HC := Lib.hid (act_any HD.out l2[j] aa ac (HS2.out j hjt) (by omega) p1 HP2)
          have HLen := Lib.hid (actL_len T m l2[j])
          generalize actL T m l2[j] = m' at *
          generalize l2[j] = x at *
          clear p0 p00 p1 p2 p3 HP2 hbw
          go_wp2_with fail
          refine HC.out.mono ?_
          rintro e w6 ⟨rfl, h6, _⟩
          have H6 := Lib.hid h6
          obtain ⟨ex6, hs6⟩ := h6.si
          have HTp := Lib.hid (Top_si hs6)
          have HTr : Hid (∀ u, Below w6.heap.size w6 u → Calls Try.prog 34 #[.pointer (some ⟨qb, 0, none⟩)] u fun e w' => e = .returned (.int .i64 (m'.getLast?.getD 0)) ∧ ∃ q, w' = u.drewN q) := Lib.hid (fun u hu => by
            obtain ⟨ex, hs⟩ := (H6.out.world hu).rsi
            exact Top_rs hs)
          clear h6 hs6 HC d0 d1 d2 d3
          generalize m'.getLast?.getD 0 = tp at *
          go_wp2_with (first
            | (go_at_call 33; refine HTp.out.mono ?_; rintro e w7 ⟨rfl, q7, rfl⟩)
            | (go_at_call 34; refine (HTr.out _ (stk_drewN w6 q7)).mono ?_; rintro e w8 ⟨rfl, q8, rfl⟩))
          go_roundw
          case rel => exact ⟨j + 1, by omega, by go_num, m', by have := HLen.out; omega, H6.out.world (stk_drewN w6 _)⟩
          case measure => simp [intOf]; omega
        · obtain ⟨a5, c5, z1, hat, _, _, _⟩ := HD.out.cells
          have HAt := Lib.hid hat
          have HAll : Hid (∀ u, Below wr.heap.size wr u → Calls Try.prog 31 #[.pointer (some ⟨sb, 0, none⟩)] u fun e w' => ∃ v, e = .returned v ∧ w'.ownsRow u.heap.size 3 1 v m.length (intsV m) ∧ Below u.heap.size u w') := Lib.hid (fun u hu => by
            obtain ⟨ex, hs⟩ := (HD.out.world hu).si
            exact All_si hs)
          have HBW := Lib.hid HD.out.below
          have hmm : m.length ≤ maxLen := by unfold maxLen; omega
          clear hat HA2 HS2 HD
          go_wp2_with fail
          have HB0 := Lib.hid (Below.refl wr.heap.size wr).drew
          have z0 := cell_later HB0.out z1
          go_region_held3 (fun u => u.cell? ⟨qb, 1, none⟩ = some (.slice a5 m.length c5))
            (first | exact z1 | exact z0 | exact z7 | exact z8)
            (first
              | (go_at_call 31; refine (HAll.out _ (by first | exact HB0.out | exact Below.refl _ _)).mono ?_; rintro e w7 ⟨v7, rfl, ho7, hb7⟩; obtain ⟨a7, c7, rfl, _, _, _, m7⟩ := own_at ho7; have HB7 : Hid (Below wr.heap.size wr w7) := Lib.hid (by first | exact belowCall HB0.out hb7 | exact hb7); have z7 := cell_later HB7.out z1; have HM7 := Lib.hid m7; clear ho7 hb7 m7)
              | (go_at_call 16; refine (ints14_any m m a7 a5 c7 c5 _ hmm HM7.out (HAt.out.below HB7.out)).mono ?_; rintro e w8 ⟨he, q, rfl⟩; rw [decide_eq_true (rfl : m = m)] at he; subst he; have HB8 := Lib.hid (HB7.out.trans ((stk_drewN w7 q).mono HB7.out.size)); have z8 := cell_later HB8.out z1))
          all_goals
            go_wp2_with fail
            go_ret
            exact ⟨rfl, HBW.out.trans (HB8.out.mono HBW.out.size)⟩
end Go.Proofs.Ytidbihdnginmcaa
