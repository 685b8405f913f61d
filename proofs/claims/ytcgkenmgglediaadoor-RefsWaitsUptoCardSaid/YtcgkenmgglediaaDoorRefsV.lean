/-
  The laws RefsTakes, RefsLongest, RefsWaits, walked: true.
-/
import Derived.Test.YtcgkenmgglediaaDoorRefsU
import Derived.Test.YtcgkenmgglediaaDoorRefsT
namespace Go.Proofs.YtcgkenmgglediaaDoor
open Go.RowKit Mem

set_option maxRecDepth 100000 in
set_option maxHeartbeats 2000000 in
theorem lawRefsTakes (s : ByteArray) (attr : Bool) (m : Int) (w : World) (hs : s.size ≤ maxLen) (hm : w.cell? ⟨0, 0, none⟩ = some (.int .i64 m)) :
    Calls Tryd.prog 4 #[.string s, .bool attr] w fun e w' => e = .returned (.bool true) ∧ Below w.heap.size w w' := by
  have hs' : s.size ≤ 9223372036854775807 := hs
  have H0 := Lib.hid (shown_any m w hm)
  have H1 := Lib.hid (fun u => Take_any s attr u hs')
  have H2 := Lib.hid (fun u => Take12_any s attr u hs')
  have H3 := Lib.hid (fun u => More_any s u hs')
  have H4 := Lib.hid (fun u => More12_any s u hs')
  generalize strB (takeF s.toList attr).1 = t at *
  generalize (takeF s.toList attr).2 = k at *
  generalize moreF s.toList = b at *
  clear hm hs hs'
  go_enter Tryd.func4, Tryd.ntmps4
  go_wp2_with (go_at_call 12; go_must (refine H0.out.mono ?_; rintro e w1 ⟨rfl, hb⟩; have HB1 := Lib.hid hb; clear hb))
  go_wp2_with (go_at_call 17; go_must (refine (H1.out _).mono ?_; rintro e w2 ⟨rfl, hb⟩; have HB2 := Lib.hid (belowCall HB1.out hb); clear hb))
  go_wp2_with (go_at_call 18; go_must (refine (H2.out _).mono ?_; rintro e w3 ⟨rfl, hb⟩; have HB3 := Lib.hid (belowCall HB2.out hb); clear hb))
  go_wp2_with (go_at_call 19; go_must (refine (H3.out _).mono ?_; rintro e w4 ⟨rfl, hb⟩; have HB4 := Lib.hid (belowCall HB3.out hb); clear hb))
  go_wp2_with (go_at_call 20; go_must (refine (H4.out _).mono ?_; rintro e w5 ⟨rfl, hb⟩; have HB5 := Lib.hid (belowCall HB4.out hb); clear hb))
  go_ret
  exact ⟨ret_bool (by simp), HB5.out⟩

theorem findF_14 (s : Str) : (findF s).2 ≤ 14 := by
  have := (findUp_spec s (min s.length 14) (Nat.min_le_left _ _)).1
  unfold findF
  omega
set_option maxRecDepth 100000 in
set_option maxHeartbeats 4000000 in
theorem lawRefsLongest (s : ByteArray) (m : Int) (w : World) (hs : s.size ≤ maxLen) (hm : w.cell? ⟨0, 0, none⟩ = some (.int .i64 m)) :
    Calls Tryd.prog 10 #[.string s] w fun e w' => e = .returned (.bool true) ∧ Below w.heap.size w w' := by
  have hs' : s.size ≤ 9223372036854775807 := hs
  have H0 := Lib.hid (shown_any m w hm)
  have hle := findF_le s.toList
  rw [size_toList] at hle
  have hn14 := findF_14 s.toList
  have hz := findF_zero s.toList
  have hk : ∀ k, (findF s.toList).2 ≤ k → k ≤ s.size → ∀ u, Calls Tryd.prog 13 #[.string (s.extract 0 k)] u fun e w' => e = .returned (.tuple #[.string (strB (findF s.toList).1), .int .i64 (findF s.toList).2]) ∧ u = w' := fun k h1 h2 u => by
    have := Find_any (s.extract 0 k) u (by rw [ByteArray.size_extract]; omega)
    rw [ext_list, List.drop_zero, Nat.sub_zero, findF_take _ _ h1] at this
    exact this
  have H1 := Lib.hid (fun u => Find_any s u hs')
  obtain ⟨t, ht⟩ : ∃ t, t = strB (findF s.toList).1 := ⟨_, rfl⟩
  have hte : t.toList = (findF s.toList).1 := by rw [ht, toList_strB]
  rw [← hte] at hz
  rw [← ht] at hk H1
  generalize (findF s.toList).2 = n at *
  have HK := Lib.hid hk
  have hq1 : ¬ s.size < n := by omega
  have hq2 : ¬ ((n : Int) < 0) := by omega
  clear hm hs hk ht hte
  by_cases hn : n = 0
  · have hem := is_empty (hz.1 hn)
    have hn0 : ((n : Int) == 0) = true := by rw [beq_iff_eq]; omega
    clear hz hn
    go_enter Tryd.func10, Tryd.ntmps10
    go_wp2_with (go_at_call 12; go_must (refine H0.out.mono ?_; rintro e w1 ⟨rfl, hb⟩; have HB1 := Lib.hid hb; clear hb))
    go_wp2_with (go_at_call 13; fail)
    refine (H1.out _).mono ?_
    rintro e w2 ⟨rfl, rfl⟩
    dsimp only
    go_wp2_with (go_at_call 13; fail)
    refine (HK.out n (Nat.le_refl _) hle _).mono ?_
    rintro e w2 ⟨rfl, rfl⟩
    dsimp only
    go_wp2_with fail
    go_loop [8] (fun i => ∃ k : Nat, n + 1 ≤ k ∧ k ≤ s.size + 1 ∧ i = .int .i64 k) (fun i => s.size + 1 - (intOf i).toNat)
    case atStart => exact ⟨n + 1, by omega, by omega, by go_num⟩
    case round =>
      obtain ⟨k, hk1, hk2, rfl⟩ := hrel
      by_cases hks : k ≤ s.size
      · by_cases hkn : k < n + 40
        · have hkn' : (k : Int) < (n : Int) + 40 := by omega
          have HF := Lib.hid (HK.out k (by omega) hks)
          go_wp2_with (go_at_call 13; go_must (refine (HF.out _).mono ?_; rintro e w4 ⟨rfl, rfl⟩))
          go_round
          case rel => exact ⟨k + 1, by omega, by omega, by go_num⟩
          case measure => simp [intOf]; omega
        · have hkn' : ¬ (k : Int) < (n : Int) + 40 := by omega
          go_wp2_with fail
          go_ret
          exact ⟨rfl, HB1.out⟩
      · have hks' : ¬ (k : Int) ≤ (s.size : Int) := by omega
        go_wp2_with fail
        go_ret
        exact ⟨rfl, HB1.out⟩
  · have hem := ne_empty (fun h => hn (hz.2 h))
    have hn0 : ((n : Int) == 0) = false := by rw [beq_eq_false_iff_ne]; omega
    clear hz hn
    go_enter Tryd.func10, Tryd.ntmps10
    go_wp2_with (go_at_call 12; go_must (refine H0.out.mono ?_; rintro e w1 ⟨rfl, hb⟩; have HB1 := Lib.hid hb; clear hb))
    go_wp2_with (go_at_call 13; fail)
    refine (H1.out _).mono ?_
    rintro e w2 ⟨rfl, rfl⟩
    dsimp only
    go_wp2_with (go_at_call 13; fail)
    refine (HK.out n (Nat.le_refl _) hle _).mono ?_
    rintro e w2 ⟨rfl, rfl⟩
    dsimp only
    go_wp2_with fail
    go_loop [8] (fun i => ∃ k : Nat, n + 1 ≤ k ∧ k ≤ s.size + 1 ∧ i = .int .i64 k) (fun i => s.size + 1 - (intOf i).toNat)
    case atStart => exact ⟨n + 1, by omega, by omega, by go_num⟩
    case round =>
      obtain ⟨k, hk1, hk2, rfl⟩ := hrel
      by_cases hks : k ≤ s.size
      · by_cases hkn : k < n + 40
        · have hkn' : (k : Int) < (n : Int) + 40 := by omega
          have HF := Lib.hid (HK.out k (by omega) hks)
          go_wp2_with (go_at_call 13; go_must (refine (HF.out _).mono ?_; rintro e w4 ⟨rfl, rfl⟩))
          go_round
          case rel => exact ⟨k + 1, by omega, by omega, by go_num⟩
          case measure => simp [intOf]; omega
        · have hkn' : ¬ (k : Int) < (n : Int) + 40 := by omega
          go_wp2_with fail
          go_ret
          exact ⟨rfl, HB1.out⟩
      · have hks' : ¬ (k : Int) ≤ (s.size : Int) := by omega
        go_wp2_with fail
        go_ret
        exact ⟨rfl, HB1.out⟩

theorem str_add (s b : ByteArray) : (s ++ b).size = s.size + b.size := ByteArray.size_append
set_option maxRecDepth 100000 in
set_option maxHeartbeats 4000000 in
theorem lawRefsWaits (s b : ByteArray) (attr : Bool) (m : Int) (w : World) (_ : s.size ≤ maxLen) (_ : b.size ≤ maxLen) (hsm : s.size + b.size ≤ 1048576) (hm : w.cell? ⟨0, 0, none⟩ = some (.int .i64 m)) :
    Calls Tryd.prog 7 #[.string s, .string b, .bool attr] w fun e w' => e = .returned (.bool true) ∧ Below w.heap.size w w' := by
  have hs1 : s.size ≤ 1048576 := by omega
  have hs2 : b.size ≤ 1048576 := by omega
  have H0 := Lib.hid (shown_any m w hm)
  have hM := fun u => More_any s u (by omega)
  have hle := takeF_le s.toList attr
  rw [size_toList] at hle
  by_cases h0 : s.size = 0
  · have h0' : ((s.size : Int) == 0) = true := by rw [beq_iff_eq]; omega
    clear hm hM hle h0 hsm
    go_enter Tryd.func7, Tryd.ntmps7
    go_wp2_with (go_at_call 12; go_must (refine H0.out.mono ?_; rintro e w1 ⟨rfl, hb⟩; have HB1 := Lib.hid hb; clear hb))
    go_ret
    exact ⟨rfl, HB1.out⟩
  · have h0' : ((s.size : Int) == 0) = false := by rw [beq_eq_false_iff_ne]; omega
    cases hmo : moreF s.toList
    · have hne : s.toList ≠ [] := fun h => h0 (by rw [← size_toList, h]; rfl)
      have he := takeF_more b.toList attr hne hmo
      have hT := fun u => Take_any s attr u (by omega)
      have hT2 := fun u => Take_any (s ++ b) attr u (by rw [str_add]; omega)
      rw [toList_append, he] at hT2
      rw [hmo] at hM
      have HM := Lib.hid hM
      have HT := Lib.hid hT
      have HT2 := Lib.hid hT2
      generalize strB (takeF s.toList attr).1 = t at *
      generalize (takeF s.toList attr).2 = k at *
      clear hm hM h0 hsm hT hT2 he hne hmo
      go_enter Tryd.func7, Tryd.ntmps7
      go_wp2_with (first
        | (go_at_call 12; go_must (refine H0.out.mono ?_; rintro e w1 ⟨rfl, hb⟩; have HB1 := Lib.hid hb; clear hb))
        | (go_at_call 19; go_must (refine (HM.out _).mono ?_; rintro e w2 ⟨rfl, hb⟩; have HB2 := Lib.hid (belowCall HB1.out hb); clear hb)))
      go_wp2_with (go_at_call 17; fail)
      refine (HT.out _).mono ?_
      rintro e w3 ⟨rfl, hb⟩
      have HB3 := Lib.hid (belowCall HB2.out hb)
      clear hb
      dsimp only
      go_wp2_with (go_at_call 17; fail)
      refine (HT2.out _).mono ?_
      rintro e w4 ⟨rfl, hb⟩
      have HB4 := Lib.hid (belowCall HB3.out hb)
      clear hb
      dsimp only
      go_wp2_with fail
      go_ret
      exact ⟨ret_bool (by simp), HB4.out⟩
    · rw [hmo] at hM
      have HM := Lib.hid hM
      clear hm hM h0 hsm hle hmo
      go_enter Tryd.func7, Tryd.ntmps7
      go_wp2_with (first
        | (go_at_call 12; go_must (refine H0.out.mono ?_; rintro e w1 ⟨rfl, hb⟩; have HB1 := Lib.hid hb; clear hb))
        | (go_at_call 19; go_must (refine (HM.out _).mono ?_; rintro e w2 ⟨rfl, hb⟩; have HB2 := Lib.hid (belowCall HB1.out hb); clear hb)))
      go_ret
      exact ⟨rfl, HB2.out⟩
end Go.Proofs.YtcgkenmgglediaaDoor
