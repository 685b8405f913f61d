/-
  Contracts: refs.Number, colanderref12.Number: the character of a number.
-/
import Derived.Test.YtbabcohidpcjjaaRefsG
import Derived.Test.YtbabcohidpcjjaaRefsE
namespace Go.Proofs.Ytbabcohidpcjjaa
open Go.RowKit Mem

theorem odd_char : ∀ j : Nat, j < 32 → charB (oddT.getD j 0 : Nat) = true ∧ oddT.getD j 0 ≤ 1114111 := by
  have h : ((List.range 32).all fun j => charB (oddT.getD j 0 : Nat) && decide (oddT.getD j 0 ≤ 1114111)) = true := by decide +kernel
  intro j hj
  have := List.all_eq_true.1 h j (List.mem_range.2 hj)
  simpa using this
theorem numF_bad {n : Int} (h : n = 0 ∨ charB n = false) : numF n = encF 0xfffd := by unfold numF numC; rw [if_pos h]
theorem numC_good {n : Int} (hn : n ≠ 0) (hc : charB n = true) : numC n = if 0x80 ≤ n ∧ n < 0xa0 then oddT.getD (n.toNat - 0x80) 0 else n.toNat := by
  unfold numC
  rw [if_neg]
  rintro (h | h)
  · exact hn h
  · rw [hc] at h; cases h
theorem numF_odd {j : Nat} (hj : j < 32) : numF ((128 + j : Nat) : Int) = encF (oddT.getD j 0) := by
  have hc : charB ((128 + j : Nat) : Int) = true := (charB_iff _).2 ⟨by omega, by omega, by omega⟩
  rw [numF, numC_good (by omega) hc, if_pos (by omega), Int.toNat_natCast, Nat.add_sub_cancel_left]
theorem numF_else {n : Nat} (hn : n ≠ 0) (hc : charB n = true) (h : ¬ (128 ≤ n ∧ n < 160)) : numF n = encF n := by
  rw [numF, numC_good (by omega) hc, if_neg (by omega), Int.toNat_natCast]
theorem encR_num {n : Int} (hn : n ≠ 0) (h : ¬ (128 ≤ n ∧ n < 160)) : encR n = numF n := by
  cases hc : charB n
  · rw [numF_bad (.inr hc), encR, hc]; rfl
  · rw [encR, if_pos hc, numF, numC_good hn hc, if_neg h]
theorem flat_one (r : Int) : [r].flatMap encR = encR r := by simp
theorem ret_strB {a b : Str} (h : a = b) : Ending.returned (.string (strB a)) = .returned (.string (strB b)) := by rw [h]
theorem Enc_one (r : Int) (g : Nat) (c : Nat) (w : World) (hr : -2147483648 ≤ r ∧ r ≤ 2147483647) (ha : At w (some ⟨g, 0, none⟩) [.int .i32 r]) :
    Calls Try.prog 82 #[.slice (some ⟨g, 0, none⟩) 1 c] w fun e w' => e = .returned (.string (strB (encR r))) ∧ Below w.heap.size w w' :=
  (Encode_any [r] _ c w (by simp) (fun q hq => by rw [show q = r from by simpa using hq]; exact hr) ha).mono fun e w' ⟨h1, h2⟩ => ⟨by rw [h1, flat_one], h2⟩

set_option maxRecDepth 100000 in
set_option maxHeartbeats 1000000 in
theorem Number_any (n : Int) (w : World) (h0 : -9223372036854775808 ≤ n) (h1 : n ≤ 9223372036854775807) : Calls Try.prog 63 #[.int .i64 n] w fun e w' => e = .returned (.string (strB (numF n))) ∧ Below w.heap.size w w' := by
  by_cases ha : n = 0 ∨ n < 0 ∨ 1114111 < n
  · have hN : Hid (numF n = encR 65533) := by
      show _ = _
      rw [numF_bad]
      · rfl
      · rcases ha with h | h
        · exact .inl h
        · refine .inr ?_
          cases hc : charB n
          · rfl
          · obtain ⟨_, _, _⟩ := (charB_iff n).1 hc; omega
    have hat := at_alloc (w := w) (cur := #[.int .i32 65533]) (e := 21) rfl rfl
    have HE := Lib.hid (Enc_one 65533 w.heap.size 1 _ (by omega) hat)
    have HB := Lib.hid ((Below.refl _ w).alloc (Nat.le_refl _) (.cells #[.int .i32 65533] 21))
    clear hat
    rcases ha with h | h | h
    · have h' : (n == 0) = true := by simpa using h
      clear h
      go_enter Try.func63, Try.ntmps63
      go_wp2_with (go_at_call 82; go_must (refine HE.out.mono ?_; rintro e w1 ⟨rfl, hb⟩; have HB1 := Lib.hid hb; clear hb))
      go_ret
      exact ⟨ret_strB hN.out.symm, belowCall HB.out HB1.out⟩
    · have h' : (n == 0) = false := by simpa using (show n ≠ 0 from by omega)
      go_enter Try.func63, Try.ntmps63
      go_wp2_with (go_at_call 82; go_must (refine HE.out.mono ?_; rintro e w1 ⟨rfl, hb⟩; have HB1 := Lib.hid hb; clear hb))
      go_ret
      exact ⟨ret_strB hN.out.symm, belowCall HB.out HB1.out⟩
    · have h' : (n == 0) = false := by simpa using (show n ≠ 0 from by omega)
      have h2 : ¬ n < 0 := by omega
      go_enter Try.func63, Try.ntmps63
      go_wp2_with (go_at_call 82; go_must (refine HE.out.mono ?_; rintro e w1 ⟨rfl, hb⟩; have HB1 := Lib.hid hb; clear hb))
      go_ret
      exact ⟨ret_strB hN.out.symm, belowCall HB.out HB1.out⟩
  · have h' : (n == 0) = false := by simpa using (show n ≠ 0 from by omega)
    have hb1 : ¬ n < 0 := by omega
    have hb2 : ¬ n > 1114111 := by omega
    obtain ⟨k, rfl⟩ := Int.eq_ofNat_of_zero_le (by omega : 0 ≤ n)
    by_cases hk : 128 ≤ k ∧ k < 160
    · obtain ⟨hk1, hk2⟩ := hk
      obtain ⟨j, hkj⟩ : ∃ j, k = 128 + j := ⟨k - 128, by omega⟩
      have hj : j < 32 := by omega
      obtain ⟨c1, c2⟩ := odd_char j hj
      have hN : Hid (numF (k : Int) = encR (oddT.getD j 0 : Nat)) := by
        show _ = _
        rw [hkj, numF_odd hj, encR, if_pos c1]; rfl
      obtain ⟨q, hq⟩ : ∃ q, q = oddT.getD j 0 := ⟨_, rfl⟩
      have h9 : char9 k = q := by rw [char9, if_pos (by omega), hkj, Nat.add_sub_cancel_left, hq]
      rw [← hq] at hN c2
      have HL := Lib.hid (LChar_any k (by omega) w)
      rw [h9] at HL
      have HE := Lib.hid (fun u => Enc_one (q : Nat) (World.heap u).size 1 _ (by omega) (at_alloc (w := u) (cur := #[.int .i32 (q : Nat)]) (e := 21) rfl rfl))
      clear hq h9 ha c1 hkj hj
      have hge : (k : Int) ≥ 128 := by omega
      have hlt : (k : Int) < 160 := by omega
      go_enter Try.func63, Try.ntmps63
      go_wp2_with (first
        | (go_at_call 81; go_must (refine HL.out.mono ?_; rintro e w1 ⟨rfl, hb⟩; have HB0 := Lib.hid hb; clear hb))
        | (go_at_call 82; go_must (refine (HE.out _).mono ?_; rintro e w2 ⟨rfl, hb⟩; have HB1 := Lib.hid hb; clear hb)))
      go_ret
      exact ⟨ret_strB hN.out.symm, belowCall HB0.out (belowCall ((Below.refl _ _).alloc (Nat.le_refl _) _) HB1.out)⟩
    · have hN := Lib.hid (encR_num (n := (k : Int)) (by omega) (by omega))
      have HE := Lib.hid (fun u => Enc_one (k : Nat) (World.heap u).size 1 _ (by omega) (at_alloc (w := u) (cur := #[.int .i32 (k : Nat)]) (e := 21) rfl rfl))
      clear ha
      by_cases hk1 : 128 ≤ k
      · have hge : (k : Int) ≥ 128 := by omega
        have hlt : ¬ (k : Int) < 160 := by omega
        clear hk
        go_enter Try.func63, Try.ntmps63
        go_wp2_with (first
          | (go_at_call 82; go_must (refine (HE.out _).mono ?_; rintro e w2 ⟨rfl, hb⟩; have HB1 := Lib.hid hb; clear hb)))
        go_ret
        exact ⟨ret_strB hN.out, belowCall ((Below.refl _ _).alloc (Nat.le_refl _) _) HB1.out⟩
      · have hge : ¬ (k : Int) ≥ 128 := by omega
        clear hk
        go_enter Try.func63, Try.ntmps63
        go_wp2_with (first
          | (go_at_call 82; go_must (refine (HE.out _).mono ?_; rintro e w2 ⟨rfl, hb⟩; have HB1 := Lib.hid hb; clear hb)))
        go_ret
        exact ⟨ret_strB hN.out, belowCall ((Below.refl _ _).alloc (Nat.le_refl _) _) HB1.out⟩

end Go.Proofs.Ytbabcohidpcjjaa
