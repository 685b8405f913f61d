/-
  Contracts: the document's utf8: size, least, begins.
-/
import Derived.Test.YtcgkenmgglediaaDoorRefsE
import Derived.Test.YtcgkenmgglediaaDoorRefsJ
namespace Go.Proofs.YtcgkenmgglediaaDoor
open Go.RowKit Mem

def sizeF (c : Nat) : Nat × Nat := if c < 128 then (1, c) else if 192 ≤ c ∧ c < 224 then (2, c - 192) else if 224 ≤ c ∧ c < 240 then (3, c - 224) else if 240 ≤ c ∧ c < 248 then (4, c - 240) else (0, 0)
def tailF : Nat → Str → Nat → Option Nat
  | 0, _, v => some v
  | _ + 1, [], _ => none
  | m + 1, c :: r, v => if c.toNat < 128 ∨ 191 < c.toNat then none else tailF m r (v * 64 + c.toNat - 128)
def leastF (n : Nat) : Nat := if n = 2 then 128 else if n = 3 then 2048 else if n = 4 then 65536 else 0
def someF (n m v : Nat) : Bool := decide (max (v * 64 ^ m) (leastF n) ≤ min ((v + 1) * 64 ^ m - 1) 1114111) && !(decide (55296 ≤ max (v * 64 ^ m) (leastF n)) && decide (min ((v + 1) * 64 ^ m - 1) 1114111 ≤ 57343))
def beginF (l : Str) (k : Nat) : Bool × Nat × Nat :=
  match l with
  | [] => (false, 0, 0)
  | c :: r =>
    if (sizeF c.toNat).1 = 0 ∨ (sizeF c.toNat).1 < k ∨ l.length < k then (false, 0, 0) else
    match tailF (k - 1) r (sizeF c.toNat).2 with
    | none => (false, 0, 0)
    | some v => (someF (sizeF c.toNat).1 ((sizeF c.toNat).1 - k) v, (sizeF c.toNat).1, v)

theorem ret_b3 {b B : Bool} {x y z : Int} (h : b = B) (h2 : x = y) : Ending.returned (.tuple #[.bool b, .int .i64 x, .int .i64 z]) = .returned (.tuple #[.bool B, .int .i64 y, .int .i64 z]) := by rw [h, h2]
theorem size_any (c : Nat) (hc : c < 256) (w : World) : Calls Tryd.prog 70 #[.int .u8 c] w fun e w' => e = .returned (.tuple #[.int .i64 (sizeF c).1, .int .i64 (sizeF c).2]) ∧ w = w' := by
  have H : ∀ n v : Nat, sizeF c = (n, v) → ∀ e : Ending, ∀ w' : World, (e = .returned (.tuple #[.int .i64 n, .int .i64 v]) ∧ w = w') → (e = .returned (.tuple #[.int .i64 (sizeF c).1, .int .i64 (sizeF c).2]) ∧ w = w') := fun n v h e w' h' => by rw [h]; exact h'
  by_cases h1 : c < 128
  · have h1' : (c : Int) < 128 := by omega
    refine Calls.mono ?_ (H 1 c (by unfold sizeF; rw [if_pos h1]))
    clear H
    go_enter Tryd.func70, Tryd.ntmps70
    go_wp2_with fail
    go_ret2
    exact ⟨rfl, rfl⟩
  · by_cases h2 : 192 ≤ c ∧ c < 224
    · have h1' : ¬ (c : Int) < 128 := by omega
      have h2' : (192 : Int) ≤ (c : Int) := by omega
      have h3' : (c : Int) < 224 := by omega
      refine Calls.mono ?_ (H 2 (c - 192) (by unfold sizeF; rw [if_neg h1, if_pos h2]))
      clear H
      have hs : ((c - 192 : Nat) : Int) = (c : Int) - 192 := by omega
      go_enter Tryd.func70, Tryd.ntmps70
      go_wp2_with fail
      go_ret2
      exact ⟨rfl, rfl⟩
    · by_cases h3 : 224 ≤ c ∧ c < 240
      · have h1' : ¬ (c : Int) < 128 := by omega
        have h2' : (192 : Int) ≤ (c : Int) := by omega
        have h3' : ¬ (c : Int) < 224 := by omega
        have h4' : (224 : Int) ≤ (c : Int) := by omega
        have h5' : (c : Int) < 240 := by omega
        refine Calls.mono ?_ (H 3 (c - 224) (by unfold sizeF; rw [if_neg h1, if_neg h2, if_pos h3]))
        clear H
        have hs : ((c - 224 : Nat) : Int) = (c : Int) - 224 := by omega
        go_enter Tryd.func70, Tryd.ntmps70
        go_wp2_with fail
        go_ret2
        exact ⟨rfl, rfl⟩
      · by_cases h4 : 240 ≤ c ∧ c < 248
        · have h1' : ¬ (c : Int) < 128 := by omega
          have h2' : (192 : Int) ≤ (c : Int) := by omega
          have h3' : ¬ (c : Int) < 224 := by omega
          have h4' : (224 : Int) ≤ (c : Int) := by omega
          have h5' : ¬ (c : Int) < 240 := by omega
          have h6' : (240 : Int) ≤ (c : Int) := by omega
          have h7' : (c : Int) < 248 := by omega
          refine Calls.mono ?_ (H 4 (c - 240) (by unfold sizeF; rw [if_neg h1, if_neg h2, if_neg h3, if_pos h4]))
          clear H
          have hs : ((c - 240 : Nat) : Int) = (c : Int) - 240 := by omega
          go_enter Tryd.func70, Tryd.ntmps70
          go_wp2_with fail
          go_ret2
          exact ⟨rfl, rfl⟩
        · have h1' : ¬ (c : Int) < 128 := by omega
          refine Calls.mono ?_ (H 0 0 (by unfold sizeF; rw [if_neg h1, if_neg h2, if_neg h3, if_neg h4]))
          clear H
          rcases (show c < 192 ∨ 248 ≤ c from by omega) with h | h
          · have h2' : ¬ (192 : Int) ≤ (c : Int) := by omega
            have h4' : ¬ (224 : Int) ≤ (c : Int) := by omega
            have h6' : ¬ (240 : Int) ≤ (c : Int) := by omega
            go_enter Tryd.func70, Tryd.ntmps70
            go_wp2_with fail
            go_ret2
            exact ⟨rfl, rfl⟩
          · have h2' : (192 : Int) ≤ (c : Int) := by omega
            have h4' : (224 : Int) ≤ (c : Int) := by omega
            have h6' : (240 : Int) ≤ (c : Int) := by omega
            have h7' : ¬ (c : Int) < 224 := by omega
            have h8' : ¬ (c : Int) < 240 := by omega
            have h9' : ¬ (c : Int) < 248 := by omega
            go_enter Tryd.func70, Tryd.ntmps70
            go_wp2_with fail
            go_ret2
            exact ⟨rfl, rfl⟩

theorem least_any (n : Nat) (hn : n ≤ 4) (w : World) : Calls Tryd.prog 71 #[.int .i64 n] w fun e w' => e = .returned (.int .i64 (leastF n)) ∧ w = w' := by
  rcases (show n = 0 ∨ n = 1 ∨ n = 2 ∨ n = 3 ∨ n = 4 from by omega) with rfl | rfl | rfl | rfl | rfl
  all_goals
    go_enter Tryd.func71, Tryd.ntmps71
    go_wp2_with fail
    go_ret
    exact ⟨rfl, rfl⟩
theorem sizeF_small (c : Nat) : (sizeF c).1 ≤ 4 ∧ (sizeF c).2 < 128 := by
  unfold sizeF
  repeat' split
  all_goals (simp; try omega)

set_option maxRecDepth 100000 in
set_option maxHeartbeats 4000000 in
theorem beg08_any (l : Str) (a : Option Addr) (cp i k : Nat) (w : World) (hl : l.length ≤ 1099511627776) (hi : i < l.length) (hk : 1 ≤ k ∧ k ≤ 4) (ha : At w a (bytesV l)) :
    Calls Tryd.prog 60 #[.slice a l.length cp, .int .i64 i, .int .i64 k] w fun e w' =>
      e = .returned (.tuple #[.bool (beginF (l.drop i) k).1, .int .i64 (beginF (l.drop i) k).2.1, .int .i64 (beginF (l.drop i) k).2.2]) ∧ w = w' := by
  obtain ⟨b, o, rfl⟩ := ha.some_of (by intro h; have := congrArg List.length h; rw [bytesV_length, List.length_nil] at this; omega)
  have hd : l.drop i = l[i] :: l.drop (i + 1) := List.drop_eq_getElem_cons hi
  have hci := ha.get (bytesV_get l i hi)
  have h256 : (l[i]).toNat < 256 := by have := l[i].toNat_lt; simpa using this
  have HS := Lib.hid (fun u => size_any (l[i]).toNat h256 u)
  obtain ⟨hs4, hv128⟩ := sizeF_small (l[i]).toNat
  have hbe : beginF (l.drop i) k = if (sizeF (l[i]).toNat).1 = 0 ∨ (sizeF (l[i]).toNat).1 < k ∨ l.length - i < k then (false, 0, 0) else
      match tailF (k - 1) (l.drop (i + 1)) (sizeF (l[i]).toNat).2 with
      | none => (false, 0, 0)
      | some v => (someF (sizeF (l[i]).toNat).1 ((sizeF (l[i]).toNat).1 - k) v, (sizeF (l[i]).toNat).1, v) := by
    have hlen : (l[i] :: l.drop (i + 1)).length = l.length - i := by rw [← hd, List.length_drop]
    rw [hd, beginF, hlen]
  obtain ⟨n, v, hnv⟩ : ∃ n v, sizeF (l[i]).toNat = (n, v) := ⟨_, _, rfl⟩
  rw [hnv] at HS hs4 hv128 hbe
  simp only at hs4 hv128 hbe
  have HA := Lib.hid ha
  by_cases hbad : n = 0 ∨ n < k ∨ l.length - i < k
  · rw [if_pos hbad] at hbe
    have HBE := Lib.hid hbe
    clear hbe ha hd hnv
    have hb' : (n : Int) = 0 ∨ ((n : Int) == 0) = false ∧ ((n : Int) < (k : Int) ∨ ¬ (n : Int) < (k : Int) ∧ (l.length : Int) < (i : Int) + (k : Int)) := by
      rcases Nat.eq_zero_or_pos n with h | h
      · exact .inl (by omega)
      · exact .inr ⟨by rw [beq_eq_false_iff_ne]; omega, by omega⟩
    clear hbad
    rcases hb' with h | ⟨h, h2 | ⟨h2, h3⟩⟩
    · obtain rfl : n = 0 := by omega
      go_enter Tryd.func60, Tryd.ntmps60
      go_wp2_with (go_at_call 70; go_must (refine (HS.out _).mono ?_; rintro e w1 ⟨rfl, rfl⟩))
      go_ret3
      rw [HBE.out]
      exact ⟨rfl, rfl⟩
    · go_enter Tryd.func60, Tryd.ntmps60
      go_wp2_with (go_at_call 70; go_must (refine (HS.out _).mono ?_; rintro e w1 ⟨rfl, rfl⟩))
      go_ret3
      rw [HBE.out]
      exact ⟨rfl, rfl⟩
    · go_enter Tryd.func60, Tryd.ntmps60
      go_wp2_with (go_at_call 70; go_must (refine (HS.out _).mono ?_; rintro e w1 ⟨rfl, rfl⟩))
      go_ret3
      rw [HBE.out]
      exact ⟨rfl, rfl⟩
  · rw [if_neg hbad] at hbe
    have HBE := Lib.hid hbe
    have h0 : ((n : Int) == 0) = false := by rw [beq_eq_false_iff_ne]; omega
    have h1 : ¬ (n : Int) < (k : Int) := by omega
    have h2 : ¬ (l.length : Int) < (i : Int) + (k : Int) := by omega
    have hn0 : 1 ≤ n := by omega
    have hkn : k ≤ n := by omega
    have hik : i + k ≤ l.length := by omega
    clear hbe ha hd hnv hbad
    go_enter Tryd.func60, Tryd.ntmps60
    go_wp2_with (go_at_call 70; go_must (refine (HS.out _).mono ?_; rintro e w1 ⟨rfl, rfl⟩))
    go_loop [10, 11] (fun x j => ∃ v' j' : Nat, x = .int .i64 v' ∧ j = .int .i64 j' ∧ 1 ≤ j' ∧ j' ≤ k ∧ v' < 128 * 64 ^ (j' - 1) ∧ tailF (k - 1) (l.drop (i + 1)) v = tailF (k - j') (l.drop (i + j')) v') (fun _ j => k - (intOf j).toNat)
    case atStart => exact ⟨v, 1, rfl, rfl, Nat.le_refl _, hk.1, by simpa using hv128, rfl⟩
    case round =>
      obtain ⟨v', j, rfl, rfl, hj1, hjk, hvb, ht⟩ := hrel
      by_cases hlt : j < k
      · have hij : i + j < l.length := by omega
        have hcj := HA.out.get (bytesV_get l (i + j) hij)
        have hdj : l.drop (i + j) = l[i + j] :: l.drop (i + j + 1) := List.drop_eq_getElem_cons hij
        have h2 : v' < 524288 := by
          have hp : 64 ^ (j - 1) ≤ 4096 := by
            have : (64 : Nat) ^ (j - 1) ≤ 64 ^ 2 := Nat.pow_le_pow_right (by decide) (by omega)
            simpa using this
          have := Nat.mul_le_mul_left 128 hp
          omega
        have hstep : tailF (k - j) (l.drop (i + j)) v' = if (l[i + j]).toNat < 128 ∨ 191 < (l[i + j]).toNat then none else tailF (k - (j + 1)) (l.drop (i + (j + 1))) (v' * 64 + (l[i + j]).toNat - 128) := by
          rw [hdj, show k - j = (k - (j + 1)) + 1 from by omega, tailF]; rfl
        rw [hstep] at ht
        have hpow : 128 * 64 ^ j = (128 * 64 ^ (j - 1)) * 64 := by
          rw [Nat.mul_assoc, ← Nat.pow_succ, show (j - 1).succ = j from by omega]
        generalize (l[i + j]).toNat = c at *
        by_cases hc1 : c < 128
        · have q1 : (c : Int) < 128 := by omega
          rw [if_pos (.inl hc1)] at ht
          have HT := Lib.hid ht
          clear ht hstep hdj hpow hvb
          go_wp2_with fail
          go_ret3
          rw [HBE.out, HT.out]
          exact ⟨rfl, rfl⟩
        · by_cases hc2 : 191 < c
          · have q1 : ¬ (c : Int) < 128 := by omega
            have q2 : (191 : Int) < (c : Int) := by omega
            rw [if_pos (.inr hc2)] at ht
            have HT := Lib.hid ht
            clear ht hstep hdj hpow hvb
            go_wp2_with fail
            go_ret3
            rw [HBE.out, HT.out]
            exact ⟨rfl, rfl⟩
          · have q1 : ¬ (c : Int) < 128 := by omega
            have q2 : ¬ (191 : Int) < (c : Int) := by omega
            rw [if_neg (by omega)] at ht
            have HT := Lib.hid ht
            have HV : Hid (v' * 64 + c - 128 < 128 * 64 ^ j) := Lib.hid (by rw [hpow]; omega)
            clear ht hstep hdj hpow hvb
            go_wp2_with fail
            go_round
            case rel => exact ⟨v' * 64 + c - 128, j + 1, by go_num, by go_num, by omega, by omega, by rw [Nat.add_sub_cancel]; exact HV.out, HT.out⟩
            case measure => simp [intOf]; omega
      · obtain rfl : j = k := by omega
        rw [Nat.sub_self, tailF] at ht
        rw [ht] at HBE
        have HV := Lib.hid hvb
        clear ht hvb
        go_wp2_with fail
        have hv1 : v' + 1 ≤ 128 * 64 ^ (j - 1) := HV.out
        have HLE := Lib.hid (fun u => least_any n hs4 u)
        clear HV hci HA
        go_loop [12, 13, 14] (fun lo hi q => ∃ m X Y : Nat, j + m ≤ n ∧ X = v' * 64 ^ m ∧ Y = (v' + 1) * 64 ^ m ∧ lo = .int .i64 X ∧ hi = .int .i64 ((Y : Int) - 1) ∧ q = .int .i64 (j + m : Nat)) (fun _ _ q => n - (intOf q).toNat)
        case atStart => exact ⟨0, v', v' + 1, by omega, by simp, by simp, rfl, by go_num, rfl⟩
        case round =>
          obtain ⟨m, X, Y, hm, hX, hY, rfl, rfl, rfl⟩ := hrel
          have hYb : Y ≤ 33554432 := by
            have h1 : (v' + 1) * 64 ^ m ≤ (128 * 64 ^ (j - 1)) * 64 ^ m := Nat.mul_le_mul_right _ hv1
            rw [Nat.mul_assoc, ← Nat.pow_add] at h1
            have h2 : (64 : Nat) ^ (j - 1 + m) ≤ 64 ^ 3 := Nat.pow_le_pow_right (by decide) (by omega)
            have h3 := Nat.mul_le_mul_left 128 h2
            rw [hY]
            have e : (128 : Nat) * 64 ^ 3 = 33554432 := by decide
            omega
          have hY1 : 1 ≤ Y := by rw [hY]; exact Nat.mul_pos (by omega) (Nat.pow_pos (by decide))
          have hXY : X < Y := by rw [hX, hY, Nat.succ_mul]; have := Nat.pow_pos (n := m) (show 0 < 64 by decide); omega
          by_cases hlt2 : j + m < n
          · have HX := Lib.hid (show X * 64 = v' * 64 ^ (m + 1) by rw [hX, Nat.pow_succ, Nat.mul_assoc])
            have HY := Lib.hid (show Y * 64 = (v' + 1) * 64 ^ (m + 1) by rw [hY, Nat.pow_succ, Nat.mul_assoc])
            have hlt3 : ((j + m : Nat) : Int) < (n : Int) := by omega
            clear hX hY
            go_wp2_with fail
            go_round
            case rel => exact ⟨m + 1, X * 64, Y * 64, by omega, HX.out, HY.out, by go_num, by go_num, by go_num⟩
            case measure => simp [intOf]; omega
          · obtain rfl : n = j + m := by omega
            rw [Nat.add_sub_cancel_left, someF, ← hX, ← hY] at HBE
            clear hX hY hlt2
            go_wp2_with (go_at_call 71; go_must (refine (HLE.out _).mono ?_; rintro e w2 ⟨rfl, rfl⟩))
            all_goals
              go_ret3
              rw [HBE.out]
              refine ⟨ret_b3 ?_ ?_, rfl⟩
              · rw [Bool.eq_iff_iff]
                simp only [Bool.and_eq_true, Bool.not_eq_true', Bool.and_eq_false_iff, decide_eq_true_eq, decide_eq_false_iff_not, true_iff, false_iff, Bool.false_eq_true]
                omega
              · show _ = ((j + m : Nat) : Int); omega
end Go.Proofs.YtcgkenmgglediaaDoor
