/-
  Contract: colanderref12.Take: the reference at the front.
-/
import Derived.Test.YtcgkenmgglediaaDoorRefsM
import Derived.Test.YtcgkenmgglediaaDoorRefsK
namespace Go.Proofs.YtcgkenmgglediaaDoor
open Go.RowKit Mem

theorem numF_min {v g : Nat} (h : min v 1114112 = g) : numF (v : Nat) = numF (g : Nat) := by
  by_cases hv : v ≤ 1114111
  · rw [show g = v from by omega]
  · have bad : ∀ n : Nat, 1114111 < n → numF (n : Nat) = encF 0xfffd := fun n hn => numF_bad (.inr (by
      cases hc : charB (n : Nat)
      · rfl
      · obtain ⟨_, _, _⟩ := (charB_iff _).1 hc; omega))
    rw [bad v (by omega), bad g (by omega)]
theorem pre59 (l : Str) : ([59] : Str).isPrefixOf l = (l.head? == some 59) := by
  cases l with
  | nil => rfl
  | cons c r =>
    rw [Bool.eq_iff_iff, List.isPrefixOf_iff_prefix]
    simp only [List.cons_prefix_cons, List.nil_prefix, and_true, List.head?_cons, beq_iff_eq, Option.some.injEq]
    exact ⟨fun h => h.symm, fun h => h.symm⟩
theorem ext_drop (s : ByteArray) (a : Nat) : (s.extract a s.size).toList = s.toList.drop a := by
  rw [ext_list, List.take_of_length_le (by rw [List.length_drop, size_toList]; omega)]
theorem b59 : (⟨#[59]⟩ : ByteArray).toList = [59] := by rw [ByteArray.toList_eq]
theorem beg12 {s p : ByteArray} {b : Bool} (h : p.toList.isPrefixOf s.toList = b) (u : World) : Calls Tryd.prog 33 #[.string s, .string p] u fun e w' => e = .returned (.bool b) ∧ u = w' := by
  have := begins12_any s p u
  rwa [h] at this

set_option maxRecDepth 100000 in
set_option maxHeartbeats 4000000 in
theorem Take12_hash (s : ByteArray) (r : Str) (attr : Bool) (w : World) (hs : s.size ≤ 9223372036854775807) (h : s.toList = 38 :: 35 :: r) : Calls Tryd.prog 18 #[.string s, .bool attr] w fun e w' =>
    e = .returned (.tuple #[.string (strB (takeF s.toList attr).1), .int .i64 (takeF s.toList attr).2]) ∧ Below w.heap.size w w' := by
  have HT : Hid (takeF s.toList attr = takeNum r) := by show _ = _; rw [h, takeF_hash]
  have HC := Lib.hid (fun u => beg12 (s := s) (p := ⟨#[38, 35]⟩) (b := true) (by rw [h, b3835]; simp) u)
  have hrs : r.length + 2 = s.size := by rw [← size_toList, h]; simp
  have hrl : (s.extract 2 s.size).toList = r := by rw [ext_drop, h]; rfl
  have hrun := fun u => run_any (s.extract 2 s.size) u (by rw [ByteArray.size_extract]; omega)
  rw [hrl] at hrun
  have hle := numN_le r
  obtain ⟨n, hn⟩ : ∃ n, n = numN r := ⟨_, rfl⟩
  obtain ⟨k, hk⟩ : ∃ k, k = (numG r).1 := ⟨_, rfl⟩
  rw [← hn, ← hk] at hrun
  have HRun := Lib.hid hrun
  have hnr : n + 2 ≤ s.size := by omega
  by_cases hc : k = 0
  · have HR := Lib.hid (takeNum_no (r := r) (by omega))
    have hc' : ((k : Nat) : Int) = 0 := by omega
    rw [hc'] at HRun
    clear h hrs hrl hle hn hk hc hc' hrun
    go_enter Tryd.func18, Tryd.ntmps18
    go_wp2_with (first
      | (go_at_call 33; go_must (refine (HC.out _).mono ?_); rintro e w1 ⟨rfl, rfl⟩)
      | (go_at_call 40; go_must (refine (HRun.out _).mono ?_; rintro e w1 ⟨v, rfl, hv1, hv2, hb⟩; have HB0 := Lib.hid hb; have HV1 := Lib.hid hv1; have HX := Lib.hid (fun u => Number12_any (v : Nat) u (by omega) (by omega)); clear hb hv1)))
    go_ret2
    exact ⟨ret2_str (by rw [HT.out, HR.out]; rfl) (by rw [HT.out, HR.out]; rfl), HB0.out⟩
  · have hx : (s.extract (2 + n) s.size).toList = r.drop n := by rw [ext_drop, h, Nat.add_comm 2 n]; rfl
    have hk0 : (numG r).1 ≠ 0 := by omega
    have hkz : (((k : Nat) : Int) == 0) = false := by rw [beq_eq_false_iff_ne]; omega
    cases h59 : ((r.drop n).head? == some 59)
    · have HC2 := Lib.hid (fun u => beg12 (s := s.extract (2 + n) s.size) (p := ⟨#[59]⟩) (b := false) (by rw [hx, b59, pre59, h59]) u)
      have HR := Lib.hid (takeNum_open hk0 (by rw [← hn]; simpa using h59))
      rw [← hn] at HR
      clear h hrs hrl hle hn hk hc hrun hx hk0 h59
      go_enter Tryd.func18, Tryd.ntmps18
      go_wp2_with (first
        | (go_at_call 33; go_must (first | (with_reducible refine (HC.out _).mono ?_) | (with_reducible refine (HC2.out _).mono ?_)); rintro e w1 ⟨rfl, rfl⟩)
        | (go_at_call 40; go_must (refine (HRun.out _).mono ?_; rintro e w1 ⟨v, rfl, hv1, hv2, hb⟩; have HB0 := Lib.hid hb; have HV1 := Lib.hid hv1; have HX := Lib.hid (fun u => Number12_any (v : Nat) u (by omega) (by omega)); clear hb hv1))
        | (go_at_call 16; go_must (refine (HX.out _).mono ?_; rintro e w2 ⟨rfl, hb⟩; have HB := Lib.hid hb; clear hb)))
      go_ret2
      exact ⟨ret2_str (by rw [HT.out, HR.out, numF_min HV1.out]) (by rw [HT.out, HR.out]; show _ = ((n + 2 : Nat) : Int); omega), belowCall HB0.out HB.out⟩
    · have HC2 := Lib.hid (fun u => beg12 (s := s.extract (2 + n) s.size) (p := ⟨#[59]⟩) (b := true) (by rw [hx, b59, pre59, h59]) u)
      have hnr3 : n + 3 ≤ s.size := by
        have : n < r.length := by
          rcases Nat.lt_or_ge n r.length with h' | h'
          · exact h'
          · rw [List.drop_of_length_le h'] at h59; cases h59
        omega
      have HR := Lib.hid (takeNum_semi hk0 (by rw [← hn]; simpa using h59))
      rw [← hn] at HR
      clear h hrs hrl hle hn hk hc hrun hx hk0 h59
      go_enter Tryd.func18, Tryd.ntmps18
      go_wp2_with (first
        | (go_at_call 33; go_must (first | (with_reducible refine (HC.out _).mono ?_) | (with_reducible refine (HC2.out _).mono ?_)); rintro e w1 ⟨rfl, rfl⟩)
        | (go_at_call 40; go_must (refine (HRun.out _).mono ?_; rintro e w1 ⟨v, rfl, hv1, hv2, hb⟩; have HB0 := Lib.hid hb; have HV1 := Lib.hid hv1; have HX := Lib.hid (fun u => Number12_any (v : Nat) u (by omega) (by omega)); clear hb hv1))
        | (go_at_call 16; go_must (refine (HX.out _).mono ?_; rintro e w2 ⟨rfl, hb⟩; have HB := Lib.hid hb; clear hb)))
      go_ret2
      exact ⟨ret2_str (by rw [HT.out, HR.out, numF_min HV1.out]) (by rw [HT.out, HR.out]; show _ = ((n + 1 + 2 : Nat) : Int); omega), belowCall HB0.out HB.out⟩

theorem wordN_small (n : Nat) : wordN n = (decide (97 ≤ smallI n) && decide (smallI n ≤ 122) || decide (48 ≤ smallI n) && decide (smallI n ≤ 57) || (smallI n == 61)) := by
  rw [smallI_nat, Bool.eq_iff_iff]
  unfold wordN smallN
  simp only [Bool.or_eq_true, Bool.and_eq_true, decide_eq_true_eq, beq_iff_eq]
  split <;> omega
set_option maxRecDepth 100000 in
set_option maxHeartbeats 8000000 in
theorem Take12_name (s : ByteArray) (r : Str) (attr : Bool) (w : World) (hs : s.size ≤ 9223372036854775807) (h : s.toList = 38 :: r) (h35 : r.head? ≠ some 35) : Calls Tryd.prog 18 #[.string s, .bool attr] w fun e w' =>
    e = .returned (.tuple #[.string (strB (takeF s.toList attr).1), .int .i64 (takeF s.toList attr).2]) ∧ Below w.heap.size w w' := by
  have HT : Hid (takeF s.toList attr = takeName r attr) := by show _ = _; rw [h, takeF_amp h35]
  have HC := Lib.hid (fun u => beg12 (s := s) (p := ⟨#[38, 35]⟩) (b := false) (by rw [h, b3835]; exact pre2_no h35) u)
  have HC2 := Lib.hid (fun u => beg12 (s := s) (p := ⟨#[38]⟩) (b := true) (by rw [h, b38]; simp) u)
  have hrs : r.length + 1 = s.size := by rw [← size_toList, h]; simp
  have hrl : (s.extract 1 s.size).toList = r := by rw [ext_drop, h]; rfl
  have hs1 : 1 ≤ s.size := by omega
  have hf := fun u => Find12_any (s.extract 1 s.size) u
  have hle := findF_le r
  rw [hrl] at hf
  obtain ⟨t, ht⟩ : ∃ t, t = strB (findF r).1 := ⟨_, rfl⟩
  rw [← ht] at hf
  have HFT := Lib.hid ht
  cases hn : (findF r).2 with
  | zero =>
    have HR := Lib.hid (takeName_no (attr := attr) (refused_zero hn))
    rw [hn] at hf
    have HF := Lib.hid hf
    clear h hrs hrl hle hn hf ht h35
    go_enter Tryd.func18, Tryd.ntmps18
    go_wp2_with (first
      | (go_at_call 33; go_must (first | (with_reducible refine (HC.out _).mono ?_) | (with_reducible refine (HC2.out _).mono ?_)); rintro e w1 ⟨rfl, rfl⟩)
      | (go_at_call 14; go_must (refine (HF.out _).mono ?_; rintro e w1 ⟨rfl, hb⟩; have HB := Lib.hid hb; clear hb)))
    go_ret2
    exact ⟨ret2_str (by rw [HT.out, HR.out]; rfl) (by rw [HT.out, HR.out]; rfl), HB.out⟩
  | succ m =>
    have hn0 : (findF r).2 ≠ 0 := by omega
    have hy := takeName_yes (r := r) (attr := attr)
    have hno := takeName_no (r := r) (attr := attr)
    rw [hn] at hf hle hy
    have hm : m + 1 < s.size := by omega
    have hlast : (r.take (findF r).2).getLast? = some s[m + 1] := by
      have h1 := last_byte s (m + 1) hm
      rw [h, List.take_succ_cons] at h1
      rw [hn, ← h1]
      rw [List.getLast?_cons]
      cases hr : (r.take (m + 1)).getLast? with
      | none =>
        have := List.getLast?_eq_none_iff.1 hr
        have := congrArg List.length this
        simp at this
        subst this
        simp at hrs
        omega
      | some c => rfl
    have HF : Hid (∀ u, Calls Tryd.prog 14 #[.string (s.extract 1 s.size)] u fun e w' => e = .returned (.tuple #[.string t, .int .i64 ((m : Int) + 1)]) ∧ Below u.heap.size u w') := by
      have e : ((m + 1 : Nat) : Int) = (m : Int) + 1 := by omega
      rw [e] at hf
      exact Lib.hid hf
    have hm1 : (m : Int) + 1 < (s.size : Int) := by omega
    have hmz : (((m : Int) + 1) == 0) = false := by rw [beq_eq_false_iff_ne]; omega
    cases attr
    · have HR := Lib.hid (hy (refused_plain hn0))
      clear h hrs hrl hle hn hf ht h35 hn0 hy hno hlast
      go_enter Tryd.func18, Tryd.ntmps18
      go_wp2_with (first
        | (go_at_call 33; go_must (first | (with_reducible refine (HC.out _).mono ?_) | (with_reducible refine (HC2.out _).mono ?_)); rintro e w1 ⟨rfl, rfl⟩)
        | (go_at_call 14; go_must (refine (HF.out _).mono ?_; rintro e w1 ⟨rfl, hb⟩; have HB := Lib.hid hb; clear hb)))
      go_ret2
      exact ⟨ret2_str (by rw [HT.out, HR.out, ← HFT.out]) (by rw [HT.out, HR.out]; show _ = ((m + 1 + 1 : Nat) : Int); omega), HB.out⟩
    · by_cases h59 : s[m + 1] = 59
      · have HR := Lib.hid (hy (refused_semi hn0 (by rw [hlast, h59])))
        have he : ((s[m + 1].toNat : Int) != 59) = false := byte_neq' h59
        clear h hrs hrl hle hn hf ht h35 hn0 hy hno hlast h59
        go_enter Tryd.func18, Tryd.ntmps18
        go_wp2_with (first
          | (go_at_call 33; go_must (first | (with_reducible refine (HC.out _).mono ?_) | (with_reducible refine (HC2.out _).mono ?_)); rintro e w1 ⟨rfl, rfl⟩)
          | (go_at_call 14; go_must (refine (HF.out _).mono ?_; rintro e w1 ⟨rfl, hb⟩; have HB := Lib.hid hb; clear hb)))
        go_ret2
        exact ⟨ret2_str (by rw [HT.out, HR.out, ← HFT.out]) (by rw [HT.out, HR.out]; show _ = ((m + 1 + 1 : Nat) : Int); omega), HB.out⟩
      · have he : ((s[m + 1].toNat : Int) != 59) = true := byte_neq h59
        by_cases hlt : m + 1 + 1 < s.size
        · have hhd := head_byte s (m + 1 + 1) hlt
          rw [h] at hhd
          have hu := s[m + 1 + 1].toNat_lt
          have hs9 := fun u => Small_any (s[m + 1 + 1].toNat : Nat) u (by omega) (by omega)
          have hrw := refused_word (d := s[m + 1 + 1]) hn0 hlast h59 (by rw [hn]; exact hhd)
          rw [wordB_nat, wordN_small] at hrw
          have hlt' : (s.size : Int) > (m : Int) + 1 + 1 := by omega
          have hb0 : 0 ≤ smallI (s[m + 1 + 1].toNat : Nat) ∧ smallI (s[m + 1 + 1].toNat : Nat) ≤ 255 := by rw [smallI_nat]; unfold smallN; split <;> omega
          obtain ⟨q, hq⟩ : ∃ q, q = smallI (s[m + 1 + 1].toNat : Nat) := ⟨_, rfl⟩
          rw [← hq] at hs9 hrw hb0
          obtain ⟨hb1, hb2⟩ := hb0
          have HS := Lib.hid hs9
          have HRW := Lib.hid hrw
          have HY := Lib.hid hy
          have HNO := Lib.hid hno
          have hq6 : (97 ≤ q ∧ q ≤ 122) ∨ (48 ≤ q ∧ q ≤ 57) ∨ q = 61 ∨ (q < 48) ∨ (57 < q ∧ q < 97 ∧ q ≠ 61) ∨ 122 < q := by omega
          clear h hrs hrl hle hn hf ht h35 hn0 hy hno hlast h59 hhd hu hs9 hrw hq
          rcases hq6 with ⟨c1, c2⟩ | ⟨c1, c2⟩ | c1 | c1 | ⟨c1, c2, c3⟩ | c1
          · have HR := Lib.hid (HNO.out (by rw [HRW.out]; simp [c1, c2]))
            go_enter Tryd.func18, Tryd.ntmps18
            go_wp2_with (first
              | (go_at_call 33; go_must (first | (with_reducible refine (HC.out _).mono ?_) | (with_reducible refine (HC2.out _).mono ?_)); rintro e w1 ⟨rfl, rfl⟩)
              | (go_at_call 14; go_must (refine (HF.out _).mono ?_; rintro e w1 ⟨rfl, hb⟩; have HB := Lib.hid hb; clear hb))
              | (go_at_call 41; go_must (refine (HS.out _).mono ?_; rintro e w1 ⟨rfl, rfl⟩)))
            go_ret2
            exact ⟨ret2_str (by rw [HT.out, HR.out]; rfl) (by rw [HT.out, HR.out]; rfl), HB.out⟩
          · have HR := Lib.hid (HNO.out (by rw [HRW.out]; simp [c1, c2]))
            go_enter Tryd.func18, Tryd.ntmps18
            go_wp2_with (first
              | (go_at_call 33; go_must (first | (with_reducible refine (HC.out _).mono ?_) | (with_reducible refine (HC2.out _).mono ?_)); rintro e w1 ⟨rfl, rfl⟩)
              | (go_at_call 14; go_must (refine (HF.out _).mono ?_; rintro e w1 ⟨rfl, hb⟩; have HB := Lib.hid hb; clear hb))
              | (go_at_call 41; go_must (refine (HS.out _).mono ?_; rintro e w1 ⟨rfl, rfl⟩)))
            go_ret2
            exact ⟨ret2_str (by rw [HT.out, HR.out]; rfl) (by rw [HT.out, HR.out]; rfl), HB.out⟩
          · have HR := Lib.hid (HNO.out (by rw [HRW.out]; simp [c1]))
            subst c1
            go_enter Tryd.func18, Tryd.ntmps18
            go_wp2_with (first
              | (go_at_call 33; go_must (first | (with_reducible refine (HC.out _).mono ?_) | (with_reducible refine (HC2.out _).mono ?_)); rintro e w1 ⟨rfl, rfl⟩)
              | (go_at_call 14; go_must (refine (HF.out _).mono ?_; rintro e w1 ⟨rfl, hb⟩; have HB := Lib.hid hb; clear hb))
              | (go_at_call 41; go_must (refine (HS.out _).mono ?_; rintro e w1 ⟨rfl, rfl⟩)))
            go_ret2
            exact ⟨ret2_str (by rw [HT.out, HR.out]; rfl) (by rw [HT.out, HR.out]; rfl), HB.out⟩
          all_goals
            have HR := Lib.hid (HY.out (by rw [HRW.out, Bool.eq_false_iff]; simp only [ne_eq, Bool.or_eq_true, Bool.and_eq_true, decide_eq_true_eq, beq_iff_eq]; omega))
            have h61 : (q == 61) = false := by rw [beq_eq_false_iff_ne]; omega
            try clear c3
            go_enter Tryd.func18, Tryd.ntmps18
            go_wp2_with (first
              | (go_at_call 33; go_must (first | (with_reducible refine (HC.out _).mono ?_) | (with_reducible refine (HC2.out _).mono ?_)); rintro e w1 ⟨rfl, rfl⟩)
              | (go_at_call 14; go_must (refine (HF.out _).mono ?_; rintro e w1 ⟨rfl, hb⟩; have HB := Lib.hid hb; clear hb))
              | (go_at_call 41; go_must (refine (HS.out _).mono ?_; rintro e w1 ⟨rfl, rfl⟩)))
            go_ret2
            exact ⟨ret2_str (by rw [HT.out, HR.out, ← HFT.out]) (by rw [HT.out, HR.out]; show _ = ((m + 1 + 1 : Nat) : Int); omega), HB.out⟩
        · have hhd := head_none s (m + 1 + 1) hlt
          rw [h] at hhd
          have HR := Lib.hid (hy (refused_end hn0 (by rw [hn]; exact hhd)))
          have hlt' : ¬ (s.size : Int) > (m : Int) + 1 + 1 := by omega
          clear h hrs hrl hle hn hf ht h35 hn0 hy hno hlast h59 hlt hhd
          go_enter Tryd.func18, Tryd.ntmps18
          go_wp2_with (first
            | (go_at_call 33; go_must (first | (with_reducible refine (HC.out _).mono ?_) | (with_reducible refine (HC2.out _).mono ?_)); rintro e w1 ⟨rfl, rfl⟩)
            | (go_at_call 14; go_must (refine (HF.out _).mono ?_; rintro e w1 ⟨rfl, hb⟩; have HB := Lib.hid hb; clear hb)))
          go_ret2
          exact ⟨ret2_str (by rw [HT.out, HR.out, ← HFT.out]) (by rw [HT.out, HR.out]; show _ = ((m + 1 + 1 : Nat) : Int); omega), HB.out⟩

theorem Take12_any (s : ByteArray) (attr : Bool) (w : World) (hs : s.size ≤ 9223372036854775807) : Calls Tryd.prog 18 #[.string s, .bool attr] w fun e w' =>
    e = .returned (.tuple #[.string (strB (takeF s.toList attr).1), .int .i64 (takeF s.toList attr).2]) ∧ Below w.heap.size w w' := by
  have key : s.toList.head? ≠ some 38 → Calls Tryd.prog 18 #[.string s, .bool attr] w fun e w' => e = .returned (.tuple #[.string (strB (takeF s.toList attr).1), .int .i64 (takeF s.toList attr).2]) ∧ Below w.heap.size w w' := by
    intro hh
    have hp := pre_no hh
    have HT : Hid (takeF s.toList attr = ([], 0)) := by show _ = _; rw [takeF, hp, hp]; rfl
    have HC := Lib.hid (fun u => beg12 (s := s) (p := ⟨#[38, 35]⟩) (b := false) (by rw [b3835]; exact hp [35]) u)
    have HC2 := Lib.hid (fun u => beg12 (s := s) (p := ⟨#[38]⟩) (b := false) (by rw [b38]; exact hp []) u)
    clear hp hh
    go_enter Tryd.func18, Tryd.ntmps18
    go_wp2_with (first
      | (go_at_call 33; go_must (first | (with_reducible refine (HC.out _).mono ?_) | (with_reducible refine (HC2.out _).mono ?_)); rintro e w1 ⟨rfl, rfl⟩))
    go_ret2
    exact ⟨ret2_str (by rw [HT.out]; rfl) (by rw [HT.out]; rfl), Below.refl _ _⟩
  rcases amp_cases s.toList with ⟨r, h⟩ | ⟨r, h, h'⟩ | ⟨c, r, h, h'⟩ | h
  · exact Take12_hash s r attr w hs h
  · exact Take12_name s r attr w hs h h'
  · exact key (by rw [h]; simpa using h')
  · exact key (by rw [h]; simp)
end Go.Proofs.YtcgkenmgglediaaDoor
