/-
  Contracts: strings.CutPrefix at a known text, refs.word, refs.Take: the reference at the front.
-/
import Derived.Test.YtbabcohidpcjjaaRefsJ
import Derived.Test.YtbabcohidpcjjaaRefsH
namespace Go.Proofs.Ytbabcohidpcjjaa
open Go.RowKit Mem

theorem cutp_yes {s p : ByteArray} {r : Str} (h : s.toList = p.toList ++ r) (w : World) : Calls Try.prog 60 #[.string s, .string p] w fun e w' => e = .returned (.tuple #[.string (strB r), .bool true]) ∧ w = w' := by
  rw [ByteArray.toList_eq, ByteArray.toList_eq] at h
  have h1 : Lib.hasPrefix s.data.toList p.data.toList = true := by rw [h]; simp [Lib.hasPrefix]
  have h2 : Lib.trimPrefix s.data.toList p.data.toList = r := by rw [Lib.trimPrefix, if_pos h1, h]; simp
  refine (CutPrefix_any s p w).mono fun e w' ⟨he, hw⟩ => ⟨?_, hw.symm⟩
  rw [he, h1, h2]; rfl
theorem cutp_no {s p : ByteArray} (h : p.toList.isPrefixOf s.toList = false) (w : World) : Calls Try.prog 60 #[.string s, .string p] w fun e w' => e = .returned (.tuple #[.string s, .bool false]) ∧ w = w' := by
  rw [ByteArray.toList_eq, ByteArray.toList_eq] at h
  have h1 : Lib.hasPrefix s.data.toList p.data.toList = false := h
  have h2 : Lib.trimPrefix s.data.toList p.data.toList = s.data.toList := by rw [Lib.trimPrefix, h1]; rfl
  refine (CutPrefix_any s p w).mono fun e w' ⟨he, hw⟩ => ⟨?_, hw.symm⟩
  rw [he, h1, h2]
def wordN (n : Nat) : Bool := decide (48 ≤ n ∧ n ≤ 57 ∨ 97 ≤ n ∧ n ≤ 122 ∨ 65 ≤ n ∧ n ≤ 90 ∨ n = 61)
theorem wordB_nat (c : UInt8) : wordB c = wordN c.toNat := by
  unfold wordB wordN
  rw [Bool.eq_iff_iff]
  simp only [Bool.or_eq_true, Bool.and_eq_true, decide_eq_true_eq, beq_iff_eq, UInt8.le_iff_toNat_le, ← UInt8.toNat_inj]
  simp only [show (48 : UInt8).toNat = 48 from rfl, show (57 : UInt8).toNat = 57 from rfl, show (97 : UInt8).toNat = 97 from rfl, show (122 : UInt8).toNat = 122 from rfl, show (65 : UInt8).toNat = 65 from rfl, show (90 : UInt8).toNat = 90 from rfl, show (61 : UInt8).toNat = 61 from rfl]
  omega
theorem word_any (n : Nat) (hn : n < 256) (w : World) : Calls Try.prog 65 #[.int .u8 n] w fun e w' => e = .returned (.bool (wordN n)) ∧ w = w' := by
  have HW : Hid (wordN n = decide (48 ≤ n ∧ n ≤ 57 ∨ 97 ≤ n ∧ n ≤ 122 ∨ 65 ≤ n ∧ n ≤ 90 ∨ n = 61)) := by show _ = _; rfl
  have hc : (48 ≤ n ∧ n ≤ 57) ∨ (97 ≤ n ∧ n ≤ 122) ∨ (65 ≤ n ∧ n ≤ 90) ∨ n = 61 ∨ n < 48 ∨ (57 < n ∧ n < 65 ∧ n ≠ 61) ∨ (90 < n ∧ n < 97) ∨ 122 < n := by omega
  rcases hc with ⟨a, b⟩ | ⟨a, b⟩ | ⟨a, b⟩ | rfl | a | ⟨a, b, c⟩ | ⟨a, b⟩ | a
  all_goals
    go_enter Try.func65, Try.ntmps65
    go_wp2_with fail
    all_goals (go_ret; exact ⟨ret_bool (by rw [HW.out]; first | (simp [*]; done) | (rw [Bool.eq_iff_iff]; simp [*]; done) | (rw [Bool.eq_iff_iff]; simp; omega)), rfl⟩)

theorem takeNum_no {r : Str} (h : (numG r).1 = 0) : takeNum r = ([], 0) := by rw [takeNum, if_pos h]
theorem takeNum_semi {r : Str} (h : (numG r).1 ≠ 0) (h' : (r.drop (numN r)).head? = some 59) : takeNum r = (numF (numG r).2, numN r + 1 + 2) := by rw [takeNum, if_neg h, if_pos h']
theorem takeNum_open {r : Str} (h : (numG r).1 ≠ 0) (h' : (r.drop (numN r)).head? ≠ some 59) : takeNum r = (numF (numG r).2, numN r + 2) := by rw [takeNum, if_neg h, if_neg h']
theorem digsF_bound (b : Nat) : ∀ (k : Nat) (s : Str) (v : Nat), v ≤ 0x110000 → (digsF b k s v).2 ≤ 0x110000
  | 0, _, _, h => h
  | _ + 1, [], _, h => h
  | k + 1, c :: r, v, h => by
    unfold digsF
    cases digF b c with
    | none => exact h
    | some d => exact digsF_bound b k r _ (Nat.min_le_right _ _)
theorem numG_bound (r : Str) : (numG r).2 ≤ 1114112 := digsF_bound _ _ _ _ (Nat.zero_le _)
theorem head_byte (s : ByteArray) (n : Nat) (h : n < s.size) : (s.toList.drop n).head? = some s[n] := by rw [drop_byte s n h]; rfl
theorem head_none (s : ByteArray) (n : Nat) (h : ¬ n < s.size) : (s.toList.drop n).head? = none := by rw [List.drop_of_length_le (by rw [size_toList]; omega)]; rfl
theorem last_byte (s : ByteArray) (m : Nat) (h : m < s.size) : (s.toList.take (m + 1)).getLast? = some s[m] := by
  have h' : m < s.toList.length := by rw [size_toList]; exact h
  rw [List.take_succ_eq_append_getElem h', List.getLast?_concat]
  simp only [ByteArray.toList_eq]
  rfl
theorem byte_eq {b c : UInt8} (h : b = c) : ((b.toNat : Int) == (c.toNat : Int)) = true := by rw [h]; simp
theorem byte_neq {b c : UInt8} (h : b ≠ c) : ((b.toNat : Int) != (c.toNat : Int)) = true := by rw [bne, byte_ne h]; rfl
theorem byte_neq' {b c : UInt8} (h : b = c) : ((b.toNat : Int) != (c.toNat : Int)) = false := by rw [bne, byte_eq h]; rfl
theorem strB_size (l : Str) : (strB l).size = l.length := by rw [← size_toList, toList_strB]

set_option maxHeartbeats 2000000 in
theorem Take_hash (s : ByteArray) (r : Str) (attr : Bool) (w : World) (hs : s.size ≤ 9223372036854775807) (h : s.toList = 38 :: 35 :: r) : Calls Try.prog 50 #[.string s, .bool attr] w fun e w' =>
    e = .returned (.tuple #[.string (strB (takeF s.toList attr).1), .int .i64 (takeF s.toList attr).2]) ∧ Below w.heap.size w w' := by
  have HT : Hid (takeF s.toList attr = takeNum r) := by show _ = _; rw [h, takeF_hash]
  have HC := Lib.hid (cutp_yes (s := s) (p := ⟨#[38, 35]⟩) (r := r) (by rw [h, ByteArray.toList_eq]; rfl) w)
  have hrs : r.length + 2 = s.size := by rw [← size_toList, h]; simp
  obtain ⟨rb, hrb⟩ : ∃ rb, rb = strB r := ⟨_, rfl⟩
  have hrl : rb.toList = r := by rw [hrb, toList_strB]
  have hsz : rb.size = r.length := by rw [hrb, strB_size]
  have HN := Lib.hid (number_any rb w (by omega))
  have hle := numN_le r
  have hbd := numG_bound r
  rw [hrl] at HN
  rw [← hrb] at HC
  obtain ⟨n, hn⟩ : ∃ n, n = numN r := ⟨_, rfl⟩
  obtain ⟨v, hv⟩ : ∃ v, v = (numG r).2 := ⟨_, rfl⟩
  have hnr : n ≤ rb.size := by omega
  have hr2 : rb.size ≤ 9223372036854775805 := by omega
  rw [← hn, ← hv] at HN
  rw [← hv] at hbd
  have HX := Lib.hid (fun u => Number_any (v : Nat) u (by omega) (by omega))
  by_cases hc : (numG r).1 = 0
  · have HR := Lib.hid (takeNum_no hc)
    rw [hc] at HN
    clear h hrs hrb hrl hsz hle hn hv hc
    go_enter Try.func50, Try.ntmps50
    go_wp2_with (first
      | (go_at_call 60; go_must (refine HC.out.mono ?_; rintro e w1 ⟨rfl, rfl⟩))
      | (go_at_call 61; go_must (refine HN.out.mono ?_; rintro e w1 ⟨rfl, rfl⟩)))
    go_ret2
    exact ⟨ret2_str (by rw [HT.out, HR.out]; rfl) (by rw [HT.out, HR.out]; rfl), Below.refl _ _⟩
  · rw [decide_eq_true (by omega : 0 < (numG r).1)] at HN
    by_cases hlt : n < rb.size
    · have hhd := head_byte rb n hlt
      rw [hrl] at hhd
      by_cases h59 : rb[n] = 59
      · have HR := Lib.hid (takeNum_semi hc (by rw [← hn, hhd, h59]))
        have he : ((rb[n].toNat : Int) == 59) = true := byte_eq h59
        rw [← hn, ← hv] at HR
        clear h hrs hrb hrl hsz hle hn hv hc hhd h59
        go_enter Try.func50, Try.ntmps50
        go_wp2_with (first
          | (go_at_call 60; go_must (refine HC.out.mono ?_; rintro e w1 ⟨rfl, rfl⟩))
          | (go_at_call 61; go_must (refine HN.out.mono ?_; rintro e w1 ⟨rfl, rfl⟩))
          | (go_at_call 63; go_must (refine (HX.out _).mono ?_; rintro e w1 ⟨rfl, hb⟩; have HB := Lib.hid hb; clear hb)))
        go_ret2
        exact ⟨ret2_str (by rw [HT.out, HR.out]) (by rw [HT.out, HR.out]; show _ = ((n + 1 + 2 : Nat) : Int); omega), HB.out⟩
      · have HR := Lib.hid (takeNum_open hc (by rw [← hn, hhd]; simpa using h59))
        have he : ((rb[n].toNat : Int) == 59) = false := byte_ne h59
        rw [← hn, ← hv] at HR
        clear h hrs hrb hrl hsz hle hn hv hc hhd h59
        go_enter Try.func50, Try.ntmps50
        go_wp2_with (first
          | (go_at_call 60; go_must (refine HC.out.mono ?_; rintro e w1 ⟨rfl, rfl⟩))
          | (go_at_call 61; go_must (refine HN.out.mono ?_; rintro e w1 ⟨rfl, rfl⟩))
          | (go_at_call 63; go_must (refine (HX.out _).mono ?_; rintro e w1 ⟨rfl, hb⟩; have HB := Lib.hid hb; clear hb)))
        go_ret2
        exact ⟨ret2_str (by rw [HT.out, HR.out]) (by rw [HT.out, HR.out]; show _ = ((n + 2 : Nat) : Int); omega), HB.out⟩
    · have hhd := head_none rb n hlt
      rw [hrl] at hhd
      have HR := Lib.hid (takeNum_open hc (by rw [← hn, hhd]; simp))
      rw [← hn, ← hv] at HR
      clear h hrs hrb hrl hsz hle hn hv hc hhd
      go_enter Try.func50, Try.ntmps50
      go_wp2_with (first
        | (go_at_call 60; go_must (refine HC.out.mono ?_; rintro e w1 ⟨rfl, rfl⟩))
        | (go_at_call 61; go_must (refine HN.out.mono ?_; rintro e w1 ⟨rfl, rfl⟩))
        | (go_at_call 63; go_must (refine (HX.out _).mono ?_; rintro e w1 ⟨rfl, hb⟩; have HB := Lib.hid hb; clear hb)))
      go_ret2
      exact ⟨ret2_str (by rw [HT.out, HR.out]) (by rw [HT.out, HR.out]; show _ = ((n + 2 : Nat) : Int); omega), HB.out⟩
end Go.Proofs.Ytbabcohidpcjjaa
