import Derived.Test.YtbabcohidpcjjaaGreatZRefB
import Derived.Test.YtbabcohidpcjjaaGreatZRefC
import Derived.Lib.IndexLaws
import Derived.Lib.AppendStr
import Derived.Lib.BufferRead
/-
  Contracts: strings.CutPrefix at a known text, refs.word, refs.Take: the reference at the front.
-/
namespace Go.Proofs.YtbabcohidpcjjaaGreat
open Go.RowKit Mem

theorem cutp_yes {s p : ByteArray} {r : Str} (h : s.toList = p.toList ++ r) (w : World) : Calls Tryz.prog 82 #[.string s, .string p] w fun e w' => e = .returned (.tuple #[.string (strB r), .bool true]) ∧ w = w' := by
  rw [ByteArray.toList_eq, ByteArray.toList_eq] at h
  have h1 : Lib.hasPrefix s.data.toList p.data.toList = true := by rw [h]; simp [Lib.hasPrefix]
  have h2 : Lib.trimPrefix s.data.toList p.data.toList = r := by rw [Lib.trimPrefix, if_pos h1, h]; simp
  refine (CutPrefix_any s p w).mono fun e w' ⟨he, hw⟩ => ⟨?_, hw.symm⟩
  rw [he, h1, h2]; rfl
theorem cutp_no {s p : ByteArray} (h : p.toList.isPrefixOf s.toList = false) (w : World) : Calls Tryz.prog 82 #[.string s, .string p] w fun e w' => e = .returned (.tuple #[.string s, .bool false]) ∧ w = w' := by
  rw [ByteArray.toList_eq, ByteArray.toList_eq] at h
  have h1 : Lib.hasPrefix s.data.toList p.data.toList = false := h
  have h2 : Lib.trimPrefix s.data.toList p.data.toList = s.data.toList := by rw [Lib.trimPrefix, h1]; rfl
  refine (CutPrefix_any s p w).mono fun e w' ⟨he, hw⟩ => ⟨?_, hw.symm⟩
  rw [he, h1, h2]
def wordN (n : Nat) : Bool := decide (48 ≤ n ∧ n ≤ 57 ∨ 97 ≤ n ∧ n ≤ 122 ∨ 65 ≤ n ∧ n ≤ 90 ∨ n = 61)
theorem wordB_nat (c : UInt8) : wordB c = wordN c.toNat := by
  unfold wordB wordN
  rw [Bool.eq_iff_iff]
  simp only [Bool.or_eq_true, Bool.and_eq_true, decide_eq_true_eq, beq_iff_eq, UInt8.le_iff_toNat_le, ← UInt8.toNat_inj]
  simp only [show (48 : UInt8).toNat = 48 from rfl, show (57 : UInt8).toNat = 57 from rfl, show (97 : UInt8).toNat = 97 from rfl, show (122 : UInt8).toNat = 122 from rfl, show (65 : UInt8).toNat = 65 from rfl, show (90 : UInt8).toNat = 90 from rfl, show (61 : UInt8).toNat = 61 from rfl]
  omega
theorem word_any (n : Nat) (hn : n < 256) (w : World) : Calls Tryz.prog 87 #[.int .u8 n] w fun e w' => e = .returned (.bool (wordN n)) ∧ w = w' := by
  have HW : Hid (wordN n = decide (48 ≤ n ∧ n ≤ 57 ∨ 97 ≤ n ∧ n ≤ 122 ∨ 65 ≤ n ∧ n ≤ 90 ∨ n = 61)) := by show _ = _; rfl
  have hc : (48 ≤ n ∧ n ≤ 57) ∨ (97 ≤ n ∧ n ≤ 122) ∨ (65 ≤ n ∧ n ≤ 90) ∨ n = 61 ∨ n < 48 ∨ (57 < n ∧ n < 65 ∧ n ≠ 61) ∨ (90 < n ∧ n < 97) ∨ 122 < n := by omega
  rcases hc with ⟨a, b⟩ | ⟨a, b⟩ | ⟨a, b⟩ | rfl | a | ⟨a, b, c⟩ | ⟨a, b⟩ | a
  all_goals
    go_enter Tryz.func87, Tryz.ntmps87
    go_wp2_with fail
    all_goals (go_ret; exact ⟨ret_bool (by rw [HW.out]; first | (simp [*]; done) | (rw [Bool.eq_iff_iff]; simp [*]; done) | (rw [Bool.eq_iff_iff]; simp; omega)), rfl⟩)

theorem takeNum_no {r : Str} (h : (numG r).1 = 0) : takeNum r = ([], 0) := by rw [takeNum, if_pos h]
theorem takeNum_semi {r : Str} (h : (numG r).1 ≠ 0) (h' : (r.drop (numN r)).head? = some 59) : takeNum r = (numF (numG r).2, numN r + 1 + 2) := by rw [takeNum, if_neg h, if_pos h']
theorem takeNum_open {r : Str} (h : (numG r).1 ≠ 0) (h' : (r.drop (numN r)).head? ≠ some 59) : takeNum r = (numF (numG r).2, numN r + 2) := by rw [takeNum, if_neg h, if_neg h']
theorem digsF_bound (b : Nat) : ∀ (k : Nat) (s : Str) (v : Nat), v ≤ 0x110000 → (digsF b k s v).2 ≤ 0x110000
  | 0, _, _, h => h
  | _ + 1, [], _, h => h
  | k + 1, c :: r, v, h => by
    unfold digsF
    cases digF b c with
    | none => exact h
    | some d => exact digsF_bound b k r _ (Nat.min_le_right _ _)
theorem numG_bound (r : Str) : (numG r).2 ≤ 1114112 := digsF_bound _ _ _ _ (Nat.zero_le _)
theorem head_byte (s : ByteArray) (n : Nat) (h : n < s.size) : (s.toList.drop n).head? = some s[n] := by rw [drop_byte s n h]; rfl
theorem head_none (s : ByteArray) (n : Nat) (h : ¬ n < s.size) : (s.toList.drop n).head? = none := by rw [List.drop_of_length_le (by rw [size_toList]; omega)]; rfl
theorem last_byte (s : ByteArray) (m : Nat) (h : m < s.size) : (s.toList.take (m + 1)).getLast? = some s[m] := by
  have h' : m < s.toList.length := by rw [size_toList]; exact h
  rw [List.take_succ_eq_append_getElem h', List.getLast?_concat]
  simp only [ByteArray.toList_eq]
  rfl
theorem byte_eq {b c : UInt8} (h : b = c) : ((b.toNat : Int) == (c.toNat : Int)) = true := by rw [h]; simp
theorem byte_neq {b c : UInt8} (h : b ≠ c) : ((b.toNat : Int) != (c.toNat : Int)) = true := by rw [bne, byte_ne h]; rfl
theorem byte_neq' {b c : UInt8} (h : b = c) : ((b.toNat : Int) != (c.toNat : Int)) = false := by rw [bne, byte_eq h]; rfl
theorem strB_size (l : Str) : (strB l).size = l.length := by rw [← size_toList, toList_strB]

set_option maxHeartbeats 2000000 in
theorem Take_hash (s : ByteArray) (r : Str) (attr : Bool) (w : World) (hs : s.size ≤ 9223372036854775807) (h : s.toList = 38 :: 35 :: r) : Calls Tryz.prog 67 #[.string s, .bool attr] w fun e w' =>
    e = .returned (.tuple #[.string (strB (takeF s.toList attr).1), .int .i64 (takeF s.toList attr).2]) ∧ Below w.heap.size w w' := by
  have HT : Hid (takeF s.toList attr = takeNum r) := by show _ = _; rw [h, takeF_hash]
  have HC := Lib.hid (cutp_yes (s := s) (p := ⟨#[38, 35]⟩) (r := r) (by rw [h, ByteArray.toList_eq]; rfl) w)
  have hrs : r.length + 2 = s.size := by rw [← size_toList, h]; simp
  obtain ⟨rb, hrb⟩ : ∃ rb, rb = strB r := ⟨_, rfl⟩
  have hrl : rb.toList = r := by rw [hrb, toList_strB]
  have hsz : rb.size = r.length := by rw [hrb, strB_size]
  have HN := Lib.hid (number_any rb w (by omega))
  have hle := numN_le r
  have hbd := numG_bound r
  rw [hrl] at HN
  rw [← hrb] at HC
  obtain ⟨n, hn⟩ : ∃ n, n = numN r := ⟨_, rfl⟩
  obtain ⟨v, hv⟩ : ∃ v, v = (numG r).2 := ⟨_, rfl⟩
  have hnr : n ≤ rb.size := by omega
  have hr2 : rb.size ≤ 9223372036854775805 := by omega
  rw [← hn, ← hv] at HN
  rw [← hv] at hbd
  have HX := Lib.hid (fun u => Number_any (v : Nat) u (by omega) (by omega))
  by_cases hc : (numG r).1 = 0
  · have HR := Lib.hid (takeNum_no hc)
    rw [hc] at HN
    clear h hrs hrb hrl hsz hle hn hv hc
    go_enter Tryz.func67, Tryz.ntmps67
    go_wp2_with (first
      | (go_at_call 82; go_must (refine HC.out.mono ?_; rintro e w1 ⟨rfl, rfl⟩))
      | (go_at_call 83; go_must (refine HN.out.mono ?_; rintro e w1 ⟨rfl, rfl⟩)))
    go_ret2
    exact ⟨ret2_str (by rw [HT.out, HR.out]; rfl) (by rw [HT.out, HR.out]; rfl), Below.refl _ _⟩
  · rw [decide_eq_true (by omega : 0 < (numG r).1)] at HN
    by_cases hlt : n < rb.size
    · have hhd := head_byte rb n hlt
      rw [hrl] at hhd
      by_cases h59 : rb[n] = 59
      · have HR := Lib.hid (takeNum_semi hc (by rw [← hn, hhd, h59]))
        have he : ((rb[n].toNat : Int) == 59) = true := byte_eq h59
        rw [← hn, ← hv] at HR
        clear h hrs hrb hrl hsz hle hn hv hc hhd h59
        go_enter Tryz.func67, Tryz.ntmps67
        go_wp2_with (first
          | (go_at_call 82; go_must (refine HC.out.mono ?_; rintro e w1 ⟨rfl, rfl⟩))
          | (go_at_call 83; go_must (refine HN.out.mono ?_; rintro e w1 ⟨rfl, rfl⟩))
          | (go_at_call 85; go_must (refine (HX.out _).mono ?_; rintro e w1 ⟨rfl, hb⟩; have HB := Lib.hid hb; clear hb)))
        go_ret2
        exact ⟨ret2_str (by rw [HT.out, HR.out]) (by rw [HT.out, HR.out]; show _ = ((n + 1 + 2 : Nat) : Int); omega), HB.out⟩
      · have HR := Lib.hid (takeNum_open hc (by rw [← hn, hhd]; simpa using h59))
        have he : ((rb[n].toNat : Int) == 59) = false := byte_ne h59
        rw [← hn, ← hv] at HR
        clear h hrs hrb hrl hsz hle hn hv hc hhd h59
        go_enter Tryz.func67, Tryz.ntmps67
        go_wp2_with (first
          | (go_at_call 82; go_must (refine HC.out.mono ?_; rintro e w1 ⟨rfl, rfl⟩))
          | (go_at_call 83; go_must (refine HN.out.mono ?_; rintro e w1 ⟨rfl, rfl⟩))
          | (go_at_call 85; go_must (refine (HX.out _).mono ?_; rintro e w1 ⟨rfl, hb⟩; have HB := Lib.hid hb; clear hb)))
        go_ret2
        exact ⟨ret2_str (by rw [HT.out, HR.out]) (by rw [HT.out, HR.out]; show _ = ((n + 2 : Nat) : Int); omega), HB.out⟩
    · have hhd := head_none rb n hlt
      rw [hrl] at hhd
      have HR := Lib.hid (takeNum_open hc (by rw [← hn, hhd]; simp))
      rw [← hn, ← hv] at HR
      clear h hrs hrb hrl hsz hle hn hv hc hhd
      go_enter Tryz.func67, Tryz.ntmps67
      go_wp2_with (first
        | (go_at_call 82; go_must (refine HC.out.mono ?_; rintro e w1 ⟨rfl, rfl⟩))
        | (go_at_call 83; go_must (refine HN.out.mono ?_; rintro e w1 ⟨rfl, rfl⟩))
        | (go_at_call 85; go_must (refine (HX.out _).mono ?_; rintro e w1 ⟨rfl, hb⟩; have HB := Lib.hid hb; clear hb)))
      go_ret2
      exact ⟨ret2_str (by rw [HT.out, HR.out]) (by rw [HT.out, HR.out]; show _ = ((n + 2 : Nat) : Int); omega), HB.out⟩
end Go.Proofs.YtbabcohidpcjjaaGreat

/-
  Contract: refs.Take: the reference at the front, a name's; and the whole.
-/
namespace Go.Proofs.YtbabcohidpcjjaaGreat
open Go.RowKit Mem

theorem takeName_no {r : Str} {attr : Bool} (h : refused r attr = true) : takeName r attr = ([], 0) := by rw [takeName, if_pos h]
theorem takeName_yes {r : Str} {attr : Bool} (h : refused r attr = false) : takeName r attr = ((findF r).1, (findF r).2 + 1) := by rw [takeName, h]; rfl
theorem refused_zero {r : Str} {attr : Bool} (h : (findF r).2 = 0) : refused r attr = true := by simp [refused, h]
theorem refused_plain {r : Str} (h : (findF r).2 ≠ 0) : refused r false = false := by simp [refused, h]
theorem refused_semi {r : Str} {attr : Bool} (h : (findF r).2 ≠ 0) (h' : (r.take (findF r).2).getLast? = some 59) : refused r attr = false := by simp [refused, h, h']
theorem refused_end {r : Str} {attr : Bool} (h : (findF r).2 ≠ 0) (h' : (r.drop (findF r).2).head? = none) : refused r attr = false := by simp [refused, h, h']
theorem refused_word {r : Str} {c d : UInt8} (h : (findF r).2 ≠ 0) (h' : (r.take (findF r).2).getLast? = some c) (hc : c ≠ 59) (hd : (r.drop (findF r).2).head? = some d) : refused r true = wordB d := by
  unfold refused
  rw [h', hd, show ((findF r).2 == 0) = false from by simpa using h, show (some c == some (59 : UInt8)) = false from by simpa using hc]
  rfl
theorem pre2_no {r : Str} (h : r.head? ≠ some 35) : ([38, 35] : Str).isPrefixOf (38 :: r) = false := by
  rw [Bool.eq_false_iff]
  intro h'
  obtain ⟨t, ht⟩ := List.isPrefixOf_iff_prefix.1 h'
  simp only [List.cons_append, List.nil_append, List.cons.injEq, true_and] at ht
  rw [← ht] at h
  exact h rfl
theorem pre_no {s : Str} (h : s.head? ≠ some 38) (q : Str) : (38 :: q : Str).isPrefixOf s = false := by
  rw [Bool.eq_false_iff]
  intro h'
  obtain ⟨t, ht⟩ := List.isPrefixOf_iff_prefix.1 h'
  rw [← ht] at h
  exact h rfl
theorem b38 : (⟨#[38]⟩ : ByteArray).toList = [38] := by rw [ByteArray.toList_eq]
theorem b3835 : (⟨#[38, 35]⟩ : ByteArray).toList = [38, 35] := by rw [ByteArray.toList_eq]

set_option maxHeartbeats 4000000 in
theorem Take_name (s : ByteArray) (r : Str) (attr : Bool) (w : World) (hs : s.size ≤ 9223372036854775807) (h : s.toList = 38 :: r) (h35 : r.head? ≠ some 35) : Calls Tryz.prog 67 #[.string s, .bool attr] w fun e w' =>
    e = .returned (.tuple #[.string (strB (takeF s.toList attr).1), .int .i64 (takeF s.toList attr).2]) ∧ w = w' := by
  have HT : Hid (takeF s.toList attr = takeName r attr) := by show _ = _; rw [h, takeF_amp h35]
  have HC := Lib.hid (cutp_no (s := s) (p := ⟨#[38, 35]⟩) (by rw [h, b3835]; exact pre2_no h35) w)
  have HC2 := Lib.hid (cutp_yes (s := s) (p := ⟨#[38]⟩) (r := r) (by rw [h, ByteArray.toList_eq]; rfl) w)
  have hrs : r.length + 1 = s.size := by rw [← size_toList, h]; simp
  obtain ⟨rb, hrb⟩ : ∃ rb, rb = strB r := ⟨_, rfl⟩
  have hrl : rb.toList = r := by rw [hrb, toList_strB]
  have hsz : rb.size = r.length := by rw [hrb, strB_size]
  have hf := Find_any rb w (by omega)
  have hle := findF_le r
  rw [hrl] at hf
  rw [← hrb] at HC2
  have hr2 : rb.size ≤ 9223372036854775806 := by omega
  obtain ⟨t, ht⟩ : ∃ t, t = strB (findF r).1 := ⟨_, rfl⟩
  rw [← ht] at hf
  have HFT := Lib.hid ht
  cases hn : (findF r).2 with
  | zero =>
    have HR := Lib.hid (takeName_no (attr := attr) (refused_zero hn))
    rw [hn] at hf
    have HF := Lib.hid hf
    clear h hrs hrb hrl hsz hle hn hf ht h35
    go_enter Tryz.func67, Tryz.ntmps67
    go_wp2_with (first
      | (go_at_call 82; go_must (first | (with_reducible refine HC.out.mono ?_) | (with_reducible refine HC2.out.mono ?_)); rintro e w1 ⟨rfl, rfl⟩)
      | (go_at_call 86; go_must (refine HF.out.mono ?_; rintro e w1 ⟨rfl, rfl⟩)))
    go_ret2
    exact ⟨ret2_str (by rw [HT.out, HR.out]; rfl) (by rw [HT.out, HR.out]; rfl), rfl⟩
  | succ m =>
    have hn0 : (findF r).2 ≠ 0 := by omega
    have hy := takeName_yes (r := r) (attr := attr)
    have hno := takeName_no (r := r) (attr := attr)
    rw [hn] at hf hle hy
    have hm : m < rb.size := by omega
    have hlast := last_byte rb m hm
    rw [hrl, ← hn] at hlast
    have HF : Hid (Calls Tryz.prog 86 #[.string rb] w fun e w' => e = .returned (.tuple #[.string t, .int .i64 ((m : Int) + 1)]) ∧ w = w') := by
      have e : ((m + 1 : Nat) : Int) = (m : Int) + 1 := by omega
      rw [e] at hf
      exact Lib.hid hf
    have HFT := Lib.hid ht
    cases attr
    · have HR := Lib.hid (hy (refused_plain hn0))
      clear h hrs hrb hrl hsz hle hn hf ht h35 hn0 hy hno hlast
      go_enter Tryz.func67, Tryz.ntmps67
      go_wp2_with (first
        | (go_at_call 82; go_must (first | (with_reducible refine HC.out.mono ?_) | (with_reducible refine HC2.out.mono ?_)); rintro e w1 ⟨rfl, rfl⟩)
        | (go_at_call 86; go_must (refine HF.out.mono ?_; rintro e w1 ⟨rfl, rfl⟩)))
      go_ret2
      exact ⟨ret2_str (by rw [HT.out, HR.out, ← HFT.out]) (by rw [HT.out, HR.out]; show _ = ((m + 1 + 1 : Nat) : Int); omega), rfl⟩
    · by_cases h59 : rb[m] = 59
      · have HR := Lib.hid (hy (refused_semi hn0 (by rw [hlast, h59])))
        have he : ((rb[m].toNat : Int) != 59) = false := byte_neq' h59
        clear h hrs hrb hrl hsz hle hn hf ht h35 hn0 hy hno hlast h59
        go_enter Tryz.func67, Tryz.ntmps67
        go_wp2_with (first
          | (go_at_call 82; go_must (first | (with_reducible refine HC.out.mono ?_) | (with_reducible refine HC2.out.mono ?_)); rintro e w1 ⟨rfl, rfl⟩)
          | (go_at_call 86; go_must (refine HF.out.mono ?_; rintro e w1 ⟨rfl, rfl⟩)))
        go_ret2
        exact ⟨ret2_str (by rw [HT.out, HR.out, ← HFT.out]) (by rw [HT.out, HR.out]; show _ = ((m + 1 + 1 : Nat) : Int); omega), rfl⟩
      · have he : ((rb[m].toNat : Int) != 59) = true := byte_neq h59
        by_cases hlt : m + 1 < rb.size
        · have hhd := head_byte rb (m + 1) hlt
          rw [hrl] at hhd
          have hu := rb[m + 1].toNat_lt
          have hw := word_any rb[m + 1].toNat (by omega) w
          have hrw := refused_word hn0 hlast h59 (by rw [hn]; exact hhd)
          rw [wordB_nat] at hrw
          have hlt' : (m : Int) + 1 < (rb.size : Int) := by omega
          cases hwd : wordN rb[m + 1].toNat
          · rw [hwd] at hw hrw
            have HW := Lib.hid hw
            have HR := Lib.hid (hy hrw)
            clear h hrs hrb hrl hsz hle hn hf ht h35 hn0 hy hno hlast h59 hhd hu hw hrw hwd
            go_enter Tryz.func67, Tryz.ntmps67
            go_wp2_with (first
              | (go_at_call 82; go_must (first | (with_reducible refine HC.out.mono ?_) | (with_reducible refine HC2.out.mono ?_)); rintro e w1 ⟨rfl, rfl⟩)
              | (go_at_call 86; go_must (refine HF.out.mono ?_; rintro e w1 ⟨rfl, rfl⟩))
              | (go_at_call 87; go_must (refine HW.out.mono ?_; rintro e w1 ⟨rfl, rfl⟩)))
            go_ret2
            exact ⟨ret2_str (by rw [HT.out, HR.out, ← HFT.out]) (by rw [HT.out, HR.out]; show _ = ((m + 1 + 1 : Nat) : Int); omega), rfl⟩
          · rw [hwd] at hw hrw
            have HW := Lib.hid hw
            have HR := Lib.hid (hno hrw)
            clear h hrs hrb hrl hsz hle hn hf ht h35 hn0 hy hno hlast h59 hhd hu hw hrw hwd
            go_enter Tryz.func67, Tryz.ntmps67
            go_wp2_with (first
              | (go_at_call 82; go_must (first | (with_reducible refine HC.out.mono ?_) | (with_reducible refine HC2.out.mono ?_)); rintro e w1 ⟨rfl, rfl⟩)
              | (go_at_call 86; go_must (refine HF.out.mono ?_; rintro e w1 ⟨rfl, rfl⟩))
              | (go_at_call 87; go_must (refine HW.out.mono ?_; rintro e w1 ⟨rfl, rfl⟩)))
            go_ret2
            exact ⟨ret2_str (by rw [HT.out, HR.out]; rfl) (by rw [HT.out, HR.out]; rfl), rfl⟩
        · have HR := Lib.hid (hy (refused_end hn0 (by rw [hn, ← hrl, head_none rb (m + 1) hlt])))
          have hlt' : ¬ (m : Int) + 1 < (rb.size : Int) := by omega
          clear h hrs hrb hrl hsz hle hn hf ht h35 hn0 hy hno hlast h59 hlt
          go_enter Tryz.func67, Tryz.ntmps67
          go_wp2_with (first
            | (go_at_call 82; go_must (first | (with_reducible refine HC.out.mono ?_) | (with_reducible refine HC2.out.mono ?_)); rintro e w1 ⟨rfl, rfl⟩)
            | (go_at_call 86; go_must (refine HF.out.mono ?_; rintro e w1 ⟨rfl, rfl⟩)))
          go_ret2
          exact ⟨ret2_str (by rw [HT.out, HR.out, ← HFT.out]) (by rw [HT.out, HR.out]; show _ = ((m + 1 + 1 : Nat) : Int); omega), rfl⟩

set_option maxHeartbeats 1000000 in
theorem Take_any (s : ByteArray) (attr : Bool) (w : World) (hs : s.size ≤ 9223372036854775807) : Calls Tryz.prog 67 #[.string s, .bool attr] w fun e w' =>
    e = .returned (.tuple #[.string (strB (takeF s.toList attr).1), .int .i64 (takeF s.toList attr).2]) ∧ Below w.heap.size w w' := by
  have key : s.toList.head? ≠ some 38 → Calls Tryz.prog 67 #[.string s, .bool attr] w fun e w' => e = .returned (.tuple #[.string (strB (takeF s.toList attr).1), .int .i64 (takeF s.toList attr).2]) ∧ Below w.heap.size w w' := by
    intro hh
    have hp := pre_no hh
    have HT : Hid (takeF s.toList attr = ([], 0)) := by show _ = _; rw [takeF, hp, hp]; rfl
    have HC := Lib.hid (cutp_no (s := s) (p := ⟨#[38, 35]⟩) (by rw [b3835]; exact hp [35]) w)
    have HC2 := Lib.hid (cutp_no (s := s) (p := ⟨#[38]⟩) (by rw [b38]; exact hp []) w)
    clear hp hh
    go_enter Tryz.func67, Tryz.ntmps67
    go_wp2_with (go_at_call 82; go_must (first | (with_reducible refine HC.out.mono ?_) | (with_reducible refine HC2.out.mono ?_)); rintro e w1 ⟨rfl, rfl⟩)
    go_ret2
    exact ⟨ret2_str (by rw [HT.out]; rfl) (by rw [HT.out]; rfl), Below.refl _ _⟩
  rcases amp_cases s.toList with ⟨r, h⟩ | ⟨r, h, h'⟩ | ⟨c, r, h, h'⟩ | h
  · exact Take_hash s r attr w hs h
  · exact (Take_name s r attr w hs h h').mono fun e w' ⟨h1, h2⟩ => ⟨h1, by subst h2; exact Below.refl _ _⟩
  · exact key (by rw [h]; simpa using h')
  · exact key (by rw [h]; simp)
end Go.Proofs.YtbabcohidpcjjaaGreat

/-
  Contract: refs.All: all references replaced.
-/
namespace Go.Proofs.YtbabcohidpcjjaaGreat
open Go.RowKit Mem

theorem encF_le4 (c : Nat) : (encF c).length ≤ 4 := encF_len4 c
theorem ext_drop' (s : ByteArray) (a : Nat) : (s.extract a s.size).toList = s.toList.drop a := by
  rw [ext_list, List.take_of_length_le (by rw [List.length_drop, size_toList]; omega)]
theorem takeF_len (s : Str) (attr : Bool) (h : (takeF s attr).2 ≠ 0) : (takeF s attr).1.length ≤ 2 * (takeF s attr).2 := by
  rcases amp_cases s with ⟨r, rfl⟩ | ⟨r, rfl, h35⟩ | ⟨c, r, rfl, hc⟩ | rfl
  · rw [takeF_hash] at h ⊢
    unfold takeNum at h ⊢
    by_cases h0 : (numG r).1 = 0
    · rw [if_pos h0] at h; exact absurd rfl h
    · rw [if_neg h0]
      have := encF_le4 (numC (numG r).2)
      have hn : numN r = headN r + (numG r).1 := rfl
      show (numF _).length ≤ _
      unfold numF
      split <;> simp only <;> omega
  · rw [takeF_amp h35] at h ⊢
    unfold takeName at h ⊢
    cases hr : refused r attr
    · rw [hr] at h
      simp only [Bool.false_eq_true, if_false]
      have hk : ∀ k ∈ keys, k.2.length ≤ 2 * k.1.length := by decide +kernel
      rcases (findF_spec r).1 with ⟨h1, _⟩ | ⟨h1, h2, h3⟩
      · rw [refused_zero h1] at hr; cases hr
      · have := hk _ h3
        simp only [List.length_take] at this
        omega
    · rw [hr] at h; exact absurd rfl h
  · rw [takeF_other hc] at h; exact absurd rfl h
  · rw [takeF_nil] at h; exact absurd rfl h
theorem allS_len (attr : Bool) : ∀ (n : Nat) (s : Str), s.length ≤ n → (allS s attr).length ≤ 2 * s.length := by
  intro n
  induction n with
  | zero =>
    intro s hs
    have : s = [] := List.eq_nil_of_length_eq_zero (by omega)
    subst this
    simp [allS_nil]
  | succ n ih =>
    intro s hs
    cases s with
    | nil => simp [allS_nil]
    | cons c r =>
      simp only [List.length_cons] at hs
      rw [allS_cons]
      by_cases h : c = 38 ∧ (takeF (c :: r) attr).2 ≠ 0
      · rw [if_pos h, List.length_append]
        have h1 := takeF_len (c :: r) attr h.2
        have h2 := takeF_le (c :: r) attr
        have h3 := ih ((c :: r).drop (takeF (c :: r) attr).2) (by rw [List.length_drop, List.length_cons]; have := h.2; omega)
        rw [List.length_drop] at h3
        omega
      · rw [if_neg h]
        have := ih r (by omega)
        simp only [List.length_cons]
        omega
theorem allS_pre (attr : Bool) (x : Str) : ∀ p : Str, (∀ c ∈ p, c ≠ 38) → allS (p ++ x) attr = p ++ allS x attr
  | [], _ => rfl
  | c :: r, h => by
    rw [List.cons_append, allS_other (h c List.mem_cons_self), allS_pre attr x r fun d hd => h d (List.mem_cons_of_mem _ hd)]
    rfl
theorem idx_cases (s : ByteArray) : (Lib.indexByte s.data.toList 38 = -1 ∧ ∀ c ∈ s.toList, c ≠ 38) ∨ ∃ i r, Lib.indexByte s.data.toList 38 = (i : Nat) ∧ i < s.size ∧ s.toList.drop i = 38 :: r ∧ ∀ c ∈ s.toList.take i, c ≠ 38 := by
  rw [ByteArray.toList_eq]
  rcases Int.lt_or_le (Lib.indexByte s.data.toList 38) 0 with h | h
  · have h1 : Lib.indexByte s.data.toList 38 = -1 := by have := Lib.indexByte_ge s.data.toList 38; omega
    refine .inl ⟨h1, fun c hc e => ?_⟩
    obtain ⟨k, hk, rfl⟩ := List.getElem_of_mem hc
    exact Lib.indexByte_none h1 k (by rw [List.getElem?_eq_getElem hk, e])
  · obtain ⟨i, hi⟩ := Int.eq_ofNat_of_zero_le h
    obtain ⟨h1, h2⟩ := Lib.indexByte_some hi
    obtain ⟨hl, he⟩ := List.getElem?_eq_some_iff.1 h1
    refine .inr ⟨i, s.data.toList.drop (i + 1), hi, by simpa using hl, by rw [List.drop_eq_getElem_cons hl, he], fun c hc e => ?_⟩
    obtain ⟨k, hk, hke⟩ := List.getElem_of_mem hc
    simp only [List.length_take] at hk
    rw [List.getElem_take] at hke
    exact h2 k (by omega) (by rw [List.getElem?_eq_getElem (by omega), hke, e])
def strLen : Value → Nat
  | .string s => s.size
  | _ => 0
theorem strCells_bytes (s : ByteArray) : Lib.strCells s = bytesV s.toList := by rw [ByteArray.toList_eq]; rfl
theorem strCells_strB (l : Str) : Lib.strCells (strB l) = bytesV l := rfl
theorem bytesV_two (l r : Str) : bytesV (l ++ r) = bytesV l ++ bytesV r := by simp [bytesV]
theorem all_hit {attr : Bool} {r : Str} (h : (takeF (38 :: r) attr).2 ≠ 0) : allS (38 :: r) attr = (takeF (38 :: r) attr).1 ++ allS ((38 :: r).drop (takeF (38 :: r) attr).2) attr := by rw [allS_cons, if_pos ⟨rfl, h⟩]
theorem all_miss {attr : Bool} {r : Str} (h : (takeF (38 :: r) attr).2 = 0) : allS (38 :: r) attr = 38 :: allS r attr := by rw [allS_cons, if_neg (fun h' => h'.2 h)]

theorem builder_below {T e : TypeId} {B b : Nat} {bs : List Value} {w w' : World} (h : Lib.IsBuilderF T e B b bs w) (hb : Below w.heap.size w w') : Lib.IsBuilderF T e B b bs w' := by
  have key : ∀ p, Lib.BuilderAtF T e B b p bs w → Lib.BuilderAtF T e B b p bs w' := fun p hp => by
    have hlt := hp.lt
    obtain ⟨hB, v, hh, hown, hne⟩ := hp
    exact ⟨hB, v, (hb.block b hlt).trans hh, hown.kept (row := none) ⟨hb.os, hb.tape, hb.output, hb.size, fun k hk _ => hb.block k hk⟩ (by cases hv : v.ownBlock <;> simp), hne⟩
  exact h.imp (key _) (key _)

set_option maxRecDepth 100000 in
set_option maxHeartbeats 4000000 in
theorem All_any (s : ByteArray) (attr : Bool) (w : World) (hs : s.size ≤ 1099511627776) : Calls Tryz.prog 111 #[.string s, .bool attr] w fun e w' => e = .returned (.string (strB (allS s.toList attr))) ∧ Below w.heap.size w w' := by
  have HTot : Hid ((allS s.toList attr).length ≤ 2199023255552) := Lib.hid (by have := allS_len attr _ s.toList (Nat.le_refl _); rw [size_toList] at this; omega)
  go_enter Tryz.func111, Tryz.ntmps111
  go_wp2_with fail
  go_loopw [0] (fun v wr => ∃ (cur : ByteArray) (acc : Str), v = .string cur ∧ cur.size ≤ s.size ∧ Lib.IsBuilderF 76 5 w.heap.size w.heap.size (bytesV acc) wr ∧ Below w.heap.size w wr ∧ acc ++ allS cur.toList attr = allS s.toList attr) (fun v _ => strLen v)
  case atStart => exact ⟨s, [], rfl, Nat.le_refl _, Lib.IsBuilderF.of (Lib.fresh_isBuilder 76 5 w), (Below.refl _ _).alloc (Nat.le_refl _) _, rfl⟩
  case round =>
    obtain ⟨cur, acc, rfl, hcs, hI, hb, hv⟩ := hrel
    have HI := Lib.hid hI
    have HB := Lib.hid hb
    have HV := Lib.hid hv
    have hsz := hb.size
    have hacc : acc.length + (allS cur.toList attr).length ≤ 2199023255552 := by have := HTot.out; rw [← hv, List.length_append] at this; exact this
    have hcur : cur.size ≤ 1099511627776 := by omega
    clear hI hb hv
    rcases idx_cases cur with ⟨h1, h2⟩ | ⟨i, r, h1, hi, hdr, hpre⟩
    · have hix : ∀ u, Calls Tryz.prog 50 #[.string cur, .int .u8 38] u _ := fun u => IndexByte_any cur 38 u
      have e38 : (38 : Int).toNat.toUInt8 = 38 := rfl
      rw [e38, h1] at hix
      have hap := allS_plain attr cur.toList h2
      rw [hap] at hacc
      have HIX := Lib.hid hix
      have HAP := Lib.hid hap
      have hbl : (bytesV acc).length + cur.size ≤ 140737488355328 := by rw [bytesV_length, ← size_toList]; omega
      have HBL := Lib.hid hbl
      clear hix h1 h2 hap hacc hbl e38
      go_wp2_with (first
        | (go_at_call 50; go_must (refine (HIX.out _).mono ?_; rintro e w1 ⟨rfl, rfl⟩))
        | (go_at_call 37; go_must (refine (WriteString_any w.heap.size w.heap.size _ cur _ HI.out HBL.out hsz).mono ?_; rintro e W1 ⟨rfl, g1, b1, k1⟩; have HG1 := Lib.hid g1; have HB1 := Lib.hid b1; have hs1 := b1.size; have HI2 := Lib.hid (show Lib.IsBuilderF 76 5 w.heap.size w.heap.size (Lib.byteCells (acc ++ cur.toList)) W1 from by rw [show Lib.byteCells (acc ++ cur.toList) = bytesV acc ++ Lib.strCells cur from by rw [strCells_bytes]; exact bytesV_two _ _]; exact .inr g1); have hs2 := Nat.le_trans hsz (Nat.le_refl _); clear g1 b1 k1))
        | (go_at_call 39; go_must (refine (BString_any w.heap.size w.heap.size _ _ HI2.out (by have := HB1.out.size; omega)).mono ?_; rintro e W2 ⟨rfl, g2, b2, k2⟩; have HB2 := Lib.hid b2; clear g2 b2 k2)))
      go_ret
      exact ⟨ret_strB (by rw [← HV.out, HAP.out]), (HB.out.trans HB1.out).trans HB2.out⟩
    · have hix : ∀ u, Calls Tryz.prog 50 #[.string cur, .int .u8 38] u _ := fun u => IndexByte_any cur 38 u
      have e38 : (38 : Int).toNat.toUInt8 = 38 := rfl
      rw [e38, h1] at hix
      have HIX := Lib.hid hix
      have hcl : (cur.extract 0 i).toList = cur.toList.take i := by rw [ext_list, List.drop_zero, Nat.sub_zero]
      have hrl : (cur.extract i cur.size).toList = 38 :: r := by rw [ext_drop', hdr]
      have hall : allS cur.toList attr = cur.toList.take i ++ allS (38 :: r) attr := by
        conv => lhs; rw [← List.take_append_drop i cur.toList, hdr]
        exact allS_pre attr _ _ hpre
      have htk := fun u => Take_any (cur.extract i cur.size) attr u (by rw [ByteArray.size_extract]; omega)
      rw [hrl] at htk
      have hnle := takeF_le (38 :: r) attr
      have hrlen : (38 :: r : Str).length = cur.size - i := by rw [← hdr, List.length_drop, size_toList]
      rw [hall, List.length_append] at hacc
      have hcz : (cur.extract 0 i).size = (cur.toList.take i).length := by rw [← size_toList, hcl]
      have hbl : (bytesV acc).length + (cur.extract 0 i).size ≤ 140737488355328 := by rw [bytesV_length, hcz]; omega
      have HBL := Lib.hid hbl
      have hdn : ∀ n : Nat, (cur.extract (i + n) cur.size).toList = (38 :: r : Str).drop n := fun n => by rw [ext_drop', ← hdr, List.drop_drop]
      have HDN := Lib.hid hdn
      have HALL := Lib.hid hall
      have hext : ∀ W, Lib.BuilderAtF 76 5 w.heap.size w.heap.size (.pointer (some ⟨w.heap.size, 0, none⟩)) (bytesV acc ++ Lib.strCells (cur.extract 0 i)) W → Lib.IsBuilderF 76 5 w.heap.size w.heap.size (bytesV (acc ++ cur.toList.take i)) W := fun W hW => by
        rw [bytesV_two, ← hcl, ← strCells_bytes]; exact .inr hW
      have HEXT := Lib.hid hext
      clear hix h1 hcl hrl hdr hpre hall e38 hbl hdn hcz hext
      by_cases hn0 : (takeF (38 :: r) attr).2 = 0
      · have HM := Lib.hid (all_miss hn0)
        rw [hn0] at htk
        have HTK := Lib.hid htk
        rw [HM.out, List.length_cons] at hacc
        have hr1 : i + 1 ≤ cur.size := by simp only [List.length_cons] at hrlen; omega
        have hbl2 : (bytesV (acc ++ cur.toList.take i)).length + (⟨#[38]⟩ : ByteArray).size ≤ 140737488355328 := by rw [bytesV_length, List.length_append]; show _ + 1 ≤ _; omega
        have HBL2 := Lib.hid hbl2
        clear htk hn0 hnle hrlen hbl2 hacc
        go_wp2_with (go_at_call 50; go_must (refine (HIX.out _).mono ?_; rintro e w1 ⟨rfl, rfl⟩))
        refine (WriteString_any w.heap.size w.heap.size _ (cur.extract 0 i) _ HI.out HBL.out hsz).mono ?_
        rintro e W1 ⟨rfl, g1, b1, k1⟩
        have HI2 := Lib.hid (HEXT.out _ g1)
        have HB1 := Lib.hid (HB.out.trans b1)
        have hs1 := Nat.le_trans hsz b1.size
        clear g1 b1 k1
        dsimp only
        go_wp2_with (go_at_call 67; fail)
        refine (HTK.out _).mono ?_
        rintro e W2 ⟨rfl, hb2⟩
        have HI3 := Lib.hid (builder_below HI2.out hb2)
        have HB2 := Lib.hid (belowCall HB1.out hb2)
        have hs2 := Nat.le_trans hs1 hb2.size
        clear hb2
        dsimp only
        go_wp2_with (go_at_call 37; fail)
        refine (WriteString_any w.heap.size w.heap.size _ ⟨#[38]⟩ _ HI3.out HBL2.out hs2).mono ?_
        rintro e W3 ⟨rfl, g1, b1, k1⟩
        have HI4 := Lib.hid g1
        have HB3 := Lib.hid (HB2.out.trans b1)
        clear g1 b1 k1
        dsimp only
        go_wp2_with fail
        go_roundw
        case rel =>
          refine ⟨cur.extract (i + 1) cur.size, acc ++ cur.toList.take i ++ [38], rfl, by rw [ByteArray.size_extract]; omega, ?_, HB3.out, ?_⟩
          · rw [bytesV_two]; exact .inr HI4.out
          · rw [← HV.out, HALL.out, HM.out, HDN.out]; simp
        case measure => simp only [strLen, ByteArray.size_extract]; omega
      · have HM := Lib.hid (all_hit hn0)
        have hlen2 := takeF_len (38 :: r) attr hn0
        obtain ⟨n, hn⟩ : ∃ n, n = (takeF (38 :: r) attr).2 := ⟨_, rfl⟩
        rw [HM.out, List.length_append] at hacc
        rw [← hn] at htk hn0 hnle HM hacc
        have hnz : ((n : Nat) : Int) ≠ 0 := by omega
        have hnz' : (((n : Nat) : Int) == 0) = false := by rw [beq_eq_false_iff_ne]; exact hnz
        have hin : i + n ≤ cur.size := by omega
        have hn1 : 1 ≤ n := by omega
        have HTK := Lib.hid htk
        have hbl2 : (bytesV (acc ++ cur.toList.take i)).length + (strB (takeF (38 :: r) attr).1).size ≤ 140737488355328 := by rw [bytesV_length, List.length_append, strB_size]; omega
        have HBL2 := Lib.hid hbl2
        clear htk hn0 hnle hrlen hbl2 hacc hn hlen2 hnz
        go_wp2_with (go_at_call 50; go_must (refine (HIX.out _).mono ?_; rintro e w1 ⟨rfl, rfl⟩))
        refine (WriteString_any w.heap.size w.heap.size _ (cur.extract 0 i) _ HI.out HBL.out hsz).mono ?_
        rintro e W1 ⟨rfl, g1, b1, k1⟩
        have HI2 := Lib.hid (HEXT.out _ g1)
        have HB1 := Lib.hid (HB.out.trans b1)
        have hs1 := Nat.le_trans hsz b1.size
        clear g1 b1 k1
        dsimp only
        go_wp2_with (go_at_call 67; fail)
        refine (HTK.out _).mono ?_
        rintro e W2 ⟨rfl, hb2⟩
        have HI3 := Lib.hid (builder_below HI2.out hb2)
        have HB2 := Lib.hid (belowCall HB1.out hb2)
        have hs2 := Nat.le_trans hs1 hb2.size
        clear hb2
        dsimp only
        go_wp2_with (go_at_call 37; fail)
        refine (WriteString_any w.heap.size w.heap.size _ (strB (takeF (38 :: r) attr).1) _ HI3.out HBL2.out hs2).mono ?_
        rintro e W3 ⟨rfl, g1, b1, k1⟩
        have HI4 := Lib.hid g1
        have HB3 := Lib.hid (HB2.out.trans b1)
        clear g1 b1 k1
        dsimp only
        go_wp2_with fail
        go_roundw
        case rel =>
          refine ⟨cur.extract (i + n) cur.size, acc ++ cur.toList.take i ++ (takeF (38 :: r) attr).1, rfl, by rw [ByteArray.size_extract]; omega, ?_, HB3.out, ?_⟩
          · rw [bytesV_two]; exact .inr HI4.out
          · rw [← HV.out, HALL.out, HM.out, HDN.out]; simp
        case measure => simp only [strLen, ByteArray.size_extract]; omega
end Go.Proofs.YtbabcohidpcjjaaGreat

/-
  Contracts: refs.begins, refs.More: could bytes behind make another reference?
-/
namespace Go.Proofs.YtbabcohidpcjjaaGreat
open Go.RowKit Mem

def namesO : List ByteArray := [⟨#[97, 109, 112]⟩, ⟨#[65, 77, 80]⟩, ⟨#[108, 116]⟩, ⟨#[76, 84]⟩, ⟨#[103, 116]⟩, ⟨#[113, 117, 111, 116]⟩, ⟨#[110, 98, 115, 112]⟩, ⟨#[99, 111, 112, 121]⟩, ⟨#[114, 101, 103]⟩, ⟨#[110, 111, 116]⟩, ⟨#[112, 97, 114, 97]⟩, ⟨#[116, 105, 109, 101, 115]⟩, ⟨#[100, 105, 118, 105, 100, 101]⟩, ⟨#[101, 97, 99, 117, 116, 101]⟩, ⟨#[69, 84, 72]⟩, ⟨#[115, 122, 108, 105, 103]⟩, ⟨#[97, 112, 111, 115]⟩, ⟨#[110, 111, 116, 105, 110]⟩, ⟨#[99, 111, 112, 121, 115, 114]⟩, ⟨#[112, 97, 114, 97, 108, 108, 101, 108]⟩, ⟨#[116, 105, 109, 101, 115, 98]⟩, ⟨#[108, 116, 105, 109, 101, 115]⟩, ⟨#[103, 116, 100, 111, 116]⟩, ⟨#[104, 101, 108, 108, 105, 112]⟩, ⟨#[110, 100, 97, 115, 104]⟩, ⟨#[109, 100, 97, 115, 104]⟩, ⟨#[108, 115, 113, 117, 111]⟩, ⟨#[114, 115, 113, 117, 111]⟩, ⟨#[108, 100, 113, 117, 111]⟩, ⟨#[114, 100, 113, 117, 111]⟩, ⟨#[101, 117, 114, 111]⟩, ⟨#[116, 114, 97, 100, 101]⟩, ⟨#[108, 97, 114, 114]⟩, ⟨#[114, 97, 114, 114]⟩, ⟨#[84, 97, 98]⟩, ⟨#[78, 101, 119, 76, 105, 110, 101]⟩, ⟨#[99, 111, 108, 111, 110]⟩, ⟨#[115, 111, 108]⟩, ⟨#[113, 117, 101, 115, 116]⟩, ⟨#[108, 112, 97, 114]⟩, ⟨#[122, 119, 106]⟩, ⟨#[78, 111, 116, 69, 113, 117, 97, 108, 84, 105, 108, 100, 101]⟩, ⟨#[84, 104, 105, 99, 107, 83, 112, 97, 99, 101]⟩, ⟨#[110, 118, 108, 116]⟩]
theorem namesO_any (s : Str) : (namesO.any fun p => s.isPrefixOf p.toList) = beginsF s := by
  have h1 : ∀ p ∈ namesO, ∃ q ∈ bareT ++ boundT, q.1 = p.data.toList := by decide +kernel
  have h2 : ∀ q ∈ bareT ++ boundT, ∃ p ∈ namesO, q.1 = p.data.toList := by decide +kernel
  unfold beginsF
  rw [Bool.eq_iff_iff, List.any_eq_true, List.any_eq_true]
  constructor
  · rintro ⟨p, hp, h⟩
    obtain ⟨q, hq, e⟩ := h1 p hp
    exact ⟨q, hq, by rw [e, ← ByteArray.toList_eq]; exact h⟩
  · rintro ⟨q, hq, h⟩
    obtain ⟨p, hp, e⟩ := h2 q hq
    exact ⟨p, hp, by rw [ByteArray.toList_eq, ← e]; exact h⟩
theorem namesO_step (s : Str) (k : Nat) (h : k < namesO.length) (b : Bool) (hb : s.isPrefixOf namesO[k].toList = b) : ((namesO.drop k).any fun p => s.isPrefixOf p.toList) = (b || (namesO.drop (k + 1)).any fun p => s.isPrefixOf p.toList) := by
  rw [List.drop_eq_getElem_cons h, List.any_cons, hb]
theorem hasp_any (s p : ByteArray) (w : World) : Calls Tryz.prog 62 #[.string s, .string p] w fun e w' => e = .returned (.bool (p.toList.isPrefixOf s.toList)) ∧ w = w' := by
  refine (HasPrefix_any s p w).mono fun e w' ⟨he, hw⟩ => ⟨?_, hw.symm⟩
  rw [he, ByteArray.toList_eq, ByteArray.toList_eq]; rfl

set_option maxRecDepth 100000 in
set_option maxHeartbeats 2000000 in
theorem begins_any (s : ByteArray) (w : World) : Calls Tryz.prog 84 #[.string s] w fun e w' => e = .returned (.bool (beginsF s.toList)) ∧ Below w.heap.size w w' := by
  have HP := Lib.hid (namesO_any s.toList)
  have hl44 : namesO.length = 44 := rfl
  have HL := Lib.hid hl44
  clear hl44
  have HB := Lib.hid ((Below.refl _ w).alloc (Nat.le_refl _) (.cells (strsV namesO).toArray 9))
  have HA := Lib.hid (at_alloc (w := w) (cur := (strsV namesO).toArray) (e := 9) rfl rfl)
  go_enter Tryz.func84, Tryz.ntmps84
  go_wp2_with ((with_reducible refine wpList_new_at 5 (.slice (some ⟨w.heap.size, 0, none⟩) 44 44) (.cells (strsV namesO).toArray 9) rfl rfl (by kernel_rfl) ?_); simp only [Act.put, List.setIfInBounds_toArray, List.set_cons_zero, List.set_cons_succ]; generalize w.alloc (.cells (strsV namesO).toArray 9) = wa at *)
  go_loop [7] (fun i => ∃ k : Nat, k ≤ 44 ∧ i = .int .i64 k ∧ ((namesO.drop k).any fun p => s.toList.isPrefixOf p.toList) = beginsF s.toList) (fun i => 44 - (intOf i).toNat)
  case atStart => exact ⟨0, by omega, rfl, by rw [List.drop_zero]; exact HP.out⟩
  case round =>
    obtain ⟨k, hk, rfl, hv⟩ := hrel
    have HV := Lib.hid hv
    clear hv
    by_cases hlt : k < 44
    · have hlt' : k < namesO.length := by rw [HL.out]; exact hlt
      have hc := HA.out.get (strsV_get namesO k hlt')
      rw [Nat.zero_add] at hc
      obtain ⟨nm, hnm⟩ : ∃ nm, nm = namesO[k] := ⟨_, rfl⟩
      have hst := fun b hb => namesO_step s.toList k hlt' b hb
      rw [← hnm] at hc hst
      have hh := hasp_any nm s wa
      cases hb : s.toList.isPrefixOf nm.toList
      · have HS := Lib.hid (hst false hb)
        rw [hb] at hh
        have HH := Lib.hid hh
        clear hst hh hb hnm
        by_cases hle : s.size ≤ nm.size
        all_goals
          go_wp2_with (go_at_call 62; go_must (refine HH.out.mono ?_; rintro e w1 ⟨rfl, rfl⟩))
          go_round
          case rel => exact ⟨k + 1, by omega, by go_num, by rw [← HV.out, HS.out, Bool.false_or]⟩
          case measure => simp [intOf]; omega
      · have HS := Lib.hid (hst true hb)
        have hle : s.size ≤ nm.size := by
          have := (List.isPrefixOf_iff_prefix.1 hb).length_le
          rwa [size_toList, size_toList] at this
        rw [hb] at hh
        have HH := Lib.hid hh
        clear hst hh hb hnm
        go_wp2_with (go_at_call 62; go_must (refine HH.out.mono ?_; rintro e w1 ⟨rfl, rfl⟩))
        go_ret
        exact ⟨ret_bool (by rw [← HV.out, HS.out, Bool.true_or]), HB.out⟩
    · go_wp2_with fail
      go_ret
      exact ⟨ret_bool (by rw [← HV.out, List.drop_of_length_le (by rw [HL.out]; omega)]; rfl), HB.out⟩

set_option maxHeartbeats 1000000 in
theorem More_any (s : ByteArray) (w : World) (hs : s.size ≤ 9223372036854775807) : Calls Tryz.prog 66 #[.string s] w fun e w' => e = .returned (.bool (moreF s.toList)) ∧ Below w.heap.size w w' := by
  have key : s.toList.head? ≠ some 38 → Calls Tryz.prog 66 #[.string s] w fun e w' => e = .returned (.bool (moreF s.toList)) ∧ Below w.heap.size w w' := by
    intro hh
    have hp := pre_no hh
    have HT : Hid (moreF s.toList = false) := by show _ = _; rw [moreF, hp, hp]; rfl
    have HC := Lib.hid (cutp_no (s := s) (p := ⟨#[38, 35]⟩) (by rw [b3835]; exact hp [35]) w)
    have HC2 := Lib.hid (cutp_no (s := s) (p := ⟨#[38]⟩) (by rw [b38]; exact hp []) w)
    clear hp hh
    go_enter Tryz.func66, Tryz.ntmps66
    go_wp2_with (go_at_call 82; go_must (first | (with_reducible refine HC.out.mono ?_) | (with_reducible refine HC2.out.mono ?_)); rintro e w1 ⟨rfl, rfl⟩)
    go_ret
    exact ⟨ret_bool HT.out.symm, Below.refl _ _⟩
  rcases amp_cases s.toList with ⟨r, h⟩ | ⟨r, h, h35⟩ | ⟨c, r, h, h'⟩ | h
  · have hrs : r.length + 2 = s.size := by rw [← size_toList, h]; simp
    obtain ⟨rb, hrb⟩ : ∃ rb, rb = strB r := ⟨_, rfl⟩
    have hrl : rb.toList = r := by rw [hrb, toList_strB]
    have hsz : rb.size = r.length := by rw [hrb, strB_size]
    have HT : Hid (moreF s.toList = decide (numN r = rb.size)) := by show _ = _; rw [h, moreF_hash, hsz]; rfl
    have hc := cutp_yes (s := s) (p := ⟨#[38, 35]⟩) (r := r) (by rw [h, b3835]; rfl) w
    rw [← hrb] at hc
    have HC := Lib.hid hc
    have HN := Lib.hid (number_any rb w (by omega))
    rw [hrl] at HN
    generalize numN r = n at *
    generalize (numG r).2 = v at *
    generalize decide (0 < (numG r).1) = b at *
    clear h hrs hrb hrl hsz hc key
    go_enter Tryz.func66, Tryz.ntmps66
    go_wp2_with (first
      | (go_at_call 82; go_must (refine HC.out.mono ?_; rintro e w1 ⟨rfl, rfl⟩))
      | (go_at_call 83; go_must (refine HN.out.mono ?_; rintro e w1 ⟨rfl, rfl⟩)))
    go_ret
    exact ⟨ret_bool (by rw [HT.out, Bool.eq_iff_iff]; simp; omega), Below.refl _ _⟩
  · have hrs : r.length + 1 = s.size := by rw [← size_toList, h]; simp
    have HT : Hid (moreF s.toList = beginsF r) := by show _ = _; rw [h, moreF_amp h35]
    have HC := Lib.hid (cutp_no (s := s) (p := ⟨#[38, 35]⟩) (by rw [h, b3835]; exact pre2_no h35) w)
    have HC2 := Lib.hid (cutp_yes (s := s) (p := ⟨#[38]⟩) (r := r) (by rw [h, b38]; rfl) w)
    have hb := begins_any (strB r) w
    rw [toList_strB] at hb
    have HB := Lib.hid hb
    generalize strB r = rb at *
    clear h hrs hb key h35
    go_enter Tryz.func66, Tryz.ntmps66
    go_wp2_with (first
      | (go_at_call 82; go_must (first | (with_reducible refine HC.out.mono ?_) | (with_reducible refine HC2.out.mono ?_)); rintro e w1 ⟨rfl, rfl⟩)
      | (go_at_call 84; go_must (refine HB.out.mono ?_; rintro e w1 ⟨rfl, hb⟩; have HB1 := Lib.hid hb; clear hb)))
    go_ret
    exact ⟨ret_bool HT.out.symm, HB1.out⟩
  · exact key (by rw [h]; simpa using h')
  · exact key (by rw [h]; simp)
end Go.Proofs.YtbabcohidpcjjaaGreat

/-
  Contract: colanderref12.run: what the digits behind &# say.
-/
namespace Go.Proofs.YtbabcohidpcjjaaGreat
open Go.RowKit Mem

theorem ret_run {s : Str} {p f k v m : Nat} (hh : headN s = f) (hg : numG s = (k + 0, m)) (hp : p = f + k) :
    Ending.returned (.tuple #[.int .i64 p, .int .i64 k, .int .i64 v]) = .returned (.tuple #[.int .i64 (numN s), .int .i64 (numG s).1, .int .i64 v]) := by
  have h1 : numN s = p := by unfold numN; rw [hh, hg]; exact hp.symm
  rw [h1, hg]; rfl
theorem small_x {c : UInt8} (h : c = 120 ∨ c = 88) : smallI (c.toNat : Nat) = 120 := by
  rcases h with rfl | rfl <;> rfl
theorem small_nx {c : UInt8} (h : c ≠ 120) (h' : c ≠ 88) : (smallI (c.toNat : Nat) == 120) = false := by
  have h1 := byte_ne h
  have h2 := byte_ne h'
  rw [beq_eq_false_iff_ne] at h1 h2 ⊢
  unfold smallI
  have e1 : ((120 : UInt8).toNat : Int) = 120 := rfl
  have e2 : ((88 : UInt8).toNat : Int) = 88 := rfl
  split <;> omega
set_option maxRecDepth 100000 in
set_option maxHeartbeats 4000000 in
theorem run_any (s : ByteArray) (w : World) (hs : s.size ≤ 9223372036854775807) : Calls Tryz.prog 57 #[.string s] w fun e w' =>
    ∃ v : Nat, e = .returned (.tuple #[.int .i64 (numN s.toList), .int .i64 (numG s.toList).1, .int .i64 v]) ∧ min v 1114112 = (numG s.toList).2 ∧ v ≤ 17825807 ∧ Below w.heap.size w w' := by
  by_cases h0 : 0 < s.size
  · have hxB := xB_byte s h0
    have hu0 := s[0].toNat_lt
    have hsm := fun u => Small_any (s[0].toNat : Nat) u (by omega) (by omega)
    by_cases hx : s[0] = 120 ∨ s[0] = 88
    · obtain ⟨hh, hg⟩ := head_x (s := s.toList) (by rw [hxB]; rcases hx with h | h <;> rw [h] <;> rfl)
      have HH := Lib.hid hh
      have HG := Lib.hid hg
      rw [small_x hx] at hsm
      have HS := Lib.hid hsm
      clear hh hg hxB hx hsm
      go_enter Tryz.func57, Tryz.ntmps57
      go_wp2_with (go_at_call 55; go_must (refine (HS.out _).mono ?_; rintro e w1 ⟨rfl, rfl⟩))
      go_loopw [6, 7, 8] (fun i q x wr => ∃ p k v : Nat, p = 1 + k ∧ k ≤ 16 ∧ p ≤ s.size ∧ v ≤ 17825807 ∧ i = .int .i64 p ∧ q = .int .i64 k ∧ x = .int .i64 v ∧ Below w.heap.size w wr ∧ numG s.toList = (k + (digsF 16 (16 - k) (s.toList.drop p) (min v 1114112)).1, (digsF 16 (16 - k) (s.toList.drop p) (min v 1114112)).2)) (fun i _ _ _ => s.size - (intOf i).toNat)
      case atStart => exact ⟨1, 0, 0, by omega, by omega, by omega, by omega, rfl, rfl, rfl, Below.refl _ _, by rw [HG.out, Nat.zero_add]; rfl⟩
      case round =>
        obtain ⟨p, k, v, hpk, hk, hp2, hv, rfl, rfl, rfl, hb, hg⟩ := hrel
        have HR := Lib.hid hg
        have HB := Lib.hid hb
        have HPK := Lib.hid hpk
        clear hg hb hpk
        by_cases hlt : p < s.size
        · by_cases hlf : k < 16
          · have hu := s[p].toNat_lt
            have hdr := drop_byte s p hlt
            have hfu : 16 - k = (15 - k) + 1 := by omega
            rw [hfu, hdr] at HR
            have hval : ∀ u : World, Calls Tryz.prog 70 #[.int .u8 (s[p].toNat : Nat), .int .i64 16] u _ := fun u => digit_any s[p].toNat 16 (by omega) (by omega) u
            by_cases hd : digV s[p].toNat < 16
            · have hg := digsF_go (f := 15 - k) (r := s.toList.drop (p + 1)) (v := min v 1114112) hd
              rw [hg] at HR
              have hI : digI s[p].toNat 16 = (digV s[p].toNat : Nat) := by rw [digI, if_pos hd]
              rw [hI] at hval
              obtain ⟨d, hdd⟩ : ∃ d, d = digV s[p].toNat := ⟨_, rfl⟩
              rw [← hdd] at HR hval hd
              have HV := Lib.hid hval
              have hd0 : (d : Int) ≥ 0 := by omega
              clear hval hg hdr hfu hdd hI hu
              have HVV := Lib.hid hv
              obtain ⟨z, hz⟩ : ∃ z : Int, (v : Int) = z := ⟨_, rfl⟩
              have hz0 : 0 ≤ z := by omega
              have hz1 : z ≤ 17825807 := by omega
              have HZ := Lib.hid hz
              rw [hz]
              clear hv hz
              by_cases hvm : z < 1114112
              · go_wp2_with (go_at_call 70; fail)
                refine (HV.out _).mono ?_
                rintro e w1 ⟨rfl, hb1⟩
                have HB1 := Lib.hid hb1
                clear hb1
                dsimp only
                go_wp2_with (go_at_call 70; fail)
                refine (HV.out _).mono ?_
                rintro e w2 ⟨rfl, hb2⟩
                have HB2 := Lib.hid hb2
                clear hb2
                dsimp only
                go_wp2_with fail
                go_roundw
                case rel => exact ⟨p + 1, k + 1, v * 16 + d, by have := HPK.out; omega, by omega, by omega, by have := HZ.out; omega, by go_num, by go_num, int_eq (by have := HZ.out; omega), belowCall HB.out (belowCall HB1.out HB2.out), by rw [HR.out, show 16 - (k + 1) = 15 - k from by omega, show min (v * 16 + d) 1114112 = min (min v 1114112 * 16 + d) 1114112 from by have := HZ.out; omega]; exact Prod.ext (by show _ + (_ + 1) = _ + 1 + _; omega) rfl⟩
                case measure => simp [intOf]; omega
              · go_wp2_with (go_at_call 70; go_must (refine (HV.out _).mono ?_; rintro e w1 ⟨rfl, hb1⟩; have HB1 := Lib.hid hb1; clear hb1))
                go_roundw
                case rel => exact ⟨p + 1, k + 1, v, by have := HPK.out; omega, by omega, by omega, HVV.out, by go_num, by go_num, int_eq HZ.out.symm, belowCall HB.out HB1.out, by rw [HR.out, show 16 - (k + 1) = 15 - k from by omega, show min v 1114112 = min (min v 1114112 * 16 + d) 1114112 from by have := HZ.out; omega, show min (min (min v 1114112 * 16 + d) 1114112 * 16 + d) 1114112 = min (min v 1114112 * 16 + d) 1114112 from by have := HZ.out; omega]; exact Prod.ext (by show _ + (_ + 1) = _ + 1 + _; omega) rfl⟩
                case measure => simp [intOf]; omega
            · have hg := digsF_break (f := 15 - k) (r := s.toList.drop (p + 1)) (v := min v 1114112) hd
              rw [hg] at HR
              have hI : digI s[p].toNat 16 = -1 := by rw [digI, if_neg hd]
              rw [hI] at hval
              have HV := Lib.hid hval
              clear hval hg hdr hfu hd hI hu
              go_wp2_with (go_at_call 70; go_must (refine (HV.out _).mono ?_; rintro e w1 ⟨rfl, hb1⟩; have HB1 := Lib.hid hb1; clear hb1))
              go_ret3
              exact ⟨v, ret_run HH.out HR.out HPK.out, by rw [HR.out], hv, belowCall HB.out HB1.out⟩
          · have hfu : 16 - k = 0 := by omega
            rw [hfu, digsF_fuel] at HR
            clear hfu
            go_wp2_with fail
            go_ret3
            exact ⟨v, ret_run HH.out HR.out HPK.out, by rw [HR.out], hv, HB.out⟩
        · have hdr : s.toList.drop p = [] := List.drop_of_length_le (by rw [size_toList]; omega)
          rw [hdr, digsF_nil] at HR
          clear hdr
          go_wp2_with fail
          go_ret3
          exact ⟨v, ret_run HH.out HR.out HPK.out, by rw [HR.out], hv, HB.out⟩
    · obtain ⟨hh, hg⟩ := head_n (s := s.toList) (by rw [hxB]; simp only [not_or] at hx; simp [hx.1, hx.2])
      have HH := Lib.hid hh
      have HG := Lib.hid hg
      simp only [not_or] at hx
      have hn := small_nx hx.1 hx.2
      have HS := Lib.hid hsm
      clear hh hg hxB hx hsm
      go_enter Tryz.func57, Tryz.ntmps57
      go_wp2_with (go_at_call 55; go_must (refine (HS.out _).mono ?_; rintro e w1 ⟨rfl, rfl⟩))
      go_loopw [6, 7, 8] (fun i q x wr => ∃ p k v : Nat, p = 0 + k ∧ k ≤ 16 ∧ p ≤ s.size ∧ v ≤ 17825807 ∧ i = .int .i64 p ∧ q = .int .i64 k ∧ x = .int .i64 v ∧ Below w.heap.size w wr ∧ numG s.toList = (k + (digsF 10 (16 - k) (s.toList.drop p) (min v 1114112)).1, (digsF 10 (16 - k) (s.toList.drop p) (min v 1114112)).2)) (fun i _ _ _ => s.size - (intOf i).toNat)
      case atStart => exact ⟨0, 0, 0, by omega, by omega, by omega, by omega, rfl, rfl, rfl, Below.refl _ _, by rw [HG.out, Nat.zero_add]; rfl⟩
      case round =>
        obtain ⟨p, k, v, hpk, hk, hp2, hv, rfl, rfl, rfl, hb, hg⟩ := hrel
        have HR := Lib.hid hg
        have HB := Lib.hid hb
        have HPK := Lib.hid hpk
        clear hg hb hpk
        by_cases hlt : p < s.size
        · by_cases hlf : k < 16
          · have hu := s[p].toNat_lt
            have hdr := drop_byte s p hlt
            have hfu : 16 - k = (15 - k) + 1 := by omega
            rw [hfu, hdr] at HR
            have hval : ∀ u : World, Calls Tryz.prog 70 #[.int .u8 (s[p].toNat : Nat), .int .i64 10] u _ := fun u => digit_any s[p].toNat 10 (by omega) (by omega) u
            by_cases hd : digV s[p].toNat < 10
            · have hg := digsF_go (f := 15 - k) (r := s.toList.drop (p + 1)) (v := min v 1114112) hd
              rw [hg] at HR
              have hI : digI s[p].toNat 10 = (digV s[p].toNat : Nat) := by rw [digI, if_pos hd]
              rw [hI] at hval
              obtain ⟨d, hdd⟩ : ∃ d, d = digV s[p].toNat := ⟨_, rfl⟩
              rw [← hdd] at HR hval hd
              have HV := Lib.hid hval
              have hd0 : (d : Int) ≥ 0 := by omega
              clear hval hg hdr hfu hdd hI hu
              have HVV := Lib.hid hv
              obtain ⟨z, hz⟩ : ∃ z : Int, (v : Int) = z := ⟨_, rfl⟩
              have hz0 : 0 ≤ z := by omega
              have hz1 : z ≤ 17825807 := by omega
              have HZ := Lib.hid hz
              rw [hz]
              clear hv hz
              by_cases hvm : z < 1114112
              · go_wp2_with (go_at_call 70; fail)
                refine (HV.out _).mono ?_
                rintro e w1 ⟨rfl, hb1⟩
                have HB1 := Lib.hid hb1
                clear hb1
                dsimp only
                go_wp2_with (go_at_call 70; fail)
                refine (HV.out _).mono ?_
                rintro e w2 ⟨rfl, hb2⟩
                have HB2 := Lib.hid hb2
                clear hb2
                dsimp only
                go_wp2_with fail
                go_roundw
                case rel => exact ⟨p + 1, k + 1, v * 10 + d, by have := HPK.out; omega, by omega, by omega, by have := HZ.out; omega, by go_num, by go_num, int_eq (by have := HZ.out; omega), belowCall HB.out (belowCall HB1.out HB2.out), by rw [HR.out, show 16 - (k + 1) = 15 - k from by omega, show min (v * 10 + d) 1114112 = min (min v 1114112 * 10 + d) 1114112 from by have := HZ.out; omega]; exact Prod.ext (by show _ + (_ + 1) = _ + 1 + _; omega) rfl⟩
                case measure => simp [intOf]; omega
              · go_wp2_with (go_at_call 70; go_must (refine (HV.out _).mono ?_; rintro e w1 ⟨rfl, hb1⟩; have HB1 := Lib.hid hb1; clear hb1))
                go_roundw
                case rel => exact ⟨p + 1, k + 1, v, by have := HPK.out; omega, by omega, by omega, HVV.out, by go_num, by go_num, int_eq HZ.out.symm, belowCall HB.out HB1.out, by rw [HR.out, show 16 - (k + 1) = 15 - k from by omega, show min v 1114112 = min (min v 1114112 * 10 + d) 1114112 from by have := HZ.out; omega, show min (min (min v 1114112 * 10 + d) 1114112 * 10 + d) 1114112 = min (min v 1114112 * 10 + d) 1114112 from by have := HZ.out; omega]; exact Prod.ext (by show _ + (_ + 1) = _ + 1 + _; omega) rfl⟩
                case measure => simp [intOf]; omega
            · have hg := digsF_break (f := 15 - k) (r := s.toList.drop (p + 1)) (v := min v 1114112) hd
              rw [hg] at HR
              have hI : digI s[p].toNat 10 = -1 := by rw [digI, if_neg hd]
              rw [hI] at hval
              have HV := Lib.hid hval
              clear hval hg hdr hfu hd hI hu
              go_wp2_with (go_at_call 70; go_must (refine (HV.out _).mono ?_; rintro e w1 ⟨rfl, hb1⟩; have HB1 := Lib.hid hb1; clear hb1))
              go_ret3
              exact ⟨v, ret_run HH.out HR.out HPK.out, by rw [HR.out], hv, belowCall HB.out HB1.out⟩
          · have hfu : 16 - k = 0 := by omega
            rw [hfu, digsF_fuel] at HR
            clear hfu
            go_wp2_with fail
            go_ret3
            exact ⟨v, ret_run HH.out HR.out HPK.out, by rw [HR.out], hv, HB.out⟩
        · have hdr : s.toList.drop p = [] := List.drop_of_length_le (by rw [size_toList]; omega)
          rw [hdr, digsF_nil] at HR
          clear hdr
          go_wp2_with fail
          go_ret3
          exact ⟨v, ret_run HH.out HR.out HPK.out, by rw [HR.out], hv, HB.out⟩
  · obtain ⟨hh, hg⟩ := head_n (xB_empty h0)
    have hlen : s.size = 0 := by omega
    have hng : numG s.toList = (0, 0) := by
      rw [hg, List.eq_nil_of_length_eq_zero (by rw [size_toList]; omega : s.toList.length = 0)]; rfl
    have HH := Lib.hid hh
    have HG := Lib.hid hng
    have hle : (s.size : Int) ≤ 0 := by omega
    clear hh hg hng hlen
    go_enter Tryz.func57, Tryz.ntmps57
    go_wp2_with fail
    go_loop [6, 7, 8] (fun i q x => i = .int .i64 0 ∧ q = .int .i64 0 ∧ x = .int .i64 0) (fun _ _ _ => 0)
    case atStart => exact ⟨rfl, rfl, rfl⟩
    case round =>
      obtain ⟨rfl, rfl, rfl⟩ := hrel
      go_wp2_with fail
      go_ret3
      exact ⟨0, ret_run (p := 0) HH.out (k := 0) (m := 0) (by rw [HG.out]) rfl, by rw [HG.out]; rfl, by omega, Below.refl _ _⟩
end Go.Proofs.YtbabcohidpcjjaaGreat

/-
  Contract: colanderref12.Take: the reference at the front.
-/
namespace Go.Proofs.YtbabcohidpcjjaaGreat
open Go.RowKit Mem

theorem numF_min {v g : Nat} (h : min v 1114112 = g) : numF (v : Nat) = numF (g : Nat) := by
  by_cases hv : v ≤ 1114111
  · rw [show g = v from by omega]
  · have bad : ∀ n : Nat, 1114111 < n → numF (n : Nat) = encF 0xfffd := fun n hn => numF_bad (.inr (by
      cases hc : charB (n : Nat)
      · rfl
      · obtain ⟨_, _, _⟩ := (charB_iff _).1 hc; omega))
    rw [bad v (by omega), bad g (by omega)]
theorem pre59 (l : Str) : ([59] : Str).isPrefixOf l = (l.head? == some 59) := by
  cases l with
  | nil => rfl
  | cons c r =>
    rw [Bool.eq_iff_iff, List.isPrefixOf_iff_prefix]
    simp only [List.cons_prefix_cons, List.nil_prefix, and_true, List.head?_cons, beq_iff_eq, Option.some.injEq]
    exact ⟨fun h => h.symm, fun h => h.symm⟩
theorem ext_drop (s : ByteArray) (a : Nat) : (s.extract a s.size).toList = s.toList.drop a := by
  rw [ext_list, List.take_of_length_le (by rw [List.length_drop, size_toList]; omega)]
theorem b59 : (⟨#[59]⟩ : ByteArray).toList = [59] := by rw [ByteArray.toList_eq]
theorem beg12 {s p : ByteArray} {b : Bool} (h : p.toList.isPrefixOf s.toList = b) (u : World) : Calls Tryz.prog 56 #[.string s, .string p] u fun e w' => e = .returned (.bool b) ∧ u = w' := by
  have := begins12_any s p u
  rwa [h] at this

set_option maxRecDepth 100000 in
set_option maxHeartbeats 4000000 in
theorem Take12_hash (s : ByteArray) (r : Str) (attr : Bool) (w : World) (hs : s.size ≤ 9223372036854775807) (h : s.toList = 38 :: 35 :: r) : Calls Tryz.prog 46 #[.string s, .bool attr] w fun e w' =>
    e = .returned (.tuple #[.string (strB (takeF s.toList attr).1), .int .i64 (takeF s.toList attr).2]) ∧ Below w.heap.size w w' := by
  have HT : Hid (takeF s.toList attr = takeNum r) := by show _ = _; rw [h, takeF_hash]
  have HC := Lib.hid (fun u => beg12 (s := s) (p := ⟨#[38, 35]⟩) (b := true) (by rw [h, b3835]; simp) u)
  have hrs : r.length + 2 = s.size := by rw [← size_toList, h]; simp
  have hrl : (s.extract 2 s.size).toList = r := by rw [ext_drop, h]; rfl
  have hrun := fun u => run_any (s.extract 2 s.size) u (by rw [ByteArray.size_extract]; omega)
  rw [hrl] at hrun
  have hle := numN_le r
  obtain ⟨n, hn⟩ : ∃ n, n = numN r := ⟨_, rfl⟩
  obtain ⟨k, hk⟩ : ∃ k, k = (numG r).1 := ⟨_, rfl⟩
  rw [← hn, ← hk] at hrun
  have HRun := Lib.hid hrun
  have hnr : n + 2 ≤ s.size := by omega
  by_cases hc : k = 0
  · have HR := Lib.hid (takeNum_no (r := r) (by omega))
    have hc' : ((k : Nat) : Int) = 0 := by omega
    rw [hc'] at HRun
    clear h hrs hrl hle hn hk hc hc' hrun
    go_enter Tryz.func46, Tryz.ntmps46
    go_wp2_with (first
      | (go_at_call 56; go_must (refine (HC.out _).mono ?_); rintro e w1 ⟨rfl, rfl⟩)
      | (go_at_call 57; go_must (refine (HRun.out _).mono ?_; rintro e w1 ⟨v, rfl, hv1, hv2, hb⟩; have HB0 := Lib.hid hb; have HV1 := Lib.hid hv1; have HX := Lib.hid (fun u => Number12_any (v : Nat) u (by omega) (by omega)); clear hb hv1)))
    go_ret2
    exact ⟨ret2_str (by rw [HT.out, HR.out]; rfl) (by rw [HT.out, HR.out]; rfl), HB0.out⟩
  · have hx : (s.extract (2 + n) s.size).toList = r.drop n := by rw [ext_drop, h, Nat.add_comm 2 n]; rfl
    have hk0 : (numG r).1 ≠ 0 := by omega
    have hkz : (((k : Nat) : Int) == 0) = false := by rw [beq_eq_false_iff_ne]; omega
    cases h59 : ((r.drop n).head? == some 59)
    · have HC2 := Lib.hid (fun u => beg12 (s := s.extract (2 + n) s.size) (p := ⟨#[59]⟩) (b := false) (by rw [hx, b59, pre59, h59]) u)
      have HR := Lib.hid (takeNum_open hk0 (by rw [← hn]; simpa using h59))
      rw [← hn] at HR
      clear h hrs hrl hle hn hk hc hrun hx hk0 h59
      go_enter Tryz.func46, Tryz.ntmps46
      go_wp2_with (first
        | (go_at_call 56; go_must (first | (with_reducible refine (HC.out _).mono ?_) | (with_reducible refine (HC2.out _).mono ?_)); rintro e w1 ⟨rfl, rfl⟩)
        | (go_at_call 57; go_must (refine (HRun.out _).mono ?_; rintro e w1 ⟨v, rfl, hv1, hv2, hb⟩; have HB0 := Lib.hid hb; have HV1 := Lib.hid hv1; have HX := Lib.hid (fun u => Number12_any (v : Nat) u (by omega) (by omega)); clear hb hv1))
        | (go_at_call 58; go_must (refine (HX.out _).mono ?_; rintro e w2 ⟨rfl, hb⟩; have HB := Lib.hid hb; clear hb)))
      go_ret2
      exact ⟨ret2_str (by rw [HT.out, HR.out, numF_min HV1.out]) (by rw [HT.out, HR.out]; show _ = ((n + 2 : Nat) : Int); omega), belowCall HB0.out HB.out⟩
    · have HC2 := Lib.hid (fun u => beg12 (s := s.extract (2 + n) s.size) (p := ⟨#[59]⟩) (b := true) (by rw [hx, b59, pre59, h59]) u)
      have hnr3 : n + 3 ≤ s.size := by
        have : n < r.length := by
          rcases Nat.lt_or_ge n r.length with h' | h'
          · exact h'
          · rw [List.drop_of_length_le h'] at h59; cases h59
        omega
      have HR := Lib.hid (takeNum_semi hk0 (by rw [← hn]; simpa using h59))
      rw [← hn] at HR
      clear h hrs hrl hle hn hk hc hrun hx hk0 h59
      go_enter Tryz.func46, Tryz.ntmps46
      go_wp2_with (first
        | (go_at_call 56; go_must (first | (with_reducible refine (HC.out _).mono ?_) | (with_reducible refine (HC2.out _).mono ?_)); rintro e w1 ⟨rfl, rfl⟩)
        | (go_at_call 57; go_must (refine (HRun.out _).mono ?_; rintro e w1 ⟨v, rfl, hv1, hv2, hb⟩; have HB0 := Lib.hid hb; have HV1 := Lib.hid hv1; have HX := Lib.hid (fun u => Number12_any (v : Nat) u (by omega) (by omega)); clear hb hv1))
        | (go_at_call 58; go_must (refine (HX.out _).mono ?_; rintro e w2 ⟨rfl, hb⟩; have HB := Lib.hid hb; clear hb)))
      go_ret2
      exact ⟨ret2_str (by rw [HT.out, HR.out, numF_min HV1.out]) (by rw [HT.out, HR.out]; show _ = ((n + 1 + 2 : Nat) : Int); omega), belowCall HB0.out HB.out⟩

theorem wordN_small (n : Nat) : wordN n = (decide (97 ≤ smallI n) && decide (smallI n ≤ 122) || decide (48 ≤ smallI n) && decide (smallI n ≤ 57) || (smallI n == 61)) := by
  rw [smallI_nat, Bool.eq_iff_iff]
  unfold wordN smallN
  simp only [Bool.or_eq_true, Bool.and_eq_true, decide_eq_true_eq, beq_iff_eq]
  split <;> omega
set_option maxRecDepth 100000 in
set_option maxHeartbeats 8000000 in
theorem Take12_name (s : ByteArray) (r : Str) (attr : Bool) (w : World) (hs : s.size ≤ 9223372036854775807) (h : s.toList = 38 :: r) (h35 : r.head? ≠ some 35) : Calls Tryz.prog 46 #[.string s, .bool attr] w fun e w' =>
    e = .returned (.tuple #[.string (strB (takeF s.toList attr).1), .int .i64 (takeF s.toList attr).2]) ∧ Below w.heap.size w w' := by
  have HT : Hid (takeF s.toList attr = takeName r attr) := by show _ = _; rw [h, takeF_amp h35]
  have HC := Lib.hid (fun u => beg12 (s := s) (p := ⟨#[38, 35]⟩) (b := false) (by rw [h, b3835]; exact pre2_no h35) u)
  have HC2 := Lib.hid (fun u => beg12 (s := s) (p := ⟨#[38]⟩) (b := true) (by rw [h, b38]; simp) u)
  have hrs : r.length + 1 = s.size := by rw [← size_toList, h]; simp
  have hrl : (s.extract 1 s.size).toList = r := by rw [ext_drop, h]; rfl
  have hs1 : 1 ≤ s.size := by omega
  have hf := fun u => Find12_any (s.extract 1 s.size) u
  have hle := findF_le r
  rw [hrl] at hf
  obtain ⟨t, ht⟩ : ∃ t, t = strB (findF r).1 := ⟨_, rfl⟩
  rw [← ht] at hf
  have HFT := Lib.hid ht
  cases hn : (findF r).2 with
  | zero =>
    have HR := Lib.hid (takeName_no (attr := attr) (refused_zero hn))
    rw [hn] at hf
    have HF := Lib.hid hf
    clear h hrs hrl hle hn hf ht h35
    go_enter Tryz.func46, Tryz.ntmps46
    go_wp2_with (first
      | (go_at_call 56; go_must (first | (with_reducible refine (HC.out _).mono ?_) | (with_reducible refine (HC2.out _).mono ?_)); rintro e w1 ⟨rfl, rfl⟩)
      | (go_at_call 59; go_must (refine (HF.out _).mono ?_; rintro e w1 ⟨rfl, hb⟩; have HB := Lib.hid hb; clear hb)))
    go_ret2
    exact ⟨ret2_str (by rw [HT.out, HR.out]; rfl) (by rw [HT.out, HR.out]; rfl), HB.out⟩
  | succ m =>
    have hn0 : (findF r).2 ≠ 0 := by omega
    have hy := takeName_yes (r := r) (attr := attr)
    have hno := takeName_no (r := r) (attr := attr)
    rw [hn] at hf hle hy
    have hm : m + 1 < s.size := by omega
    have hlast : (r.take (findF r).2).getLast? = some s[m + 1] := by
      have h1 := last_byte s (m + 1) hm
      rw [h, List.take_succ_cons] at h1
      rw [hn, ← h1]
      rw [List.getLast?_cons]
      cases hr : (r.take (m + 1)).getLast? with
      | none =>
        have := List.getLast?_eq_none_iff.1 hr
        have := congrArg List.length this
        simp at this
        subst this
        simp at hrs
        omega
      | some c => rfl
    have HF : Hid (∀ u, Calls Tryz.prog 59 #[.string (s.extract 1 s.size)] u fun e w' => e = .returned (.tuple #[.string t, .int .i64 ((m : Int) + 1)]) ∧ Below u.heap.size u w') := by
      have e : ((m + 1 : Nat) : Int) = (m : Int) + 1 := by omega
      rw [e] at hf
      exact Lib.hid hf
    have hm1 : (m : Int) + 1 < (s.size : Int) := by omega
    have hmz : (((m : Int) + 1) == 0) = false := by rw [beq_eq_false_iff_ne]; omega
    cases attr
    · have HR := Lib.hid (hy (refused_plain hn0))
      clear h hrs hrl hle hn hf ht h35 hn0 hy hno hlast
      go_enter Tryz.func46, Tryz.ntmps46
      go_wp2_with (first
        | (go_at_call 56; go_must (first | (with_reducible refine (HC.out _).mono ?_) | (with_reducible refine (HC2.out _).mono ?_)); rintro e w1 ⟨rfl, rfl⟩)
        | (go_at_call 59; go_must (refine (HF.out _).mono ?_; rintro e w1 ⟨rfl, hb⟩; have HB := Lib.hid hb; clear hb)))
      go_ret2
      exact ⟨ret2_str (by rw [HT.out, HR.out, ← HFT.out]) (by rw [HT.out, HR.out]; show _ = ((m + 1 + 1 : Nat) : Int); omega), HB.out⟩
    · by_cases h59 : s[m + 1] = 59
      · have HR := Lib.hid (hy (refused_semi hn0 (by rw [hlast, h59])))
        have he : ((s[m + 1].toNat : Int) != 59) = false := byte_neq' h59
        clear h hrs hrl hle hn hf ht h35 hn0 hy hno hlast h59
        go_enter Tryz.func46, Tryz.ntmps46
        go_wp2_with (first
          | (go_at_call 56; go_must (first | (with_reducible refine (HC.out _).mono ?_) | (with_reducible refine (HC2.out _).mono ?_)); rintro e w1 ⟨rfl, rfl⟩)
          | (go_at_call 59; go_must (refine (HF.out _).mono ?_; rintro e w1 ⟨rfl, hb⟩; have HB := Lib.hid hb; clear hb)))
        go_ret2
        exact ⟨ret2_str (by rw [HT.out, HR.out, ← HFT.out]) (by rw [HT.out, HR.out]; show _ = ((m + 1 + 1 : Nat) : Int); omega), HB.out⟩
      · have he : ((s[m + 1].toNat : Int) != 59) = true := byte_neq h59
        by_cases hlt : m + 1 + 1 < s.size
        · have hhd := head_byte s (m + 1 + 1) hlt
          rw [h] at hhd
          have hu := s[m + 1 + 1].toNat_lt
          have hs9 := fun u => Small_any (s[m + 1 + 1].toNat : Nat) u (by omega) (by omega)
          have hrw := refused_word (d := s[m + 1 + 1]) hn0 hlast h59 (by rw [hn]; exact hhd)
          rw [wordB_nat, wordN_small] at hrw
          have hlt' : (s.size : Int) > (m : Int) + 1 + 1 := by omega
          have hb0 : 0 ≤ smallI (s[m + 1 + 1].toNat : Nat) ∧ smallI (s[m + 1 + 1].toNat : Nat) ≤ 255 := by rw [smallI_nat]; unfold smallN; split <;> omega
          obtain ⟨q, hq⟩ : ∃ q, q = smallI (s[m + 1 + 1].toNat : Nat) := ⟨_, rfl⟩
          rw [← hq] at hs9 hrw hb0
          obtain ⟨hb1, hb2⟩ := hb0
          have HS := Lib.hid hs9
          have HRW := Lib.hid hrw
          have HY := Lib.hid hy
          have HNO := Lib.hid hno
          have hq6 : (97 ≤ q ∧ q ≤ 122) ∨ (48 ≤ q ∧ q ≤ 57) ∨ q = 61 ∨ (q < 48) ∨ (57 < q ∧ q < 97 ∧ q ≠ 61) ∨ 122 < q := by omega
          clear h hrs hrl hle hn hf ht h35 hn0 hy hno hlast h59 hhd hu hs9 hrw hq
          rcases hq6 with ⟨c1, c2⟩ | ⟨c1, c2⟩ | c1 | c1 | ⟨c1, c2, c3⟩ | c1
          · have HR := Lib.hid (HNO.out (by rw [HRW.out]; simp [c1, c2]))
            go_enter Tryz.func46, Tryz.ntmps46
            go_wp2_with (first
              | (go_at_call 56; go_must (first | (with_reducible refine (HC.out _).mono ?_) | (with_reducible refine (HC2.out _).mono ?_)); rintro e w1 ⟨rfl, rfl⟩)
              | (go_at_call 59; go_must (refine (HF.out _).mono ?_; rintro e w1 ⟨rfl, hb⟩; have HB := Lib.hid hb; clear hb))
              | (go_at_call 55; go_must (refine (HS.out _).mono ?_; rintro e w1 ⟨rfl, rfl⟩)))
            go_ret2
            exact ⟨ret2_str (by rw [HT.out, HR.out]; rfl) (by rw [HT.out, HR.out]; rfl), HB.out⟩
          · have HR := Lib.hid (HNO.out (by rw [HRW.out]; simp [c1, c2]))
            go_enter Tryz.func46, Tryz.ntmps46
            go_wp2_with (first
              | (go_at_call 56; go_must (first | (with_reducible refine (HC.out _).mono ?_) | (with_reducible refine (HC2.out _).mono ?_)); rintro e w1 ⟨rfl, rfl⟩)
              | (go_at_call 59; go_must (refine (HF.out _).mono ?_; rintro e w1 ⟨rfl, hb⟩; have HB := Lib.hid hb; clear hb))
              | (go_at_call 55; go_must (refine (HS.out _).mono ?_; rintro e w1 ⟨rfl, rfl⟩)))
            go_ret2
            exact ⟨ret2_str (by rw [HT.out, HR.out]; rfl) (by rw [HT.out, HR.out]; rfl), HB.out⟩
          · have HR := Lib.hid (HNO.out (by rw [HRW.out]; simp [c1]))
            subst c1
            go_enter Tryz.func46, Tryz.ntmps46
            go_wp2_with (first
              | (go_at_call 56; go_must (first | (with_reducible refine (HC.out _).mono ?_) | (with_reducible refine (HC2.out _).mono ?_)); rintro e w1 ⟨rfl, rfl⟩)
              | (go_at_call 59; go_must (refine (HF.out _).mono ?_; rintro e w1 ⟨rfl, hb⟩; have HB := Lib.hid hb; clear hb))
              | (go_at_call 55; go_must (refine (HS.out _).mono ?_; rintro e w1 ⟨rfl, rfl⟩)))
            go_ret2
            exact ⟨ret2_str (by rw [HT.out, HR.out]; rfl) (by rw [HT.out, HR.out]; rfl), HB.out⟩
          all_goals
            have HR := Lib.hid (HY.out (by rw [HRW.out, Bool.eq_false_iff]; simp only [ne_eq, Bool.or_eq_true, Bool.and_eq_true, decide_eq_true_eq, beq_iff_eq]; omega))
            have h61 : (q == 61) = false := by rw [beq_eq_false_iff_ne]; omega
            try clear c3
            go_enter Tryz.func46, Tryz.ntmps46
            go_wp2_with (first
              | (go_at_call 56; go_must (first | (with_reducible refine (HC.out _).mono ?_) | (with_reducible refine (HC2.out _).mono ?_)); rintro e w1 ⟨rfl, rfl⟩)
              | (go_at_call 59; go_must (refine (HF.out _).mono ?_; rintro e w1 ⟨rfl, hb⟩; have HB := Lib.hid hb; clear hb))
              | (go_at_call 55; go_must (refine (HS.out _).mono ?_; rintro e w1 ⟨rfl, rfl⟩)))
            go_ret2
            exact ⟨ret2_str (by rw [HT.out, HR.out, ← HFT.out]) (by rw [HT.out, HR.out]; show _ = ((m + 1 + 1 : Nat) : Int); omega), HB.out⟩
        · have hhd := head_none s (m + 1 + 1) hlt
          rw [h] at hhd
          have HR := Lib.hid (hy (refused_end hn0 (by rw [hn]; exact hhd)))
          have hlt' : ¬ (s.size : Int) > (m : Int) + 1 + 1 := by omega
          clear h hrs hrl hle hn hf ht h35 hn0 hy hno hlast h59 hlt hhd
          go_enter Tryz.func46, Tryz.ntmps46
          go_wp2_with (first
            | (go_at_call 56; go_must (first | (with_reducible refine (HC.out _).mono ?_) | (with_reducible refine (HC2.out _).mono ?_)); rintro e w1 ⟨rfl, rfl⟩)
            | (go_at_call 59; go_must (refine (HF.out _).mono ?_; rintro e w1 ⟨rfl, hb⟩; have HB := Lib.hid hb; clear hb)))
          go_ret2
          exact ⟨ret2_str (by rw [HT.out, HR.out, ← HFT.out]) (by rw [HT.out, HR.out]; show _ = ((m + 1 + 1 : Nat) : Int); omega), HB.out⟩

theorem Take12_any (s : ByteArray) (attr : Bool) (w : World) (hs : s.size ≤ 9223372036854775807) : Calls Tryz.prog 46 #[.string s, .bool attr] w fun e w' =>
    e = .returned (.tuple #[.string (strB (takeF s.toList attr).1), .int .i64 (takeF s.toList attr).2]) ∧ Below w.heap.size w w' := by
  have key : s.toList.head? ≠ some 38 → Calls Tryz.prog 46 #[.string s, .bool attr] w fun e w' => e = .returned (.tuple #[.string (strB (takeF s.toList attr).1), .int .i64 (takeF s.toList attr).2]) ∧ Below w.heap.size w w' := by
    intro hh
    have hp := pre_no hh
    have HT : Hid (takeF s.toList attr = ([], 0)) := by show _ = _; rw [takeF, hp, hp]; rfl
    have HC := Lib.hid (fun u => beg12 (s := s) (p := ⟨#[38, 35]⟩) (b := false) (by rw [b3835]; exact hp [35]) u)
    have HC2 := Lib.hid (fun u => beg12 (s := s) (p := ⟨#[38]⟩) (b := false) (by rw [b38]; exact hp []) u)
    clear hp hh
    go_enter Tryz.func46, Tryz.ntmps46
    go_wp2_with (first
      | (go_at_call 56; go_must (first | (with_reducible refine (HC.out _).mono ?_) | (with_reducible refine (HC2.out _).mono ?_)); rintro e w1 ⟨rfl, rfl⟩))
    go_ret2
    exact ⟨ret2_str (by rw [HT.out]; rfl) (by rw [HT.out]; rfl), Below.refl _ _⟩
  rcases amp_cases s.toList with ⟨r, h⟩ | ⟨r, h, h'⟩ | ⟨c, r, h, h'⟩ | h
  · exact Take12_hash s r attr w hs h
  · exact Take12_name s r attr w hs h h'
  · exact key (by rw [h]; simpa using h')
  · exact key (by rw [h]; simp)
end Go.Proofs.YtbabcohidpcjjaaGreat

/-
  Contracts: the document's All (every reference replaced, byte by byte) and its Escape. Condition: the text's length is at most 2^40.
-/
namespace Go.Proofs.YtbabcohidpcjjaaGreat
open Go.RowKit Mem

/-- 'string(b)' of a slice that the call owns -/
theorem text_of_own {P : Program} {w : World} {base : Nat} {e src dst : TypeId} {v : Value} {l : Str} {n : Nat} (hs : P.underlying src = some (.slice e)) (he : P.underlying e = some (.int .u8)) (hd : P.underlying dst = some .string)
    (h : w.ownsRow base e 1 v n (bytesV l)) : (convert src dst v).run P w = .ok (.string (strB l)) w := by
  have hl : l.length = n := by have := h.1; rw [bytesV_length] at this; omega
  rcases h.2 with ⟨rfl, h0⟩ | ⟨g, cap, cur, rfl, _⟩
  · have : l = [] := List.eq_nil_of_length_eq_zero (by omega)
    subst this
    exact Lib.run_convert_nil_bytes w src dst e 0 hs he hd
  · exact run_string_of w src dst e g cap l n hl.symm hs he hd (own_row h)
theorem own_ge {w : World} {base : Nat} {e : TypeId} {size : Nat} {v : Value} {n : Nat} {xs : List Value} (h : w.ownsRow base e size v n xs) : ∀ b, v.ownBlock = some b → base ≤ b := fun b hb => (h.lt b hb).1

set_option maxRecDepth 100000 in
set_option maxHeartbeats 4000000 in
theorem All12_any (s : ByteArray) (attr : Bool) (w : World) (hs : s.size ≤ 1099511627776) : Calls Tryz.prog 31 #[.string s, .bool attr] w fun e w' => e = .returned (.string (strB (allS s.toList attr))) ∧ Below w.heap.size w w' := by
  obtain ⟨i0, hi, hz0, hz1, hz2⟩ := info_parts info_u8
  have HTot : Hid ((allS s.toList attr).length ≤ 2199023255552) := Lib.hid (by have := allS_len attr _ s.toList (Nat.le_refl _); rw [size_toList] at this; omega)
  go_enter Tryz.func31, Tryz.ntmps31
  go_wp2_with fail
  go_loopw [5, 6] (fun v i wr => ∃ (acc : Str) (k : Nat), k ≤ s.size ∧ i = .int .i64 k ∧ wr.ownsRow w.heap.size 5 1 v acc.length (bytesV acc) ∧ Below w.heap.size w wr ∧ acc ++ allS (s.toList.drop k) attr = allS s.toList attr) (fun _ i _ => s.size - (intOf i).toNat)
  case atStart => exact ⟨[], 0, Nat.zero_le _, rfl, World.ownsRow_nil _ _ _ _, Below.refl _ _, rfl⟩
  case round =>
    obtain ⟨acc, k, hk, rfl, ho, hb, hv⟩ := hrel
    have HO := Lib.hid ho
    have HB := Lib.hid hb
    have HZ := Lib.hid hb.size
    have hacc : acc.length + (allS (s.toList.drop k) attr).length ≤ 2199023255552 := by have := HTot.out; rw [← hv, List.length_append] at this; exact this
    by_cases hks : k < s.size
    · have hd := drop_byte s k hks
      by_cases hc : s[k] = 38
      · have hcT : ((s[k].toNat : Int) == 38) = true := byte_eq (c := 38) hc
        rw [hc] at hd
        have htk := fun u => Take12_any (s.extract k s.size) attr u (by rw [ByteArray.size_extract]; omega)
        rw [ext_drop, hd] at htk
        have hle := takeF_le (38 :: s.toList.drop (k + 1)) attr
        have hlen : (38 :: s.toList.drop (k + 1) : Str).length = s.size - k := by rw [← hd, List.length_drop, size_toList]
        rw [hlen] at hle
        by_cases hn0 : (takeF (38 :: s.toList.drop (k + 1)) attr).2 = 0
        · have hv2 : (acc ++ [s[k]]) ++ allS (s.toList.drop (k + 1)) attr = allS s.toList attr := by rw [← hv, hd, all_miss hn0, hc]; simp
          rw [hd, all_miss hn0, List.length_cons] at hacc
          rw [hn0] at htk
          have HTK := Lib.hid htk
          have HV := Lib.hid hv2
          have b1 : acc.length + 1 ≤ maxLen := by unfold maxLen; omega
          have b2 : (acc.length + 1) * 1 ≤ 140737488355328 := by omega
          clear ho hb hv hv2 htk hn0 hle hlen hd hacc hc
          go_wp2_with (first
            | (go_at_call 46; go_must (refine (HTK.out _).mono ?_; rintro e w2 ⟨rfl, hb2⟩; have HB2 := Lib.hid (belowCall HB.out hb2); have HQ := Lib.hid ((own_below HO.out hb2).alloc (.cells #[.int .u8 (s[k].toNat : Nat)] 5)); have HZ2 := Lib.hid (show w.heap.size ≤ (w2.alloc (.cells #[.int .u8 (s[k].toNat : Nat)] 5)).heap.size from by have := HB2.out.size; simp; omega); clear hb2))
            | (at_builtin; go_must (refine wpList_append_slice _ rfl _ _ 74 rfl w.heap.size 5 i0 _ 1 1 Tryz.underlying74 hi hz0 hz1 hz2 rfl (by decide) _ acc.length (bytesV acc) rfl HQ.out (some ⟨w2.heap.size, 0, none⟩) 1 1 (bytesV [s[k]]) rfl rfl (fun h => by cases h) (at_alloc rfl rfl) (bytesV_one' _) b1 b2 HZ2.out ?_; intro v3 w3 hown3 hgr3; have HO3 := Lib.hid hown3; have HB3 := Lib.hid ((HB2.out.alloc HB2.out.size _).grown hgr3 HZ2.out (own_ge HQ.out)); clear hown3 hgr3)))
          go_roundw
          case rel => exact ⟨acc ++ [s[k]], k + 1, by omega, by go_num, by rw [bytesV_two, List.length_append]; exact HO3.out, HB3.out, HV.out⟩
          case measure => simp [intOf]; omega
        · have hv2 : (acc ++ (takeF (38 :: s.toList.drop (k + 1)) attr).1) ++ allS (s.toList.drop (k + (takeF (38 :: s.toList.drop (k + 1)) attr).2)) attr = allS s.toList attr := by rw [← hv, hd, all_hit hn0, ← hd, List.drop_drop]; simp
          rw [hd, all_hit hn0, List.length_append] at hacc
          generalize hrep : (takeF (38 :: s.toList.drop (k + 1)) attr).1 = rep at *
          generalize hn : (takeF (38 :: s.toList.drop (k + 1)) attr).2 = n at *
          have HTK := Lib.hid htk
          have HV := Lib.hid hv2
          have hrs := strB_size rep
          have b1 : acc.length + (strB rep).size ≤ maxLen := by rw [hrs]; unfold maxLen; omega
          have b2 : acc.length + (strB rep).size ≤ 140737488355328 := by rw [hrs]; omega
          have hn0' : ((n : Int) == 0) = false := by rw [beq_eq_false_iff_ne]; omega
          clear ho hb hv hv2 htk hd hacc hc hrep hn hrs hlen
          go_wp2_with (first
            | (go_at_call 46; go_must (refine (HTK.out _).mono ?_; rintro e w2 ⟨rfl, hb2⟩; have HB2 := Lib.hid (belowCall HB.out hb2); have HQ := Lib.hid (own_below HO.out hb2); clear hb2))
            | (at_builtin; go_must (refine Lib.wpList_append_own_string _ rfl _ _ 74 9 rfl w.heap.size 5 i0 Tryz.underlying74 Tryz.underlying9 hi hz0 hz1 hz2 _ acc.length (bytesV acc) rfl HQ.out (strB rep) rfl b1 b2 HB2.out.size ?_; intro v3 w3 hown3 hgr3 _; have HO3 := Lib.hid hown3; have HB3 := Lib.hid (HB2.out.grown hgr3 HB2.out.size (own_ge HQ.out)); clear hown3 hgr3)))
          go_roundw
          case rel => exact ⟨acc ++ rep, k + n, by omega, by go_num, by rw [bytesV_two, List.length_append, ← strB_size rep]; exact HO3.out, HB3.out, HV.out⟩
          case measure => simp [intOf]; omega
      · have hcT : ((s[k].toNat : Int) == 38) = false := byte_ne (c := 38) hc
        have hv2 : (acc ++ [s[k]]) ++ allS (s.toList.drop (k + 1)) attr = allS s.toList attr := by rw [← hv, hd, allS_other hc]; simp
        rw [hd, allS_other hc, List.length_cons] at hacc
        have HV := Lib.hid hv2
        have b1 : acc.length + 1 ≤ maxLen := by unfold maxLen; omega
        have b2 : (acc.length + 1) * 1 ≤ 140737488355328 := by omega
        have HQ := Lib.hid (HO.out.alloc (.cells #[.int .u8 (s[k].toNat : Nat)] 5))
        have HZ2 := Lib.hid (show w.heap.size ≤ (wr.alloc (.cells #[.int .u8 (s[k].toNat : Nat)] 5)).heap.size from by have := HZ.out; simp; omega)
        clear ho hb hv hv2 hd hacc hc
        go_wp2_with (at_builtin; go_must (refine wpList_append_slice _ rfl _ _ 74 rfl w.heap.size 5 i0 _ 1 1 Tryz.underlying74 hi hz0 hz1 hz2 rfl (by decide) _ acc.length (bytesV acc) rfl HQ.out (some ⟨wr.heap.size, 0, none⟩) 1 1 (bytesV [s[k]]) rfl rfl (fun h => by cases h) (at_alloc rfl rfl) (bytesV_one' _) b1 b2 HZ2.out ?_; intro v3 w3 hown3 hgr3; have HO3 := Lib.hid hown3; have HB3 := Lib.hid ((HB.out.alloc HZ.out _).grown hgr3 HZ2.out (own_ge HQ.out)); clear hown3 hgr3))
        go_roundw
        case rel => exact ⟨acc ++ [s[k]], k + 1, by omega, by go_num, by rw [bytesV_two, List.length_append]; exact HO3.out, HB3.out, HV.out⟩
        case measure => simp [intOf]; omega
    · have hdn : s.toList.drop k = [] := List.drop_of_length_le (by rw [size_toList]; omega)
      rw [hdn, allS_nil, List.append_nil] at hv
      have hback := text_of_own (P := Tryz.prog) Tryz.underlying74 Tryz.underlying5 Tryz.underlying9 HO.out
      rw [hv] at hback
      clear ho hb hv hacc hdn
      go_wp2_with fail
      go_ret
      exact ⟨rfl, HB.out⟩
end Go.Proofs.YtbabcohidpcjjaaGreat
