/-
  Contract: refs.Take: the reference at the front, a name's; and the whole.
-/
import Derived.Test.YtbabcohidpcjjaaRefsL
namespace Go.Proofs.Ytbabcohidpcjjaa
open Go.RowKit Mem

theorem takeName_no {r : Str} {attr : Bool} (h : refused r attr = true) : takeName r attr = ([], 0) := by rw [takeName, if_pos h]
theorem takeName_yes {r : Str} {attr : Bool} (h : refused r attr = false) : takeName r attr = ((findF r).1, (findF r).2 + 1) := by rw [takeName, h]; rfl
theorem refused_zero {r : Str} {attr : Bool} (h : (findF r).2 = 0) : refused r attr = true := by simp [refused, h]
theorem refused_plain {r : Str} (h : (findF r).2 ≠ 0) : refused r false = false := by simp [refused, h]
theorem refused_semi {r : Str} {attr : Bool} (h : (findF r).2 ≠ 0) (h' : (r.take (findF r).2).getLast? = some 59) : refused r attr = false := by simp [refused, h, h']
theorem refused_end {r : Str} {attr : Bool} (h : (findF r).2 ≠ 0) (h' : (r.drop (findF r).2).head? = none) : refused r attr = false := by simp [refused, h, h']
theorem refused_word {r : Str} {c d : UInt8} (h : (findF r).2 ≠ 0) (h' : (r.take (findF r).2).getLast? = some c) (hc : c ≠ 59) (hd : (r.drop (findF r).2).head? = some d) : refused r true = wordB d := by
  unfold refused
  rw [h', hd, show ((findF r).2 == 0) = false from by simpa using h, show (some c == some (59 : UInt8)) = false from by simpa using hc]
  rfl
theorem pre2_no {r : Str} (h : r.head? ≠ some 35) : ([38, 35] : Str).isPrefixOf (38 :: r) = false := by
  rw [Bool.eq_false_iff]
  intro h'
  obtain ⟨t, ht⟩ := List.isPrefixOf_iff_prefix.1 h'
  simp only [List.cons_append, List.nil_append, List.cons.injEq, true_and] at ht
  rw [← ht] at h
  exact h rfl
theorem pre_no {s : Str} (h : s.head? ≠ some 38) (q : Str) : (38 :: q : Str).isPrefixOf s = false := by
  rw [Bool.eq_false_iff]
  intro h'
  obtain ⟨t, ht⟩ := List.isPrefixOf_iff_prefix.1 h'
  rw [← ht] at h
  exact h rfl
theorem b38 : (⟨#[38]⟩ : ByteArray).toList = [38] := by rw [ByteArray.toList_eq]
theorem b3835 : (⟨#[38, 35]⟩ : ByteArray).toList = [38, 35] := by rw [ByteArray.toList_eq]

set_option maxHeartbeats 4000000 in
theorem Take_name (s : ByteArray) (r : Str) (attr : Bool) (w : World) (hs : s.size ≤ 9223372036854775807) (h : s.toList = 38 :: r) (h35 : r.head? ≠ some 35) : Calls Try.prog 50 #[.string s, .bool attr] w fun e w' =>
    e = .returned (.tuple #[.string (strB (takeF s.toList attr).1), .int .i64 (takeF s.toList attr).2]) ∧ w = w' := by
  have HT : Hid (takeF s.toList attr = takeName r attr) := by show _ = _; rw [h, takeF_amp h35]
  have HC := Lib.hid (cutp_no (s := s) (p := ⟨#[38, 35]⟩) (by rw [h, b3835]; exact pre2_no h35) w)
  have HC2 := Lib.hid (cutp_yes (s := s) (p := ⟨#[38]⟩) (r := r) (by rw [h, ByteArray.toList_eq]; rfl) w)
  have hrs : r.length + 1 = s.size := by rw [← size_toList, h]; simp
  obtain ⟨rb, hrb⟩ : ∃ rb, rb = strB r := ⟨_, rfl⟩
  have hrl : rb.toList = r := by rw [hrb, toList_strB]
  have hsz : rb.size = r.length := by rw [hrb, strB_size]
  have hf := Find_any rb w (by omega)
  have hle := findF_le r
  rw [hrl] at hf
  rw [← hrb] at HC2
  have hr2 : rb.size ≤ 9223372036854775806 := by omega
  obtain ⟨t, ht⟩ : ∃ t, t = strB (findF r).1 := ⟨_, rfl⟩
  rw [← ht] at hf
  have HFT := Lib.hid ht
  cases hn : (findF r).2 with
  | zero =>
    have HR := Lib.hid (takeName_no (attr := attr) (refused_zero hn))
    rw [hn] at hf
    have HF := Lib.hid hf
    clear h hrs hrb hrl hsz hle hn hf ht h35
    go_enter Try.func50, Try.ntmps50
    go_wp2_with (first
      | (go_at_call 60; go_must (first | (with_reducible refine HC.out.mono ?_) | (with_reducible refine HC2.out.mono ?_)); rintro e w1 ⟨rfl, rfl⟩)
      | (go_at_call 64; go_must (refine HF.out.mono ?_; rintro e w1 ⟨rfl, rfl⟩)))
    go_ret2
    exact ⟨ret2_str (by rw [HT.out, HR.out]; rfl) (by rw [HT.out, HR.out]; rfl), rfl⟩
  | succ m =>
    have hn0 : (findF r).2 ≠ 0 := by omega
    have hy := takeName_yes (r := r) (attr := attr)
    have hno := takeName_no (r := r) (attr := attr)
    rw [hn] at hf hle hy
    have hm : m < rb.size := by omega
    have hlast := last_byte rb m hm
    rw [hrl, ← hn] at hlast
    have HF : Hid (Calls Try.prog 64 #[.string rb] w fun e w' => e = .returned (.tuple #[.string t, .int .i64 ((m : Int) + 1)]) ∧ w = w') := by
      have e : ((m + 1 : Nat) : Int) = (m : Int) + 1 := by omega
      rw [e] at hf
      exact Lib.hid hf
    have HFT := Lib.hid ht
    cases attr
    · have HR := Lib.hid (hy (refused_plain hn0))
      clear h hrs hrb hrl hsz hle hn hf ht h35 hn0 hy hno hlast
      go_enter Try.func50, Try.ntmps50
      go_wp2_with (first
        | (go_at_call 60; go_must (first | (with_reducible refine HC.out.mono ?_) | (with_reducible refine HC2.out.mono ?_)); rintro e w1 ⟨rfl, rfl⟩)
        | (go_at_call 64; go_must (refine HF.out.mono ?_; rintro e w1 ⟨rfl, rfl⟩)))
      go_ret2
      exact ⟨ret2_str (by rw [HT.out, HR.out, ← HFT.out]) (by rw [HT.out, HR.out]; show _ = ((m + 1 + 1 : Nat) : Int); omega), rfl⟩
    · by_cases h59 : rb[m] = 59
      · have HR := Lib.hid (hy (refused_semi hn0 (by rw [hlast, h59])))
        have he : ((rb[m].toNat : Int) != 59) = false := byte_neq' h59
        clear h hrs hrb hrl hsz hle hn hf ht h35 hn0 hy hno hlast h59
        go_enter Try.func50, Try.ntmps50
        go_wp2_with (first
          | (go_at_call 60; go_must (first | (with_reducible refine HC.out.mono ?_) | (with_reducible refine HC2.out.mono ?_)); rintro e w1 ⟨rfl, rfl⟩)
          | (go_at_call 64; go_must (refine HF.out.mono ?_; rintro e w1 ⟨rfl, rfl⟩)))
        go_ret2
        exact ⟨ret2_str (by rw [HT.out, HR.out, ← HFT.out]) (by rw [HT.out, HR.out]; show _ = ((m + 1 + 1 : Nat) : Int); omega), rfl⟩
      · have he : ((rb[m].toNat : Int) != 59) = true := byte_neq h59
        by_cases hlt : m + 1 < rb.size
        · have hhd := head_byte rb (m + 1) hlt
          rw [hrl] at hhd
          have hu := rb[m + 1].toNat_lt
          have hw := word_any rb[m + 1].toNat (by omega) w
          have hrw := refused_word hn0 hlast h59 (by rw [hn]; exact hhd)
          rw [wordB_nat] at hrw
          have hlt' : (m : Int) + 1 < (rb.size : Int) := by omega
          cases hwd : wordN rb[m + 1].toNat
          · rw [hwd] at hw hrw
            have HW := Lib.hid hw
            have HR := Lib.hid (hy hrw)
            clear h hrs hrb hrl hsz hle hn hf ht h35 hn0 hy hno hlast h59 hhd hu hw hrw hwd
            go_enter Try.func50, Try.ntmps50
            go_wp2_with (first
              | (go_at_call 60; go_must (first | (with_reducible refine HC.out.mono ?_) | (with_reducible refine HC2.out.mono ?_)); rintro e w1 ⟨rfl, rfl⟩)
              | (go_at_call 64; go_must (refine HF.out.mono ?_; rintro e w1 ⟨rfl, rfl⟩))
              | (go_at_call 65; go_must (refine HW.out.mono ?_; rintro e w1 ⟨rfl, rfl⟩)))
            go_ret2
            exact ⟨ret2_str (by rw [HT.out, HR.out, ← HFT.out]) (by rw [HT.out, HR.out]; show _ = ((m + 1 + 1 : Nat) : Int); omega), rfl⟩
          · rw [hwd] at hw hrw
            have HW := Lib.hid hw
            have HR := Lib.hid (hno hrw)
            clear h hrs hrb hrl hsz hle hn hf ht h35 hn0 hy hno hlast h59 hhd hu hw hrw hwd
            go_enter Try.func50, Try.ntmps50
            go_wp2_with (first
              | (go_at_call 60; go_must (first | (with_reducible refine HC.out.mono ?_) | (with_reducible refine HC2.out.mono ?_)); rintro e w1 ⟨rfl, rfl⟩)
              | (go_at_call 64; go_must (refine HF.out.mono ?_; rintro e w1 ⟨rfl, rfl⟩))
              | (go_at_call 65; go_must (refine HW.out.mono ?_; rintro e w1 ⟨rfl, rfl⟩)))
            go_ret2
            exact ⟨ret2_str (by rw [HT.out, HR.out]; rfl) (by rw [HT.out, HR.out]; rfl), rfl⟩
        · have HR := Lib.hid (hy (refused_end hn0 (by rw [hn, ← hrl, head_none rb (m + 1) hlt])))
          have hlt' : ¬ (m : Int) + 1 < (rb.size : Int) := by omega
          clear h hrs hrb hrl hsz hle hn hf ht h35 hn0 hy hno hlast h59 hlt
          go_enter Try.func50, Try.ntmps50
          go_wp2_with (first
            | (go_at_call 60; go_must (first | (with_reducible refine HC.out.mono ?_) | (with_reducible refine HC2.out.mono ?_)); rintro e w1 ⟨rfl, rfl⟩)
            | (go_at_call 64; go_must (refine HF.out.mono ?_; rintro e w1 ⟨rfl, rfl⟩)))
          go_ret2
          exact ⟨ret2_str (by rw [HT.out, HR.out, ← HFT.out]) (by rw [HT.out, HR.out]; show _ = ((m + 1 + 1 : Nat) : Int); omega), rfl⟩

set_option maxHeartbeats 1000000 in
theorem Take_any (s : ByteArray) (attr : Bool) (w : World) (hs : s.size ≤ 9223372036854775807) : Calls Try.prog 50 #[.string s, .bool attr] w fun e w' =>
    e = .returned (.tuple #[.string (strB (takeF s.toList attr).1), .int .i64 (takeF s.toList attr).2]) ∧ Below w.heap.size w w' := by
  have key : s.toList.head? ≠ some 38 → Calls Try.prog 50 #[.string s, .bool attr] w fun e w' => e = .returned (.tuple #[.string (strB (takeF s.toList attr).1), .int .i64 (takeF s.toList attr).2]) ∧ Below w.heap.size w w' := by
    intro hh
    have hp := pre_no hh
    have HT : Hid (takeF s.toList attr = ([], 0)) := by show _ = _; rw [takeF, hp, hp]; rfl
    have HC := Lib.hid (cutp_no (s := s) (p := ⟨#[38, 35]⟩) (by rw [b3835]; exact hp [35]) w)
    have HC2 := Lib.hid (cutp_no (s := s) (p := ⟨#[38]⟩) (by rw [b38]; exact hp []) w)
    clear hp hh
    go_enter Try.func50, Try.ntmps50
    go_wp2_with (go_at_call 60; go_must (first | (with_reducible refine HC.out.mono ?_) | (with_reducible refine HC2.out.mono ?_)); rintro e w1 ⟨rfl, rfl⟩)
    go_ret2
    exact ⟨ret2_str (by rw [HT.out]; rfl) (by rw [HT.out]; rfl), Below.refl _ _⟩
  rcases amp_cases s.toList with ⟨r, h⟩ | ⟨r, h, h'⟩ | ⟨c, r, h, h'⟩ | h
  · exact Take_hash s r attr w hs h
  · exact (Take_name s r attr w hs h h').mono fun e w' ⟨h1, h2⟩ => ⟨h1, by subst h2; exact Below.refl _ _⟩
  · exact key (by rw [h]; simpa using h')
  · exact key (by rw [h]; simp)
end Go.Proofs.Ytbabcohidpcjjaa
