/-
  Contracts: refs.begins, refs.More: could bytes behind make another reference?
-/
import Derived.Test.YtbabcohidpcjjaaRefsM
namespace Go.Proofs.Ytbabcohidpcjjaa
open Go.RowKit Mem

def namesO : List ByteArray := [⟨#[97, 109, 112]⟩, ⟨#[65, 77, 80]⟩, ⟨#[108, 116]⟩, ⟨#[76, 84]⟩, ⟨#[103, 116]⟩, ⟨#[113, 117, 111, 116]⟩, ⟨#[110, 98, 115, 112]⟩, ⟨#[99, 111, 112, 121]⟩, ⟨#[114, 101, 103]⟩, ⟨#[110, 111, 116]⟩, ⟨#[112, 97, 114, 97]⟩, ⟨#[116, 105, 109, 101, 115]⟩, ⟨#[100, 105, 118, 105, 100, 101]⟩, ⟨#[101, 97, 99, 117, 116, 101]⟩, ⟨#[69, 84, 72]⟩, ⟨#[115, 122, 108, 105, 103]⟩, ⟨#[97, 112, 111, 115]⟩, ⟨#[110, 111, 116, 105, 110]⟩, ⟨#[99, 111, 112, 121, 115, 114]⟩, ⟨#[112, 97, 114, 97, 108, 108, 101, 108]⟩, ⟨#[116, 105, 109, 101, 115, 98]⟩, ⟨#[108, 116, 105, 109, 101, 115]⟩, ⟨#[103, 116, 100, 111, 116]⟩, ⟨#[104, 101, 108, 108, 105, 112]⟩, ⟨#[110, 100, 97, 115, 104]⟩, ⟨#[109, 100, 97, 115, 104]⟩, ⟨#[108, 115, 113, 117, 111]⟩, ⟨#[114, 115, 113, 117, 111]⟩, ⟨#[108, 100, 113, 117, 111]⟩, ⟨#[114, 100, 113, 117, 111]⟩, ⟨#[101, 117, 114, 111]⟩, ⟨#[116, 114, 97, 100, 101]⟩, ⟨#[108, 97, 114, 114]⟩, ⟨#[114, 97, 114, 114]⟩, ⟨#[84, 97, 98]⟩, ⟨#[78, 101, 119, 76, 105, 110, 101]⟩, ⟨#[99, 111, 108, 111, 110]⟩, ⟨#[115, 111, 108]⟩, ⟨#[113, 117, 101, 115, 116]⟩, ⟨#[108, 112, 97, 114]⟩, ⟨#[122, 119, 106]⟩, ⟨#[78, 111, 116, 69, 113, 117, 97, 108, 84, 105, 108, 100, 101]⟩, ⟨#[84, 104, 105, 99, 107, 83, 112, 97, 99, 101]⟩, ⟨#[110, 118, 108, 116]⟩]
theorem namesO_any (s : Str) : (namesO.any fun p => s.isPrefixOf p.toList) = beginsF s := by
  have h1 : ∀ p ∈ namesO, ∃ q ∈ bareT ++ boundT, q.1 = p.data.toList := by decide +kernel
  have h2 : ∀ q ∈ bareT ++ boundT, ∃ p ∈ namesO, q.1 = p.data.toList := by decide +kernel
  unfold beginsF
  rw [Bool.eq_iff_iff, List.any_eq_true, List.any_eq_true]
  constructor
  · rintro ⟨p, hp, h⟩
    obtain ⟨q, hq, e⟩ := h1 p hp
    exact ⟨q, hq, by rw [e, ← ByteArray.toList_eq]; exact h⟩
  · rintro ⟨q, hq, h⟩
    obtain ⟨p, hp, e⟩ := h2 q hq
    exact ⟨p, hp, by rw [ByteArray.toList_eq, ← e]; exact h⟩
theorem namesO_step (s : Str) (k : Nat) (h : k < namesO.length) (b : Bool) (hb : s.isPrefixOf namesO[k].toList = b) : ((namesO.drop k).any fun p => s.isPrefixOf p.toList) = (b || (namesO.drop (k + 1)).any fun p => s.isPrefixOf p.toList) := by
  rw [List.drop_eq_getElem_cons h, List.any_cons, hb]
theorem hasp_any (s p : ByteArray) (w : World) : Calls Try.prog 45 #[.string s, .string p] w fun e w' => e = .returned (.bool (p.toList.isPrefixOf s.toList)) ∧ w = w' := by
  refine (HasPrefix_any s p w).mono fun e w' ⟨he, hw⟩ => ⟨?_, hw.symm⟩
  rw [he, ByteArray.toList_eq, ByteArray.toList_eq]; rfl

set_option maxRecDepth 100000 in
set_option maxHeartbeats 2000000 in
theorem begins_any (s : ByteArray) (w : World) : Calls Try.prog 62 #[.string s] w fun e w' => e = .returned (.bool (beginsF s.toList)) ∧ Below w.heap.size w w' := by
  have HP := Lib.hid (namesO_any s.toList)
  have hl44 : namesO.length = 44 := rfl
  have HL := Lib.hid hl44
  clear hl44
  have HB := Lib.hid ((Below.refl _ w).alloc (Nat.le_refl _) (.cells (strsV namesO).toArray 9))
  have HA := Lib.hid (at_alloc (w := w) (cur := (strsV namesO).toArray) (e := 9) rfl rfl)
  go_enter Try.func62, Try.ntmps62
  go_wp2_with ((with_reducible refine wpList_new_at 5 (.slice (some ⟨w.heap.size, 0, none⟩) 44 44) (.cells (strsV namesO).toArray 9) rfl rfl (by kernel_rfl) ?_); simp only [Act.put, List.setIfInBounds_toArray, List.set_cons_zero, List.set_cons_succ]; generalize w.alloc (.cells (strsV namesO).toArray 9) = wa at *)
  go_loop [7] (fun i => ∃ k : Nat, k ≤ 44 ∧ i = .int .i64 k ∧ ((namesO.drop k).any fun p => s.toList.isPrefixOf p.toList) = beginsF s.toList) (fun i => 44 - (intOf i).toNat)
  case atStart => exact ⟨0, by omega, rfl, by rw [List.drop_zero]; exact HP.out⟩
  case round =>
    obtain ⟨k, hk, rfl, hv⟩ := hrel
    have HV := Lib.hid hv
    clear hv
    by_cases hlt : k < 44
    · have hlt' : k < namesO.length := by rw [HL.out]; exact hlt
      have hc := HA.out.get (strsV_get namesO k hlt')
      rw [Nat.zero_add] at hc
      obtain ⟨nm, hnm⟩ : ∃ nm, nm = namesO[k] := ⟨_, rfl⟩
      have hst := fun b hb => namesO_step s.toList k hlt' b hb
      rw [← hnm] at hc hst
      have hh := hasp_any nm s wa
      cases hb : s.toList.isPrefixOf nm.toList
      · have HS := Lib.hid (hst false hb)
        rw [hb] at hh
        have HH := Lib.hid hh
        clear hst hh hb hnm
        by_cases hle : s.size ≤ nm.size
        all_goals
          go_wp2_with (go_at_call 45; go_must (refine HH.out.mono ?_; rintro e w1 ⟨rfl, rfl⟩))
          go_round
          case rel => exact ⟨k + 1, by omega, by go_num, by rw [← HV.out, HS.out, Bool.false_or]⟩
          case measure => simp [intOf]; omega
      · have HS := Lib.hid (hst true hb)
        have hle : s.size ≤ nm.size := by
          have := (List.isPrefixOf_iff_prefix.1 hb).length_le
          rwa [size_toList, size_toList] at this
        rw [hb] at hh
        have HH := Lib.hid hh
        clear hst hh hb hnm
        go_wp2_with (go_at_call 45; go_must (refine HH.out.mono ?_; rintro e w1 ⟨rfl, rfl⟩))
        go_ret
        exact ⟨ret_bool (by rw [← HV.out, HS.out, Bool.true_or]), HB.out⟩
    · go_wp2_with fail
      go_ret
      exact ⟨ret_bool (by rw [← HV.out, List.drop_of_length_le (by rw [HL.out]; omega)]; rfl), HB.out⟩

set_option maxHeartbeats 1000000 in
theorem More_any (s : ByteArray) (w : World) (hs : s.size ≤ 9223372036854775807) : Calls Try.prog 49 #[.string s] w fun e w' => e = .returned (.bool (moreF s.toList)) ∧ Below w.heap.size w w' := by
  have key : s.toList.head? ≠ some 38 → Calls Try.prog 49 #[.string s] w fun e w' => e = .returned (.bool (moreF s.toList)) ∧ Below w.heap.size w w' := by
    intro hh
    have hp := pre_no hh
    have HT : Hid (moreF s.toList = false) := by show _ = _; rw [moreF, hp, hp]; rfl
    have HC := Lib.hid (cutp_no (s := s) (p := ⟨#[38, 35]⟩) (by rw [b3835]; exact hp [35]) w)
    have HC2 := Lib.hid (cutp_no (s := s) (p := ⟨#[38]⟩) (by rw [b38]; exact hp []) w)
    clear hp hh
    go_enter Try.func49, Try.ntmps49
    go_wp2_with (go_at_call 60; go_must (first | (with_reducible refine HC.out.mono ?_) | (with_reducible refine HC2.out.mono ?_)); rintro e w1 ⟨rfl, rfl⟩)
    go_ret
    exact ⟨ret_bool HT.out.symm, Below.refl _ _⟩
  rcases amp_cases s.toList with ⟨r, h⟩ | ⟨r, h, h35⟩ | ⟨c, r, h, h'⟩ | h
  · have hrs : r.length + 2 = s.size := by rw [← size_toList, h]; simp
    obtain ⟨rb, hrb⟩ : ∃ rb, rb = strB r := ⟨_, rfl⟩
    have hrl : rb.toList = r := by rw [hrb, toList_strB]
    have hsz : rb.size = r.length := by rw [hrb, strB_size]
    have HT : Hid (moreF s.toList = decide (numN r = rb.size)) := by show _ = _; rw [h, moreF_hash, hsz]; rfl
    have hc := cutp_yes (s := s) (p := ⟨#[38, 35]⟩) (r := r) (by rw [h, b3835]; rfl) w
    rw [← hrb] at hc
    have HC := Lib.hid hc
    have HN := Lib.hid (number_any rb w (by omega))
    rw [hrl] at HN
    generalize numN r = n at *
    generalize (numG r).2 = v at *
    generalize decide (0 < (numG r).1) = b at *
    clear h hrs hrb hrl hsz hc key
    go_enter Try.func49, Try.ntmps49
    go_wp2_with (first
      | (go_at_call 60; go_must (refine HC.out.mono ?_; rintro e w1 ⟨rfl, rfl⟩))
      | (go_at_call 61; go_must (refine HN.out.mono ?_; rintro e w1 ⟨rfl, rfl⟩)))
    go_ret
    exact ⟨ret_bool (by rw [HT.out, Bool.eq_iff_iff]; simp; omega), Below.refl _ _⟩
  · have hrs : r.length + 1 = s.size := by rw [← size_toList, h]; simp
    have HT : Hid (moreF s.toList = beginsF r) := by show _ = _; rw [h, moreF_amp h35]
    have HC := Lib.hid (cutp_no (s := s) (p := ⟨#[38, 35]⟩) (by rw [h, b3835]; exact pre2_no h35) w)
    have HC2 := Lib.hid (cutp_yes (s := s) (p := ⟨#[38]⟩) (r := r) (by rw [h, b38]; rfl) w)
    have hb := begins_any (strB r) w
    rw [toList_strB] at hb
    have HB := Lib.hid hb
    generalize strB r = rb at *
    clear h hrs hb key h35
    go_enter Try.func49, Try.ntmps49
    go_wp2_with (first
      | (go_at_call 60; go_must (first | (with_reducible refine HC.out.mono ?_) | (with_reducible refine HC2.out.mono ?_)); rintro e w1 ⟨rfl, rfl⟩)
      | (go_at_call 62; go_must (refine HB.out.mono ?_; rintro e w1 ⟨rfl, hb⟩; have HB1 := Lib.hid hb; clear hb)))
    go_ret
    exact ⟨ret_bool HT.out.symm, HB1.out⟩
  · exact key (by rw [h]; simpa using h')
  · exact key (by rw [h]; simp)
end Go.Proofs.Ytbabcohidpcjjaa
