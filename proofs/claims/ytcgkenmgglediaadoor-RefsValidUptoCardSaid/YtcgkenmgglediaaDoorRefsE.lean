/-
  Contract: colanderref12.Find: the same name is found; new blocks alone.
-/
import Derived.Test.YtcgkenmgglediaaDoorRefsD
import Derived.Test.YtcgkenmgglediaaDoorMemC
namespace Go.Proofs.YtcgkenmgglediaaDoor
open Go.RowKit Mem

theorem info_u8 : (Tryd.prog.info? 5).map (fun i => (i.zero, i.size, i.bytes)) = some (some (.int .u8 0), 1, 1) := by kernel_rfl
theorem rowsV_length : ∀ l : List (Str × Nat × Nat × Bool), (rowsV l).length = l.length * 4
  | [] => rfl
  | x :: r => by rw [rowsV]; simp only [List.length_cons, rowsV_length r]; omega
theorem rowsV_get : ∀ (l : List (Str × Nat × Nat × Bool)) (k : Nat) (h : k < l.length), (rowsV l)[k * 4]? = some (.string (strB l[k].1)) ∧ (rowsV l)[k * 4 + 1]? = some (.int .i64 l[k].2.1) ∧ (rowsV l)[k * 4 + 2]? = some (.int .i64 l[k].2.2.1) ∧ (rowsV l)[k * 4 + 3]? = some (.bool l[k].2.2.2)
  | [], _, h => by simp at h
  | x :: r, 0, _ => ⟨rfl, rfl, rfl, rfl⟩
  | x :: r, k + 1, h => by
    obtain ⟨h0, h1, h2, h3⟩ := rowsV_get r k (by simpa using h)
    refine ⟨?_, ?_, ?_, ?_⟩
    · rw [show (k + 1) * 4 = k * 4 + 1 + 1 + 1 + 1 from by omega]; simpa [rowsV] using h0
    · rw [show (k + 1) * 4 + 1 = k * 4 + 1 + 1 + 1 + 1 + 1 from by omega]; simpa [rowsV] using h1
    · rw [show (k + 1) * 4 + 2 = k * 4 + 2 + 1 + 1 + 1 + 1 from by omega]; simpa [rowsV] using h2
    · rw [show (k + 1) * 4 + 3 = k * 4 + 3 + 1 + 1 + 1 + 1 from by omega]; simpa [rowsV] using h3
theorem names_small : ∀ x ∈ namesT, x.1.length ≤ 13 ∧ x.2.1 ≤ 1114111 ∧ x.2.2.1 ≤ 1114111 := by decide +kernel
theorem refGo_step (s : Str) (k : Nat) (h : k < namesT.length) (acc : Str × Nat) : refGo s (namesT.drop k) acc = refGo s (namesT.drop (k + 1)) (refStep s namesT[k] acc) := by
  rw [List.drop_eq_getElem_cons h, refGo]
theorem encF_len (c : Nat) : 1 ≤ (encF c).length ∧ (encF c).length ≤ 4 := by
  unfold encF
  split
  · simp
  · split
    · simp
    · split <;> simp
theorem toList_append (a b : ByteArray) : (a ++ b).toList = a.toList ++ b.toList := by
  rw [ByteArray.toList_eq, ByteArray.toList_eq, ByteArray.toList_eq]; simp
theorem Bytes_at (c : Nat) (hc : c ≤ 1114111) (w : World) : Calls Tryd.prog 26 #[.int .i64 c] w fun e w' =>
    ∃ g cap n, e = .returned (.slice (some ⟨g, 0, none⟩) n cap) ∧ w'.ownsRow w.heap.size 5 1 (.slice (some ⟨g, 0, none⟩) n cap) n (bytesV (encF c)) ∧ n = (encF c).length ∧ n ≤ 4 ∧ Below w.heap.size w w' :=
  (Bytes_any c hc w).mono fun _ _ ⟨g, cap, h1, h2, h3⟩ => ⟨g, cap, _, h1, h2, rfl, (encF_len c).2, h3⟩
theorem refStep_no {s : Str} {x : Str × Nat × Nat × Bool} {acc : Str × Nat} (h1 : (x.1 ++ [59]).isPrefixOf s = false) (h2 : (x.2.2.2 && x.1.isPrefixOf s) = false) : refStep s x acc = acc := by
  unfold refStep
  simp [h1, h2]
theorem refStep_semi {s : Str} {x : Str × Nat × Nat × Bool} {acc : Str × Nat} (h1 : (x.1 ++ [59]).isPrefixOf s = true) : refStep s x acc = if acc.2 < x.1.length + 1 then (chars x.2.1 x.2.2.1, x.1.length + 1) else acc := by
  unfold refStep
  simp only [h1, if_true]
theorem refStep_bare {s : Str} {x : Str × Nat × Nat × Bool} {acc : Str × Nat} (h1 : (x.1 ++ [59]).isPrefixOf s = false) (h2 : (x.2.2.2 && x.1.isPrefixOf s) = true) : refStep s x acc = if acc.2 < x.1.length then (chars x.2.1 x.2.2.1, x.1.length) else acc := by
  unfold refStep
  simp only [h1, h2, if_true, Bool.false_eq_true, if_false]

theorem bytesV_one' (l : Str) : ∀ u ∈ bytesV l, u.oneCell' = true := by
  intro u h
  obtain ⟨n, _, rfl⟩ := List.mem_map.1 h
  rfl
theorem bytesV_app (l r : Str) : bytesV (l ++ r) = bytesV l ++ bytesV r := by simp [bytesV]
theorem chars_one (a : Nat) : chars a 0 = encF a := by simp [chars]
theorem chars_two {a b : Nat} (h : 0 < b) : chars a b = encF a ++ encF b := by rw [chars, if_pos h]
set_option maxRecDepth 100000 in
set_option maxHeartbeats 4000000 in
theorem Find12_any (s : ByteArray) (w : World) : Calls Tryd.prog 14 #[.string s] w fun e w' => e = .returned (.tuple #[.string (strB (findF s.toList).1), .int .i64 (findF s.toList).2]) ∧ Below w.heap.size w w' := by
  have HP := Lib.hid (refGo_findF s.toList)
  have HN := Lib.hid (Names_any w)
  have hlen : namesT.length = 44 := rfl
  have HL := Lib.hid hlen
  clear hlen
  obtain ⟨i0, hi, hz0, hz1, hz2⟩ := info_parts info_u8
  go_enter Tryd.func14, Tryd.ntmps14
  go_wp2_with (go_at_call 32; go_must (refine HN.out.mono ?_; rintro e w1 ⟨rfl, ha, hb, hz⟩; have HA := Lib.hid ha; have HB := Lib.hid hb; have HZ := Lib.hid hz; clear ha hb hz))
  go_loopw [4, 5, 7] (fun o n i wr => ∃ (k m : Nat) (t : ByteArray), k ≤ 44 ∧ i = .int .i64 k ∧ o = .string t ∧ n = .int .i64 m ∧ m ≤ 14 ∧ findF s.toList = refGo s.toList (namesT.drop k) (t.toList, m) ∧ Below w.heap.size w wr ∧ At wr (some ⟨w.heap.size, 0, none⟩) (rowsV namesT)) (fun _ _ i _ => 44 - (intOf i).toNat)
  case atStart => exact ⟨0, 0, ⟨#[]⟩, by omega, rfl, rfl, rfl, by omega, by rw [List.drop_zero, show (⟨#[]⟩ : ByteArray).toList = [] from by rw [ByteArray.toList_eq], HP.out], HB.out, HA.out⟩
  case round =>
    obtain ⟨k, m, t, hk, rfl, rfl, rfl, hm, hv, hb, ha⟩ := hrel
    have HV := Lib.hid hv
    have HB2 := Lib.hid hb
    have HA2 := Lib.hid ha
    clear hv hb
    by_cases hlt : k < 44
    · have hlt' : k < namesT.length := by rw [HL.out]; exact hlt
      obtain ⟨r0, r1, r2, r3⟩ := rowsV_get namesT k hlt'
      have c0 := ha.get r0
      have c1 := ha.get r1
      have c2 := ha.get r2
      have c3 := ha.get r3
      rw [Nat.zero_add] at c0 c1 c2 c3
      have hst := refGo_step s.toList k hlt' (t.toList, m)
      obtain ⟨hx1, hx2, hx3⟩ := names_small namesT[k] (List.getElem_mem hlt')
      have hbk := lt_of_cell c0
      obtain ⟨x, hx⟩ : ∃ x, x = namesT[k] := ⟨_, rfl⟩
      rw [← hx] at c0 c1 c2 c3 hx1 hx2 hx3 hst
      obtain ⟨nl, A, B, bare⟩ := x
      simp only at c0 c1 c2 c3 hx1 hx2 hx3
      obtain ⟨nm, hnm⟩ : ∃ nm, nm = strB nl := ⟨_, rfl⟩
      have hns : nm.size = nl.length := by rw [hnm, ← size_toList, toList_strB]
      have hns2 : nm.size ≤ 13 := by omega
      have hB1 : (nm ++ ⟨#[59]⟩).toList.isPrefixOf s.toList = (nl ++ [59]).isPrefixOf s.toList := by rw [toList_append, hnm, toList_strB, ByteArray.toList_eq]
      have hB2 : nm.toList.isPrefixOf s.toList = nl.isPrefixOf s.toList := by rw [hnm, toList_strB]
      have hb1 := fun u => begins12_any s (nm ++ ⟨#[59]⟩) u
      have hb2 := fun u => begins12_any s nm u
      rw [hB1] at hb1
      rw [hB2] at hb2
      rw [← hnm] at c0
      have HST := Lib.hid hst
      have HNS := Lib.hid hns
      have hp := Nat.lt_of_lt_of_le (Nat.zero_lt_of_lt hbk) (Nat.le_refl _)
      clear ha r0 r1 r2 r3 hst hx hnm hB1 hB2 hns hp
      cases e1 : (nl ++ [59]).isPrefixOf s.toList
      · rw [e1] at hb1
        have HB1 := Lib.hid hb1
        clear hb1
        cases bare
        · have HB2' := HB1
          clear hb2
          have HST3 := Lib.hid (HST.out.trans (congrArg (refGo s.toList (namesT.drop (k + 1))) (refStep_no (x := (nl, A, B, false)) e1 rfl)))
          have hm0 : ¬ (0 : Int) > (m : Int) := by omega
          clear HST
          go_wp2_with (first
            | (go_at_call 33; go_must (first | (with_reducible refine (HB1.out _).mono ?_) | (with_reducible refine (HB2'.out _).mono ?_)); rintro e w5 ⟨rfl, rfl⟩))
          have HNEW := Lib.hid ((Below.refl wr.heap.size wr).alloc (Nat.le_refl _) (.cells #[.string nm, .int .i64 A, .int .i64 B, .bool false] 46))
          go_roundw
          case rel => exact ⟨k + 1, m, t, by omega, by go_num, rfl, rfl, by omega, by rw [HV.out, HST3.out], belowCall HB2.out HNEW.out, HA2.out.below HNEW.out⟩
          case measure => simp [intOf]; omega
        · cases e2 : nl.isPrefixOf s.toList
          · rw [e2] at hb2
            have HB2' := Lib.hid hb2
            clear hb2
            have HST3 := Lib.hid (HST.out.trans (congrArg (refGo s.toList (namesT.drop (k + 1))) (refStep_no (x := (nl, A, B, true)) e1 (by simpa using e2))))
            have hm0 : ¬ (0 : Int) > (m : Int) := by omega
            clear HST
            go_wp2_with (first
              | (go_at_call 33; go_must (first | (with_reducible refine (HB1.out _).mono ?_) | (with_reducible refine (HB2'.out _).mono ?_)); rintro e w5 ⟨rfl, rfl⟩))
            have HNEW := Lib.hid ((Below.refl wr.heap.size wr).alloc (Nat.le_refl _) (.cells #[.string nm, .int .i64 A, .int .i64 B, .bool true] 46))
            go_roundw
            case rel => exact ⟨k + 1, m, t, by omega, by go_num, rfl, rfl, by omega, by rw [HV.out, HST3.out], belowCall HB2.out HNEW.out, HA2.out.below HNEW.out⟩
            case measure => simp [intOf]; omega
          · rw [e2] at hb2
            have HB2' := Lib.hid hb2
            obtain ⟨bare, hbare⟩ : ∃ b, b = true := ⟨_, rfl⟩
            have HST2 := Lib.hid (HST.out.trans (congrArg (refGo s.toList (namesT.drop (k + 1))) (refStep_bare (x := (nl, A, B, true)) e1 (by simpa using e2))))
            clear hb2 e1 e2 hbare bare
            by_cases hmk : m < nl.length
            · have HST3 := Lib.hid (HST2.out.trans (congrArg (refGo s.toList (namesT.drop (k + 1))) (if_pos hmk)))
              have hmk' : (m : Int) < (nm.size : Int) := by have := HNS.out; omega
              clear HST2 HST
              go_wp2_with (first
                | (go_at_call 33; go_must (first | (with_reducible refine (HB1.out _).mono ?_) | (with_reducible refine (HB2'.out _).mono ?_)); rintro e w5 ⟨rfl, rfl⟩))
              have hnew := (Below.refl wr.heap.size wr).alloc (Nat.le_refl _) (.cells #[.string nm, .int .i64 A, .int .i64 B, .bool true] 46)

              have d2 : (wr.alloc (.cells #[.string nm, .int .i64 A, .int .i64 B, .bool true] 46)).cell? ⟨wr.heap.size, 2, none⟩ = some (.int .i64 B) := by simp
              have hzz : wr.heap.size < (wr.alloc (.cells #[.string nm, .int .i64 A, .int .i64 B, .bool true] 46)).heap.size := by simp

              generalize wr.alloc (.cells #[.string nm, .int .i64 A, .int .i64 B, .bool true] 46) = wa at *
              refine (Bytes_at A hx2 wa).mono ?_
              rintro e w5 ⟨g, cap, n, rfl, hown, hnl, hn4, hb5⟩
              have e2 := cell_later hb5 d2
              have hba := Below.trans hnew (hb5.mono (Nat.le_of_lt hzz))
              have HOWN := Lib.hid hown
              have HNL := Lib.hid hnl
              have HBA := Lib.hid hba
              have hgb : wa.heap.size ≤ g ∧ g < w5.heap.size := hown.lt g rfl
              have hs5 := hb5.size
              clear hown hnl hb5 hba hnew d2
              by_cases hB : 0 < B
              · have hB' : (0 : Int) < (B : Int) := by omega
                go_wp2_with (go_at_call 26; fail)
                refine (Bytes_at B hx3 w5).mono ?_
                rintro e w6 ⟨g2, cap2, n2, rfl, hown2, hnl2, hn42, hb6⟩
                have HO6 := Lib.hid (own_below HOWN.out hb6)
                obtain ⟨_, _, hv2, hc2, _, hnil2, hat2⟩ := own_at hown2
                simp only [Value.slice.injEq] at hv2
                obtain ⟨rfl, _, rfl⟩ := hv2
                have HAT2 := Lib.hid hat2
                have hl2 : (bytesV (encF B)).length = n2 * 1 := by rw [bytesV_length, hnl2, Nat.mul_one]
                have HL2 := Lib.hid hl2
                have HNL2 := Lib.hid hnl2
                have HB6 := Lib.hid (HBA.out.trans (hb6.mono (by omega)))
                have hs6 := hb6.size
                clear hown2 hnl2 hat2 hl2 hb6 hnil2
                go_wp2_with (at_builtin; go_must (refine wpList_append_slice _ rfl _ _ 33 rfl wa.heap.size 5 i0 _ 1 1 Tryd.underlying33 hi hz0 hz1 hz2 rfl (by decide) (.slice (some ⟨g, 0, none⟩) n cap) n (bytesV (encF A)) rfl HO6.out (some ⟨g2, 0, none⟩) n2 cap2 (bytesV (encF B)) rfl HL2.out (fun h => by cases h) HAT2.out (bytesV_one' _) (by unfold maxLen; omega) (by omega) (by omega) ?_; intro v3 w7 hown3 hgr3; obtain ⟨g3, cap3, rfl, hg3, _, _⟩ := own_some hown3 (by have := HNL.out; have := (encF_len A).1; omega); have hback := run_string_of (P := Tryd.prog) w7 33 9 5 g3 cap3 (encF A ++ encF B) (n + n2) (by rw [List.length_append, HNL.out, HNL2.out]) Tryd.underlying33 Tryd.underlying5 Tryd.underlying9 (by rw [bytesV_app]; exact own_row hown3); have HB7 := Lib.hid (HB6.out.grown hgr3 (by omega) (fun k hk => by simp only [Value.ownBlock, Option.some.injEq] at hk; omega)); clear hown3 hgr3))
                go_roundw
                case rel => exact ⟨k + 1, nl.length, ⟨(encF A ++ encF B).toArray⟩, by omega, by go_num, rfl, (by rw [← HNS.out]), by omega, by rw [HV.out, HST3.out, show (⟨(encF A ++ encF B).toArray⟩ : ByteArray).toList = chars A B from (toList_strB _).trans (chars_two hB).symm], belowCall HB2.out HB7.out, HA2.out.below HB7.out⟩
                case measure => simp [intOf]; omega
              · obtain rfl : B = 0 := by omega
                have hback := run_string_of (P := Tryd.prog) w5 33 9 5 g cap (encF A) n HNL.out Tryd.underlying33 Tryd.underlying5 Tryd.underlying9 (own_row HOWN.out)
                go_wp2_with fail
                go_roundw
                case rel => exact ⟨k + 1, nl.length, ⟨(encF A).toArray⟩, by omega, by go_num, rfl, (by rw [← HNS.out]), by omega, by rw [HV.out, HST3.out, show (⟨(encF A).toArray⟩ : ByteArray).toList = chars A 0 from (toList_strB _).trans (chars_one A).symm], belowCall HB2.out HBA.out, HA2.out.below HBA.out⟩
                case measure => simp [intOf]; omega
            · have HST3 := Lib.hid (HST2.out.trans (congrArg (refGo s.toList (namesT.drop (k + 1))) (if_neg hmk)))
              have hmk' : (nm.size : Int) ≤ (m : Int) := by have := HNS.out; omega
              clear HST2 HST
              go_wp2_with (first
                | (go_at_call 33; go_must (first | (with_reducible refine (HB1.out _).mono ?_) | (with_reducible refine (HB2'.out _).mono ?_)); rintro e w5 ⟨rfl, rfl⟩))
              have HNEW := Lib.hid ((Below.refl wr.heap.size wr).alloc (Nat.le_refl _) (.cells #[.string nm, .int .i64 A, .int .i64 B, .bool true] 46))
              go_roundw
              case rel => exact ⟨k + 1, m, t, by omega, by go_num, rfl, rfl, by omega, by rw [HV.out, HST3.out], belowCall HB2.out HNEW.out, HA2.out.below HNEW.out⟩
              case measure => simp [intOf]; omega
      · rw [e1] at hb1
        have HB1 := Lib.hid hb1
        have HST2 := Lib.hid (HST.out.trans (congrArg (refGo s.toList (namesT.drop (k + 1))) (refStep_semi (x := (nl, A, B, bare)) e1)))
        clear hb1 hb2 e1
        by_cases hmk : m < nl.length + 1
        · have HST3 := Lib.hid (HST2.out.trans (congrArg (refGo s.toList (namesT.drop (k + 1))) (if_pos hmk)))
          have hmk' : (m : Int) < (nm.size : Int) + 1 := by have := HNS.out; omega
          clear HST2 HST
          go_wp2_with (first
            | (go_at_call 33; go_must (refine (HB1.out _).mono ?_; rintro e w5 ⟨rfl, rfl⟩)))
          have hnew := (Below.refl wr.heap.size wr).alloc (Nat.le_refl _) (.cells #[.string nm, .int .i64 A, .int .i64 B, .bool bare] 46)

          have d2 : (wr.alloc (.cells #[.string nm, .int .i64 A, .int .i64 B, .bool bare] 46)).cell? ⟨wr.heap.size, 2, none⟩ = some (.int .i64 B) := by simp
          have hzz : wr.heap.size < (wr.alloc (.cells #[.string nm, .int .i64 A, .int .i64 B, .bool bare] 46)).heap.size := by simp

          generalize wr.alloc (.cells #[.string nm, .int .i64 A, .int .i64 B, .bool bare] 46) = wa at *
          refine (Bytes_at A hx2 wa).mono ?_
          rintro e w5 ⟨g, cap, n, rfl, hown, hnl, hn4, hb5⟩
          have e2 := cell_later hb5 d2
          have hba := Below.trans hnew (hb5.mono (Nat.le_of_lt hzz))
          have HOWN := Lib.hid hown
          have HNL := Lib.hid hnl
          have HBA := Lib.hid hba
          have hgb : wa.heap.size ≤ g ∧ g < w5.heap.size := hown.lt g rfl
          have hs5 := hb5.size
          clear hown hnl hb5 hba hnew d2
          by_cases hB : 0 < B
          · have hB' : (0 : Int) < (B : Int) := by omega
            go_wp2_with (go_at_call 26; fail)
            refine (Bytes_at B hx3 w5).mono ?_
            rintro e w6 ⟨g2, cap2, n2, rfl, hown2, hnl2, hn42, hb6⟩
            have HO6 := Lib.hid (own_below HOWN.out hb6)
            obtain ⟨_, _, hv2, hc2, _, hnil2, hat2⟩ := own_at hown2
            simp only [Value.slice.injEq] at hv2
            obtain ⟨rfl, _, rfl⟩ := hv2
            have HAT2 := Lib.hid hat2
            have hl2 : (bytesV (encF B)).length = n2 * 1 := by rw [bytesV_length, hnl2, Nat.mul_one]
            have HL2 := Lib.hid hl2
            have HNL2 := Lib.hid hnl2
            have HB6 := Lib.hid (HBA.out.trans (hb6.mono (by omega)))
            have hs6 := hb6.size
            clear hown2 hnl2 hat2 hl2 hb6 hnil2
            go_wp2_with (at_builtin; go_must (refine wpList_append_slice _ rfl _ _ 33 rfl wa.heap.size 5 i0 _ 1 1 Tryd.underlying33 hi hz0 hz1 hz2 rfl (by decide) (.slice (some ⟨g, 0, none⟩) n cap) n (bytesV (encF A)) rfl HO6.out (some ⟨g2, 0, none⟩) n2 cap2 (bytesV (encF B)) rfl HL2.out (fun h => by cases h) HAT2.out (bytesV_one' _) (by unfold maxLen; omega) (by omega) (by omega) ?_; intro v3 w7 hown3 hgr3; obtain ⟨g3, cap3, rfl, hg3, _, _⟩ := own_some hown3 (by have := HNL.out; have := (encF_len A).1; omega); have hback := run_string_of (P := Tryd.prog) w7 33 9 5 g3 cap3 (encF A ++ encF B) (n + n2) (by rw [List.length_append, HNL.out, HNL2.out]) Tryd.underlying33 Tryd.underlying5 Tryd.underlying9 (by rw [bytesV_app]; exact own_row hown3); have HB7 := Lib.hid (HB6.out.grown hgr3 (by omega) (fun k hk => by simp only [Value.ownBlock, Option.some.injEq] at hk; omega)); clear hown3 hgr3))
            go_roundw
            case rel => exact ⟨k + 1, nl.length + 1, ⟨(encF A ++ encF B).toArray⟩, by omega, by go_num, rfl, (by rw [← HNS.out]; go_num), by omega, by rw [HV.out, HST3.out, show (⟨(encF A ++ encF B).toArray⟩ : ByteArray).toList = chars A B from (toList_strB _).trans (chars_two hB).symm], belowCall HB2.out HB7.out, HA2.out.below HB7.out⟩
            case measure => simp [intOf]; omega
          · obtain rfl : B = 0 := by omega
            have hback := run_string_of (P := Tryd.prog) w5 33 9 5 g cap (encF A) n HNL.out Tryd.underlying33 Tryd.underlying5 Tryd.underlying9 (own_row HOWN.out)
            go_wp2_with fail
            go_roundw
            case rel => exact ⟨k + 1, nl.length + 1, ⟨(encF A).toArray⟩, by omega, by go_num, rfl, (by rw [← HNS.out]; go_num), by omega, by rw [HV.out, HST3.out, show (⟨(encF A).toArray⟩ : ByteArray).toList = chars A 0 from (toList_strB _).trans (chars_one A).symm], belowCall HB2.out HBA.out, HA2.out.below HBA.out⟩
            case measure => simp [intOf]; omega
        · have HST3 := Lib.hid (HST2.out.trans (congrArg (refGo s.toList (namesT.drop (k + 1))) (if_neg hmk)))
          have hmk' : (nm.size : Int) + 1 ≤ (m : Int) := by have := HNS.out; omega
          clear HST2 HST
          go_wp2_with (first
            | (go_at_call 33; go_must (refine (HB1.out _).mono ?_; rintro e w5 ⟨rfl, rfl⟩)))
          have HNEW := Lib.hid ((Below.refl wr.heap.size wr).alloc (Nat.le_refl _) (.cells #[.string nm, .int .i64 A, .int .i64 B, .bool bare] 46))
          go_roundw
          case rel => exact ⟨k + 1, m, t, by omega, by go_num, rfl, rfl, by omega, by rw [HV.out, HST3.out], belowCall HB2.out HNEW.out, HA2.out.below HNEW.out⟩
          case measure => simp [intOf]; omega
    · clear ha
      go_wp2_with fail
      go_ret2
      obtain rfl : k = 44 := by omega
      have he : findF s.toList = (t.toList, m) := by rw [HV.out, show namesT.drop 44 = [] from List.drop_of_length_le (by rw [HL.out]; omega)]; rfl
      exact ⟨ret2_str (by rw [he]; exact (strB_mem t).symm) (by rw [he]), HB2.out⟩
end Go.Proofs.YtcgkenmgglediaaDoor
