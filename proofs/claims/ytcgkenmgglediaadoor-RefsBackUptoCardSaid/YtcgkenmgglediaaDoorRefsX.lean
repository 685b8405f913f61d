/-
  The law RefsBack, walked: true for every text of at most 2^20 bytes.
-/
import Derived.Test.YtcgkenmgglediaaDoorRefsT
namespace Go.Proofs.YtcgkenmgglediaaDoor
open Go.RowKit Mem

theorem byte_mem (s : ByteArray) (k : Nat) (h : k < s.size) : s[k] ∈ s.toList := by
  have hm := drop_byte s k h
  exact List.mem_of_mem_drop (i := k) (by rw [hm]; exact List.mem_cons_self)

set_option maxRecDepth 100000 in
set_option maxHeartbeats 4000000 in
theorem lawRefsBack (s : ByteArray) (attr other : Bool) (m : Int) (w : World) (_ : s.size ≤ maxLen) (hsm : s.size ≤ 1048576) (hm : w.cell? ⟨0, 0, none⟩ = some (.int .i64 m)) :
    Calls Tryd.prog 6 #[.string s, .bool attr, .bool other] w fun e w' => e = .returned (.bool true) ∧ Below w.heap.size w w' := by
  have H0 := Lib.hid (shown_any m w hm)
  have HM := Lib.hid hm
  have he := fun u hu => Escape_any s attr m u (by omega) hu
  have hl6 := escG_len attr s.toList false
  rw [show escG attr false s.toList = escS attr s.toList from rfl, size_toList] at hl6
  have hsg := escG_signs attr s.toList false
  rw [show escG attr false s.toList = escS attr s.toList from rfl] at hsg
  obtain ⟨t, ht⟩ : ∃ t, t = strB (escS attr s.toList) := ⟨_, rfl⟩
  have htl : t.toList = escS attr s.toList := by rw [ht, toList_strB]
  rw [← ht] at he
  rw [← htl, size_toList] at hl6
  rw [← htl] at hsg
  have hall : ∀ o, allS t.toList o = s.toList := fun o => by rw [htl, allS_escS]
  have ha : ∀ o u, Calls Tryd.prog 21 #[.string t, .bool o] u fun e w' => e = .returned (.string s) ∧ Below u.heap.size u w' := fun o u => by
    have h := All_any t o u (by omega)
    rw [hall o, show strB s.toList = s from by rw [ByteArray.toList_eq]; rfl] at h
    exact h
  have HE := Lib.hid he
  have HA := Lib.hid ha
  have HS : Hid (∀ k (h : k < t.size), t[k] ≠ 60 ∧ t[k] ≠ 62 ∧ (attr = true → t[k] ≠ 34)) := Lib.hid fun k h => hsg _ (byte_mem t k h)
  clear hm he ht htl hsg hall ha
  go_enter Tryd.func6, Tryd.ntmps6
  go_wp2_with (go_at_call 12; go_must (refine H0.out.mono ?_; rintro e w1 ⟨rfl, hb⟩; have HB1 := Lib.hid hb; clear hb))
  go_wp2_with (go_at_call 23; go_must (refine (HE.out _ (cell_later HB1.out HM.out)).mono ?_; rintro e w2 ⟨rfl, hb⟩; have HB2 := Lib.hid (belowCall HB1.out hb); clear hb))
  go_loop [9] (fun i => ∃ k : Nat, k ≤ t.size ∧ i = .int .i64 k) (fun i => t.size - (intOf i).toNat)
  case atStart => exact ⟨0, by omega, by go_num⟩
  case round =>
    obtain ⟨k, hk, rfl⟩ := hrel
    by_cases hks : k < t.size
    · obtain ⟨h1, h2, h3⟩ := HS.out k hks
      have c1 : ((t[k].toNat : Int) == 60) = false := byte_ne (c := 60) h1
      have c2 : ((t[k].toNat : Int) == 62) = false := byte_ne (c := 62) h2
      by_cases hq : t[k] = 34
      · obtain rfl : attr = false := by cases attr <;> simp_all
        have c3 : ((t[k].toNat : Int) == 34) = true := byte_eq (c := 34) hq
        clear h1 h2 h3 hq
        go_wp2_with fail
        go_round
        case rel => exact ⟨k + 1, by omega, by go_num⟩
        case measure => simp [intOf]; omega
      · have c3 : ((t[k].toNat : Int) == 34) = false := byte_ne (c := 34) hq
        clear h1 h2 h3 hq
        go_wp2_with fail
        go_round
        case rel => exact ⟨k + 1, by omega, by go_num⟩
        case measure => simp [intOf]; omega
    · go_wp2_with (go_at_call 21; fail)
      refine (HA.out _ _).mono ?_
      rintro e w3 ⟨rfl, hb⟩
      have HB3 := Lib.hid (belowCall HB2.out hb)
      clear hb
      dsimp only
      go_wp2_with (go_at_call 21; fail)
      refine (HA.out _ _).mono ?_
      rintro e w4 ⟨rfl, hb⟩
      have HB4 := Lib.hid (belowCall HB3.out hb)
      clear hb
      dsimp only
      go_wp2_with fail
      go_ret
      exact ⟨ret_bool (by simp; omega), HB4.out⟩
end Go.Proofs.YtcgkenmgglediaaDoor
