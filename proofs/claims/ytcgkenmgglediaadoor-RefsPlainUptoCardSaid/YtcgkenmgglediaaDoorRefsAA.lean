/-
  The law RefsPlain, walked: true for texts of at most 2^20 bytes together.
-/
import Derived.Test.YtcgkenmgglediaaDoorRefsW
import Derived.Test.YtcgkenmgglediaaDoorRefsT
import Derived.Deep.RegionHeld3
import Derived.Deep.RegionWith
namespace Go.Proofs.YtcgkenmgglediaaDoor
open Go.RowKit Mem

theorem plain_step {s : Str} {c : UInt8} {k : Nat} (h : s.drop k = c :: s.drop (k + 1)) : (s.take (k + 1)).filter (· != 38) = (s.take k).filter (· != 38) ++ (if c != 38 then [c] else []) := by
  have hk : k < s.length := by
    rcases Nat.lt_or_ge k s.length with h' | h'
    · exact h'
    · rw [List.drop_of_length_le h'] at h; cases h
  rw [List.drop_eq_getElem_cons hk] at h
  injection h with h1 _
  rw [List.take_succ_eq_append_getElem hk, List.filter_append, h1]
  congr 1
  by_cases hc : c = 38 <;> simp [hc]

set_option maxRecDepth 100000 in
set_option maxHeartbeats 8000000 in
theorem lawRefsPlain (a b : ByteArray) (attr : Bool) (m : Int) (w : World) (_ : a.size ≤ maxLen) (_ : b.size ≤ maxLen) (hsm : a.size + b.size ≤ 1048576) (hm : w.cell? ⟨0, 0, none⟩ = some (.int .i64 m)) :
    Calls Tryd.prog 8 #[.string a, .string b, .bool attr] w fun e w' => e = .returned (.bool true) ∧ Below w.heap.size w w' := by
  obtain ⟨i0, hi, hz0, hz1, hz2⟩ := info_parts info_u8
  have H0 := Lib.hid (shown_any m w hm)
  obtain ⟨O, hO⟩ : ∃ O, O = a.toList.filter (· != 38) := ⟨_, rfl⟩
  have hOl : O.length ≤ a.size := by rw [hO, ← size_toList]; exact List.length_filter_le _ _
  have hOa : allS O attr = O := allS_plain attr O fun c hc => by
    rw [hO, List.mem_filter] at hc
    simpa using hc.2
  have hp : ∀ u, Calls Tryd.prog 21 #[.string (strB O), .bool attr] u fun e w' => e = .returned (.string (strB O)) ∧ Below u.heap.size u w' := fun u => by
    have h := All_any (strB O) attr u (by rw [strB_size]; omega)
    rw [toList_strB, hOa] at h
    exact h
  have ha := fun u => All_any a attr u (by omega)
  have hb := fun u => All_any b attr u (by omega)
  have hla := allS_len attr _ a.toList (Nat.le_refl _)
  have hlb := allS_len attr _ b.toList (Nat.le_refl _)
  rw [size_toList] at hla hlb
  obtain ⟨ta, hta⟩ : ∃ t, t = strB (allS a.toList attr) := ⟨_, rfl⟩
  obtain ⟨tb, htb⟩ : ∃ t, t = strB (allS b.toList attr) := ⟨_, rfl⟩
  have hsp : ∀ u, Calls Tryd.prog 21 #[.string (a ++ ⟨#[60]⟩ ++ b), .bool attr] u fun e w' => e = .returned (.string (ta ++ ⟨#[60]⟩ ++ tb)) ∧ Below u.heap.size u w' := fun u => by
    have h := All_any (a ++ ⟨#[60]⟩ ++ b) attr u (by rw [ByteArray.size_append, ByteArray.size_append]; show a.size + 1 + b.size ≤ _; omega)
    have e : strB (allS (a ++ ⟨#[60]⟩ ++ b : ByteArray).toList attr) = ta ++ ⟨#[60]⟩ ++ tb := by
      apply toList_inj
      rw [toList_strB, toList_append, toList_append, toList_append, toList_append, hta, htb, toList_strB, toList_strB]
      have := allS_two attr b.toList _ a.toList (Nat.le_refl _)
      rw [show (⟨#[60]⟩ : ByteArray).toList = [60] from by rw [ByteArray.toList_eq], List.append_assoc, List.append_assoc]
      exact this
    rw [e] at h
    exact h
  rw [← hta] at ha
  rw [← htb] at hb
  have sa : ta.size ≤ 2097152 := by rw [hta, strB_size]; omega
  have sb : tb.size ≤ 2097152 := by rw [htb, strB_size]; omega
  have HP := Lib.hid hp
  have HS := Lib.hid hsp
  have HA := Lib.hid ha
  have HB := Lib.hid hb
  have HO := Lib.hid hO
  clear hm hp hsp ha hb hla hlb hta htb hO hOa
  go_enter Tryd.func8, Tryd.ntmps8
  go_wp2_with (go_at_call 12; go_must (refine H0.out.mono ?_; rintro e w1 ⟨rfl, hb⟩; have HB1 := Lib.hid hb; clear hb))
  go_loopw [8, 9] (fun v i wr => ∃ k : Nat, k ≤ a.size ∧ i = .int .i64 k ∧ (∃ n, wr.ownsRow w.heap.size 5 1 v n (bytesV ((a.toList.take k).filter (· != 38)))) ∧ Below w.heap.size w wr) (fun _ i _ => a.size - (intOf i).toNat)
  case atStart => exact ⟨0, Nat.zero_le _, rfl, ⟨0, World.ownsRow_nil _ _ _ _⟩, HB1.out⟩
  case round =>
    obtain ⟨k, hk, rfl, ⟨n, ho⟩, hb⟩ := hrel
    have hnl : n = ((a.toList.take k).filter (· != 38)).length := by have := ho.1; rw [bytesV_length] at this; omega
    have hnk : n ≤ k := by rw [hnl]; exact Nat.le_trans (List.length_filter_le _ _) (by rw [List.length_take]; omega)
    have HOW := Lib.hid ho
    have HBL := Lib.hid hb
    have HZ := Lib.hid hb.size
    clear ho hb hnl
    by_cases hks : k < a.size
    · have hst := plain_step (drop_byte a k hks)
      by_cases hc : a[k] = 38
      · have c1 : ((a[k].toNat : Int) != 38) = false := byte_neq' (c := 38) hc
        rw [hc, if_neg (by decide), List.append_nil] at hst
        have HST := Lib.hid hst
        clear hst hc
        go_wp2_with fail
        go_roundw
        case rel => exact ⟨k + 1, by omega, by go_num, ⟨n, by rw [HST.out]; exact HOW.out⟩, HBL.out⟩
        case measure => simp [intOf]; omega
      · have c1 : ((a[k].toNat : Int) != 38) = true := byte_neq (c := 38) hc
        rw [if_pos (by simp [hc])] at hst
        have HST := Lib.hid hst
        have b1 : n + 1 ≤ maxLen := by unfold maxLen; omega
        have b2 : (n + 1) * 1 ≤ 140737488355328 := by omega
        have HQ := Lib.hid (HOW.out.alloc (.cells #[.int .u8 (a[k].toNat : Nat)] 5))
        have HZ2 := Lib.hid (show w.heap.size ≤ (wr.alloc (.cells #[.int .u8 (a[k].toNat : Nat)] 5)).heap.size from by have := HZ.out; simp; omega)
        clear hst hc
        go_wp2_with (at_builtin; go_must (refine wpList_append_slice _ rfl _ _ 33 rfl w.heap.size 5 i0 _ 1 1 Tryd.underlying33 hi hz0 hz1 hz2 rfl (by decide) _ n _ rfl HQ.out (some ⟨wr.heap.size, 0, none⟩) 1 1 (bytesV [a[k]]) rfl rfl (fun h => by cases h) (at_alloc rfl rfl) (bytesV_one' _) b1 b2 HZ2.out ?_; intro v3 w3 hown3 hgr3; have HO3 := Lib.hid hown3; have HB3 := Lib.hid ((HBL.out.alloc HZ.out _).grown hgr3 HZ2.out (own_ge HQ.out)); clear hown3 hgr3))
        go_roundw
        case rel => exact ⟨k + 1, by omega, by go_num, ⟨n + 1, by rw [HST.out, bytesV_two]; exact HO3.out⟩, HB3.out⟩
        case measure => simp [intOf]; omega
    · have hfull : (a.toList.take k).filter (· != 38) = O := by rw [List.take_of_length_le (by rw [size_toList]; omega), HO.out]
      rw [hfull] at HOW
      have hback := text_of_own (P := Tryd.prog) Tryd.underlying33 Tryd.underlying5 Tryd.underlying9 HOW.out.drew
      have HBD := Lib.hid HBL.out.drew
      clear hfull
      go_wp2_with fail
      have hS0 : Below w.heap.size w wr.drew ∧ wr.drew.ownsRow w.heap.size 5 1 u8 n (bytesV O) ∧ (convert 33 9 u8).run Tryd.prog wr.drew = .ok (.string (strB O)) wr.drew := ⟨HBL.out.drew, HOW.out.drew, hback⟩
      have hnext : ∀ W W' : World, (Below w.heap.size w W ∧ W.ownsRow w.heap.size 5 1 u8 n (bytesV O) ∧ (convert 33 9 u8).run Tryd.prog W = .ok (.string (strB O)) W) → Below W.heap.size W W' → (Below w.heap.size w W' ∧ W'.ownsRow w.heap.size 5 1 u8 n (bytesV O) ∧ (convert 33 9 u8).run Tryd.prog W' = .ok (.string (strB O)) W') := fun W W' h hb => ⟨belowCall h.1 hb, own_below h.2.1 hb, text_of_own Tryd.underlying33 Tryd.underlying5 Tryd.underlying9 (own_below h.2.1 hb)⟩
      have HN := Lib.hid hnext
      have q1 : ¬ 9223372036854775807 < ta.size + 1 := by omega
      have q2 : ¬ 9223372036854775807 < ta.size + 1 + tb.size := by omega
      clear hback hnext
      go_region_held3 (fun w' => Below w.heap.size w w' ∧ w'.ownsRow w.heap.size 5 1 u8 n (bytesV O) ∧ (convert 33 9 u8).run Tryd.prog w' = .ok (.string (strB O)) w') (assumption) (first
        | (go_at_call_of 21 (Value.string (strB O)); refine (HP.out _).mono ?_; rintro e w4 ⟨rfl, hb⟩; have hk4 := HN.out _ _ (by assumption) hb; clear hb)
        | (go_at_call_of 21 (Value.string (a)); refine (HA.out _).mono ?_; rintro e w4 ⟨rfl, hb⟩; have hk4 := HN.out _ _ (by assumption) hb; clear hb)
        | (go_at_call_of 21 (Value.string (b)); refine (HB.out _).mono ?_; rintro e w4 ⟨rfl, hb⟩; have hk4 := HN.out _ _ (by assumption) hb; clear hb)
        | (go_at_call 21; refine (HS.out _).mono ?_; rintro e w4 ⟨rfl, hb⟩; have hk4 := HN.out _ _ (by assumption) hb; clear hb))
      all_goals (go_wp2_with fail; go_ret; exact ⟨ret_bool (by simp), hk4.1⟩)
end Go.Proofs.YtcgkenmgglediaaDoor
