/-
  Contracts: the document's All (every reference replaced, byte by byte) and its Escape. Condition: the text's length is at most 2^40.
-/
import Derived.Test.YtcgkenmgglediaaDoorRefsN
import Derived.Test.YtcgkenmgglediaaDoorRefsP
import Derived.Test.YtcgkenmgglediaaDoorRefsR
import Derived.Lib.AppendStr
import Derived.Lib.BufferRead
namespace Go.Proofs.YtcgkenmgglediaaDoor
open Go.RowKit Mem

/-- 'string(b)' of a slice that the call owns -/
theorem text_of_own {P : Program} {w : World} {base : Nat} {e src dst : TypeId} {v : Value} {l : Str} {n : Nat} (hs : P.underlying src = some (.slice e)) (he : P.underlying e = some (.int .u8)) (hd : P.underlying dst = some .string)
    (h : w.ownsRow base e 1 v n (bytesV l)) : (convert src dst v).run P w = .ok (.string (strB l)) w := by
  have hl : l.length = n := by have := h.1; rw [bytesV_length] at this; omega
  rcases h.2 with ⟨rfl, h0⟩ | ⟨g, cap, cur, rfl, _⟩
  · have : l = [] := List.eq_nil_of_length_eq_zero (by omega)
    subst this
    exact Lib.run_convert_nil_bytes w src dst e 0 hs he hd
  · exact run_string_of w src dst e g cap l n hl.symm hs he hd (own_row h)
theorem own_ge {w : World} {base : Nat} {e : TypeId} {size : Nat} {v : Value} {n : Nat} {xs : List Value} (h : w.ownsRow base e size v n xs) : ∀ b, v.ownBlock = some b → base ≤ b := fun b hb => (h.lt b hb).1

set_option maxRecDepth 100000 in
set_option maxHeartbeats 4000000 in
theorem All12_any (s : ByteArray) (attr : Bool) (w : World) (hs : s.size ≤ 1099511627776) : Calls Tryd.prog 22 #[.string s, .bool attr] w fun e w' => e = .returned (.string (strB (allS s.toList attr))) ∧ Below w.heap.size w w' := by
  obtain ⟨i0, hi, hz0, hz1, hz2⟩ := info_parts info_u8
  have HTot : Hid ((allS s.toList attr).length ≤ 2199023255552) := Lib.hid (by have := allS_len attr _ s.toList (Nat.le_refl _); rw [size_toList] at this; omega)
  go_enter Tryd.func22, Tryd.ntmps22
  go_wp2_with fail
  go_loopw [5, 6] (fun v i wr => ∃ (acc : Str) (k : Nat), k ≤ s.size ∧ i = .int .i64 k ∧ wr.ownsRow w.heap.size 5 1 v acc.length (bytesV acc) ∧ Below w.heap.size w wr ∧ acc ++ allS (s.toList.drop k) attr = allS s.toList attr) (fun _ i _ => s.size - (intOf i).toNat)
  case atStart => exact ⟨[], 0, Nat.zero_le _, rfl, World.ownsRow_nil _ _ _ _, Below.refl _ _, rfl⟩
  case round =>
    obtain ⟨acc, k, hk, rfl, ho, hb, hv⟩ := hrel
    have HO := Lib.hid ho
    have HB := Lib.hid hb
    have HZ := Lib.hid hb.size
    have hacc : acc.length + (allS (s.toList.drop k) attr).length ≤ 2199023255552 := by have := HTot.out; rw [← hv, List.length_append] at this; exact this
    by_cases hks : k < s.size
    · have hd := drop_byte s k hks
      by_cases hc : s[k] = 38
      · have hcT : ((s[k].toNat : Int) == 38) = true := byte_eq (c := 38) hc
        rw [hc] at hd
        have htk := fun u => Take12_any (s.extract k s.size) attr u (by rw [ByteArray.size_extract]; omega)
        rw [ext_drop, hd] at htk
        have hle := takeF_le (38 :: s.toList.drop (k + 1)) attr
        have hlen : (38 :: s.toList.drop (k + 1) : Str).length = s.size - k := by rw [← hd, List.length_drop, size_toList]
        rw [hlen] at hle
        by_cases hn0 : (takeF (38 :: s.toList.drop (k + 1)) attr).2 = 0
        · have hv2 : (acc ++ [s[k]]) ++ allS (s.toList.drop (k + 1)) attr = allS s.toList attr := by rw [← hv, hd, all_miss hn0, hc]; simp
          rw [hd, all_miss hn0, List.length_cons] at hacc
          rw [hn0] at htk
          have HTK := Lib.hid htk
          have HV := Lib.hid hv2
          have b1 : acc.length + 1 ≤ maxLen := by unfold maxLen; omega
          have b2 : (acc.length + 1) * 1 ≤ 140737488355328 := by omega
          clear ho hb hv hv2 htk hn0 hle hlen hd hacc hc
          go_wp2_with (first
            | (go_at_call 18; go_must (refine (HTK.out _).mono ?_; rintro e w2 ⟨rfl, hb2⟩; have HB2 := Lib.hid (belowCall HB.out hb2); have HQ := Lib.hid ((own_below HO.out hb2).alloc (.cells #[.int .u8 (s[k].toNat : Nat)] 5)); have HZ2 := Lib.hid (show w.heap.size ≤ (w2.alloc (.cells #[.int .u8 (s[k].toNat : Nat)] 5)).heap.size from by have := HB2.out.size; simp; omega); clear hb2))
            | (at_builtin; go_must (refine wpList_append_slice _ rfl _ _ 33 rfl w.heap.size 5 i0 _ 1 1 Tryd.underlying33 hi hz0 hz1 hz2 rfl (by decide) _ acc.length (bytesV acc) rfl HQ.out (some ⟨w2.heap.size, 0, none⟩) 1 1 (bytesV [s[k]]) rfl rfl (fun h => by cases h) (at_alloc rfl rfl) (bytesV_one' _) b1 b2 HZ2.out ?_; intro v3 w3 hown3 hgr3; have HO3 := Lib.hid hown3; have HB3 := Lib.hid ((HB2.out.alloc HB2.out.size _).grown hgr3 HZ2.out (own_ge HQ.out)); clear hown3 hgr3)))
          go_roundw
          case rel => exact ⟨acc ++ [s[k]], k + 1, by omega, by go_num, by rw [bytesV_two, List.length_append]; exact HO3.out, HB3.out, HV.out⟩
          case measure => simp [intOf]; omega
        · have hv2 : (acc ++ (takeF (38 :: s.toList.drop (k + 1)) attr).1) ++ allS (s.toList.drop (k + (takeF (38 :: s.toList.drop (k + 1)) attr).2)) attr = allS s.toList attr := by rw [← hv, hd, all_hit hn0, ← hd, List.drop_drop]; simp
          rw [hd, all_hit hn0, List.length_append] at hacc
          generalize hrep : (takeF (38 :: s.toList.drop (k + 1)) attr).1 = rep at *
          generalize hn : (takeF (38 :: s.toList.drop (k + 1)) attr).2 = n at *
          have HTK := Lib.hid htk
          have HV := Lib.hid hv2
          have hrs := strB_size rep
          have b1 : acc.length + (strB rep).size ≤ maxLen := by rw [hrs]; unfold maxLen; omega
          have b2 : acc.length + (strB rep).size ≤ 140737488355328 := by rw [hrs]; omega
          have hn0' : ((n : Int) == 0) = false := by rw [beq_eq_false_iff_ne]; omega
          clear ho hb hv hv2 htk hd hacc hc hrep hn hrs hlen
          go_wp2_with (first
            | (go_at_call 18; go_must (refine (HTK.out _).mono ?_; rintro e w2 ⟨rfl, hb2⟩; have HB2 := Lib.hid (belowCall HB.out hb2); have HQ := Lib.hid (own_below HO.out hb2); clear hb2))
            | (at_builtin; go_must (refine Lib.wpList_append_own_string _ rfl _ _ 33 9 rfl w.heap.size 5 i0 Tryd.underlying33 Tryd.underlying9 hi hz0 hz1 hz2 _ acc.length (bytesV acc) rfl HQ.out (strB rep) rfl b1 b2 HB2.out.size ?_; intro v3 w3 hown3 hgr3 _; have HO3 := Lib.hid hown3; have HB3 := Lib.hid (HB2.out.grown hgr3 HB2.out.size (own_ge HQ.out)); clear hown3 hgr3)))
          go_roundw
          case rel => exact ⟨acc ++ rep, k + n, by omega, by go_num, by rw [bytesV_two, List.length_append, ← strB_size rep]; exact HO3.out, HB3.out, HV.out⟩
          case measure => simp [intOf]; omega
      · have hcT : ((s[k].toNat : Int) == 38) = false := byte_ne (c := 38) hc
        have hv2 : (acc ++ [s[k]]) ++ allS (s.toList.drop (k + 1)) attr = allS s.toList attr := by rw [← hv, hd, allS_other hc]; simp
        rw [hd, allS_other hc, List.length_cons] at hacc
        have HV := Lib.hid hv2
        have b1 : acc.length + 1 ≤ maxLen := by unfold maxLen; omega
        have b2 : (acc.length + 1) * 1 ≤ 140737488355328 := by omega
        have HQ := Lib.hid (HO.out.alloc (.cells #[.int .u8 (s[k].toNat : Nat)] 5))
        have HZ2 := Lib.hid (show w.heap.size ≤ (wr.alloc (.cells #[.int .u8 (s[k].toNat : Nat)] 5)).heap.size from by have := HZ.out; simp; omega)
        clear ho hb hv hv2 hd hacc hc
        go_wp2_with (at_builtin; go_must (refine wpList_append_slice _ rfl _ _ 33 rfl w.heap.size 5 i0 _ 1 1 Tryd.underlying33 hi hz0 hz1 hz2 rfl (by decide) _ acc.length (bytesV acc) rfl HQ.out (some ⟨wr.heap.size, 0, none⟩) 1 1 (bytesV [s[k]]) rfl rfl (fun h => by cases h) (at_alloc rfl rfl) (bytesV_one' _) b1 b2 HZ2.out ?_; intro v3 w3 hown3 hgr3; have HO3 := Lib.hid hown3; have HB3 := Lib.hid ((HB.out.alloc HZ.out _).grown hgr3 HZ2.out (own_ge HQ.out)); clear hown3 hgr3))
        go_roundw
        case rel => exact ⟨acc ++ [s[k]], k + 1, by omega, by go_num, by rw [bytesV_two, List.length_append]; exact HO3.out, HB3.out, HV.out⟩
        case measure => simp [intOf]; omega
    · have hdn : s.toList.drop k = [] := List.drop_of_length_le (by rw [size_toList]; omega)
      rw [hdn, allS_nil, List.append_nil] at hv
      have hback := text_of_own (P := Tryd.prog) Tryd.underlying33 Tryd.underlying5 Tryd.underlying9 HO.out
      rw [hv] at hback
      clear ho hb hv hacc hdn
      go_wp2_with fail
      go_ret
      exact ⟨rfl, HB.out⟩
end Go.Proofs.YtcgkenmgglediaaDoor
