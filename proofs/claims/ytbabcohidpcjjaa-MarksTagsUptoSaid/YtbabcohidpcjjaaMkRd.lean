/-
  Contracts: the document's Read, law 13's plain (a text as it is read). Condition: the text's length is at most 2^32.
-/
import Derived.Test.YtbabcohidpcjjaaMkLn
namespace Go.Proofs.Ytbabcohidpcjjaa
open Go.RowKit Mem

theorem one_of {L : MS} {a : MarkD} (h : L.map (·.1) = [a]) : ∃ v, L = [(a, v)] := by
  match L, h with
  | [(x, v)], h =>
    simp only [List.map_cons, List.map_nil, List.cons.injEq, and_true] at h
    exact ⟨v, by rw [h]⟩
theorem two_of {L : MS} {a b : MarkD} (h : L.map (·.1) = [a, b]) : ∃ v u, L = [(a, v), (b, u)] := by
  match L, h with
  | [(x, v), (z, u)], h =>
    simp only [List.map_cons, List.map_nil, List.cons.injEq, and_true] at h
    exact ⟨v, u, by rw [h.1, h.2]⟩
theorem nil_of {L : MS} (h : L.map (·.1) = []) : L = [] := List.map_eq_nil_iff.1 h
theorem own_at2 {w : World} {base : Nat} {e : TypeId} {size n c : Nat} {a : Option Addr} {xs : List Value} (h : w.ownsRow base e size (.slice a n c) n xs) : (a = none → c = 0) ∧ At w a xs := by
  obtain ⟨ao, co, hv, -, -, h0, hat⟩ := own_at h
  cases hv
  exact ⟨h0, hat⟩
theorem marks_own {base : Nat} {o : List MarkD × Int} {r : Ending} {w' : World} (h : MarksAt base o r w') :
    ∃ ao co L, r = .returned (.tuple #[.slice ao L.length co, .int .i64 o.2]) ∧ L.map (·.1) = o.1 ∧ w'.ownsRow base 36 5 (.slice ao L.length co) L.length (marksV L) ∧ AtsOwn base L w' := by
  rcases h with ⟨h1, h2, rfl⟩ | ⟨h1, v, L, rfl, h2, h3, h4⟩
  · exact ⟨none, 0, [], rfl, by rw [h2]; rfl, World.ownsRow_nil _ _ _ _, fun p hp => by cases hp⟩
  · obtain ⟨ao, co, hv, -⟩ := own_at h3
    subst hv
    exact ⟨ao, co, L, by rw [h1], h2, h3, h4⟩
theorem putF_same2 {c : UInt8} (h : c ≠ 10) (a b : Bool) (r : Str) : putF a (c :: r) = putF b (c :: r) := by
  rw [putF, putF]
  simp only [putOne, h, false_and, if_false]
theorem putF_crlf (r : Str) : putF false (13 :: 10 :: r) = putF false (10 :: r) := by
  rw [putF, putF, putF]; rfl
theorem putF_cr {r : Str} (h : ∀ c, r.head? = some c → c ≠ 10) : putF false (13 :: r) = [10] ++ putF false r := by
  rw [putF]
  cases r with
  | nil => rfl
  | cons c r => rw [show (putF ((13 : UInt8) == 13) (c :: r)) = putF false (c :: r) from putF_same2 (h c rfl) _ _ _]; rfl
theorem putF_zero (r : Str) : putF false (0 :: r) = [239, 191, 189] ++ putF false r := by rw [putF]; rfl
theorem putF_char {c : UInt8} (h1 : c ≠ 13) (h2 : c ≠ 0) (r : Str) : putF false (c :: r) = [c] ++ putF false r := by
  rw [putF, show (c == 13) = false from beq_eq_false_iff_ne.2 h1]
  unfold putOne
  rw [if_neg (by simp), if_neg h1, if_neg h2]
set_option maxRecDepth 100000 in
set_option maxHeartbeats 4000000 in
theorem Read_any (s : ByteArray) (w : World) (hs : s.size ≤ 4294967296) : Calls Try.prog 26 #[.string s] w fun e w' => e = .returned (.string (strB (putF false s.toList))) ∧ Below w.heap.size w w' := by
  obtain ⟨i0, hi, hz0, hz1, hz2⟩ := info_parts info_u8
  have hpl := putF_len s.toList false
  rw [size_toList] at hpl
  go_enter Try.func26, Try.ntmps26
  go_wp2_with fail
  go_loopw [3, 4] (fun v i wr => ∃ (acc : Str) (k : Nat), k ≤ s.size ∧ i = .int .i64 k ∧ wr.ownsRow w.heap.size 5 1 v acc.length (bytesV acc) ∧ Below w.heap.size w wr ∧ acc ++ putF false (s.toList.drop k) = putF false s.toList) (fun _ i _ => s.size - (intOf i).toNat)
  case atStart => exact ⟨[], 0, Nat.zero_le _, rfl, World.ownsRow_nil _ _ _ _, Below.refl _ _, rfl⟩
  case round =>
    obtain ⟨acc, k, hk, rfl, ho, hb, hv⟩ := hrel
    have HO := Lib.hid ho
    have HB := Lib.hid hb
    have HZ := Lib.hid hb.size
    have hacc : acc.length + (putF false (s.toList.drop k)).length ≤ 3 * s.size := by rw [← List.length_append, hv]; exact hpl
    clear ho hb
    by_cases hks : k < s.size
    · have hd := drop_byte s k hks
      rw [hd] at hv hacc
      by_cases h13 : s[k] = 13
      · have hc1 : ((s[k].toNat : Int) == 13) = true := byte_eq (c := 13) h13
        rw [h13] at hv hacc
        by_cases hks2 : k + 1 < s.size
        · have hks2i : (k : Int) + 1 < (s.size : Int) := by omega
          have hd2 := drop_byte s (k + 1) hks2
          by_cases h10 : s[k + 1] = 10
          · have hc2 : ((s[k + 1].toNat : Int) == 10) = true := byte_eq (c := 10) h10
            rw [hd2, h10, putF_crlf, ← h10, ← hd2] at hv
            have HV := Lib.hid hv
            clear hv hacc hd hd2 h10 h13
            go_wp2_with fail
            go_roundw
            case rel => exact ⟨acc, k + 1, by omega, by go_num, HO.out, HB.out, HV.out⟩
            case measure => simp [intOf]; omega
          · have hc2 : ((s[k + 1].toNat : Int) == 10) = false := byte_ne (c := 10) h10
            have hne : ∀ c, (s.toList.drop (k + 1)).head? = some c → c ≠ 10 := fun c hc => by rw [hd2] at hc; cases hc; exact h10
            rw [putF_cr hne, ← List.append_assoc] at hv
            rw [putF_cr hne, List.length_append, List.length_cons, List.length_nil] at hacc
            have HV := Lib.hid hv
            have b1 : acc.length + 1 ≤ maxLen := by unfold maxLen; omega
            have b2 : (acc.length + 1) * 1 ≤ 140737488355328 := by omega
            have HQ := Lib.hid (HO.out.alloc (.cells #[.int .u8 10] 5))
            have HZ2 := Lib.hid (show w.heap.size ≤ (wr.alloc (.cells #[.int .u8 10] 5)).heap.size from by have := HZ.out; simp; omega)
            clear hv hacc hd h13 hne
            go_wp2_with (at_builtin; go_must (refine wpList_append_slice _ rfl _ _ 44 rfl w.heap.size 5 i0 _ 1 1 Try.underlying44 hi hz0 hz1 hz2 rfl (by decide) _ acc.length (bytesV acc) rfl HQ.out (some ⟨wr.heap.size, 0, none⟩) 1 1 (bytesV [10]) rfl rfl (fun h => by cases h) (at_alloc rfl rfl) (bytesV_one' _) b1 b2 HZ2.out ?_; intro v3 w3 hown3 hgr3; have HO3 := Lib.hid hown3; have HG3 := Lib.hid hgr3; clear hown3 hgr3))
            go_roundw
            case rel => exact ⟨acc ++ [10], k + 1, by omega, by go_num, by rw [bytesV_app, List.length_append]; exact HO3.out, (HB.out.alloc HZ.out _).grown HG3.out HZ2.out (own_base_ge HQ.out), HV.out⟩
            case measure => simp [intOf]; omega
        · have hks2i : ¬ (k : Int) + 1 < (s.size : Int) := by omega
          have hne : ∀ c, (s.toList.drop (k + 1)).head? = some c → c ≠ 10 := fun c hc => by
            rw [List.drop_of_length_le (by rw [size_toList]; omega)] at hc; cases hc
          rw [putF_cr hne, ← List.append_assoc] at hv
          rw [putF_cr hne, List.length_append, List.length_cons, List.length_nil] at hacc
          have HV := Lib.hid hv
          have b1 : acc.length + 1 ≤ maxLen := by unfold maxLen; omega
          have b2 : (acc.length + 1) * 1 ≤ 140737488355328 := by omega
          have HQ := Lib.hid (HO.out.alloc (.cells #[.int .u8 10] 5))
          have HZ2 := Lib.hid (show w.heap.size ≤ (wr.alloc (.cells #[.int .u8 10] 5)).heap.size from by have := HZ.out; simp; omega)
          clear hv hacc hd h13 hne
          go_wp2_with (at_builtin; go_must (refine wpList_append_slice _ rfl _ _ 44 rfl w.heap.size 5 i0 _ 1 1 Try.underlying44 hi hz0 hz1 hz2 rfl (by decide) _ acc.length (bytesV acc) rfl HQ.out (some ⟨wr.heap.size, 0, none⟩) 1 1 (bytesV [10]) rfl rfl (fun h => by cases h) (at_alloc rfl rfl) (bytesV_one' _) b1 b2 HZ2.out ?_; intro v3 w3 hown3 hgr3; have HO3 := Lib.hid hown3; have HG3 := Lib.hid hgr3; clear hown3 hgr3))
          go_roundw
          case rel => exact ⟨acc ++ [10], k + 1, by omega, by go_num, by rw [bytesV_app, List.length_append]; exact HO3.out, (HB.out.alloc HZ.out _).grown HG3.out HZ2.out (own_base_ge HQ.out), HV.out⟩
          case measure => simp [intOf]; omega
      · have hc1 : ((s[k].toNat : Int) == 13) = false := byte_ne (c := 13) h13
        by_cases h0 : s[k] = 0
        · have hc2 : ((s[k].toNat : Int) == 0) = true := byte_eq (c := 0) h0
          rw [h0, putF_zero, ← List.append_assoc] at hv
          rw [h0, putF_zero, List.length_append] at hacc
          simp only [List.length_cons, List.length_nil] at hacc
          have HV := Lib.hid hv
          have b1 : acc.length + 3 ≤ maxLen := by unfold maxLen; omega
          have b2 : (acc.length + 3) * 1 ≤ 140737488355328 := by omega
          have HQ := Lib.hid (HO.out.alloc (.cells #[.int .u8 239, .int .u8 191, .int .u8 189] 5))
          have HZ2 := Lib.hid (show w.heap.size ≤ (wr.alloc (.cells #[.int .u8 239, .int .u8 191, .int .u8 189] 5)).heap.size from by have := HZ.out; simp; omega)
          clear hv hacc hd h13 h0
          go_wp2_with (at_builtin; go_must (refine wpList_append_slice _ rfl _ _ 44 rfl w.heap.size 5 i0 _ 1 1 Try.underlying44 hi hz0 hz1 hz2 rfl (by decide) _ acc.length (bytesV acc) rfl HQ.out (some ⟨wr.heap.size, 0, none⟩) 3 3 (bytesV [239, 191, 189]) rfl rfl (fun h => by cases h) (at_alloc rfl rfl) (bytesV_one' _) b1 b2 HZ2.out ?_; intro v3 w3 hown3 hgr3; have HO3 := Lib.hid hown3; have HG3 := Lib.hid hgr3; clear hown3 hgr3))
          go_roundw
          case rel => exact ⟨acc ++ [239, 191, 189], k + 1, by omega, by go_num, by rw [bytesV_app, List.length_append]; exact HO3.out, (HB.out.alloc HZ.out _).grown HG3.out HZ2.out (own_base_ge HQ.out), HV.out⟩
          case measure => simp [intOf]; omega
        · have hc2 : ((s[k].toNat : Int) == 0) = false := byte_ne (c := 0) h0
          rw [putF_char h13 h0, ← List.append_assoc] at hv
          rw [putF_char h13 h0, List.length_append, List.length_cons, List.length_nil] at hacc
          have HV := Lib.hid hv
          have b1 : acc.length + 1 ≤ maxLen := by unfold maxLen; omega
          have b2 : (acc.length + 1) * 1 ≤ 140737488355328 := by omega
          have HQ := Lib.hid (HO.out.alloc (.cells #[.int .u8 (s[k].toNat : Nat)] 5))
          have HZ2 := Lib.hid (show w.heap.size ≤ (wr.alloc (.cells #[.int .u8 (s[k].toNat : Nat)] 5)).heap.size from by have := HZ.out; simp; omega)
          clear hv hacc hd h13 h0
          go_wp2_with (at_builtin; go_must (refine wpList_append_slice _ rfl _ _ 44 rfl w.heap.size 5 i0 _ 1 1 Try.underlying44 hi hz0 hz1 hz2 rfl (by decide) _ acc.length (bytesV acc) rfl HQ.out (some ⟨wr.heap.size, 0, none⟩) 1 1 (bytesV [s[k]]) rfl rfl (fun h => by cases h) (at_alloc rfl rfl) (bytesV_one' _) b1 b2 HZ2.out ?_; intro v3 w3 hown3 hgr3; have HO3 := Lib.hid hown3; have HG3 := Lib.hid hgr3; clear hown3 hgr3))
          go_roundw
          case rel => exact ⟨acc ++ [s[k]], k + 1, by omega, by go_num, by rw [bytesV_app, List.length_append]; exact HO3.out, (HB.out.alloc HZ.out _).grown HG3.out HZ2.out (own_base_ge HQ.out), HV.out⟩
          case measure => simp [intOf]; omega
    · have hdn : s.toList.drop k = [] := List.drop_of_length_le (by rw [size_toList]; omega)
      rw [hdn, putF, List.append_nil] at hv
      have hback := text_own (P := Try.prog) Try.underlying44 Try.underlying5 Try.underlying9 HO.out
      rw [hv] at hback
      clear hv hacc hdn
      go_wp2_with fail
      go_ret
      exact ⟨rfl, HB.out⟩
theorem plain_any (s : ByteArray) (w : World) (hs : s.size ≤ 4294967296) : Calls Try.prog 18 #[.string s] w fun e w' => e = .returned (.string (strB (putF false s.toList))) ∧ Below w.heap.size w w' := by
  have HR := Lib.hid (Read_any s w hs)
  go_enter Try.func18, Try.ntmps18
  go_wp2_with fail
  refine HR.out.mono ?_
  rintro r W1 ⟨rfl, hb⟩
  dsimp only
  go_wp2_with fail
  go_ret
  exact ⟨rfl, hb⟩
end Go.Proofs.Ytbabcohidpcjjaa
