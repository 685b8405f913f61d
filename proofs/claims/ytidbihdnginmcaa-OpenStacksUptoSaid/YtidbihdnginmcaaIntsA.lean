/-
  Contract: law 14's ints: are two lists of numbers the same? The world stays but for draws.
-/
import Derived.Test.YtidbihdnginmcaaOpenABC
import Derived.BigQuiet
namespace Go.Proofs.Ytidbihdnginmcaa
open Go.RowKit Mem

theorem ints14_any (l r : List Int) (a a' : Option Addr) (c c' : Nat) (w : World) (hl : l.length ≤ maxLen) (ha : At w a (intsV l)) (ha' : At w a' (intsV r)) :
    Calls Try.prog 16 #[.slice a l.length c, .slice a' r.length c'] w fun e w' => e = .returned (.bool (decide (l = r))) ∧ ∃ n, w' = w.drewN n := by
  have HA := Lib.hid ha
  have HA' := Lib.hid ha'
  clear ha ha'
  unfold maxLen at hl
  by_cases hlen : l.length = r.length
  · have h0 : ((l.length : Int) != (r.length : Int)) = false := by simp [hlen]
    have HL := Lib.hid hlen
    clear hlen
    go_enter Try.func16, Try.ntmps16
    go_wp2
    clear h0
    go_loopw [5] (fun i wr => ∃ k : Nat, k ≤ l.length ∧ i = .int .i64 k ∧ (∃ n, wr = w.drewN n) ∧ l.take k = r.take k) (fun i _ => l.length - (intOf i).toNat)
    case atStart => exact ⟨0, Nat.zero_le _, rfl, ⟨0, rfl⟩, rfl⟩
    case round =>
      obtain ⟨k, hk, rfl, ⟨n, rfl⟩, hv⟩ := hrel
      have HV := Lib.hid hv
      clear hv
      by_cases hlt : k < l.length
      · have hlt' : k < r.length := by have := HL.out; omega
        obtain ⟨b, o, rfl, h1⟩ := HA.out k _ (intsV_get l k hlt)
        obtain ⟨b', o', rfl, h1'⟩ := HA'.out k _ (intsV_get r k hlt')
        have HX := Lib.hid (rfl : l[k] = l[k])
        have HY := Lib.hid (rfl : r[k] = r[k])
        have HT := Lib.hid (show l.take (k + 1) = l.take k ++ [l[k]] from List.take_succ_eq_append_getElem hlt)
        have HT' := Lib.hid (show r.take (k + 1) = r.take k ++ [r[k]] from List.take_succ_eq_append_getElem hlt')
        have HN := Lib.hid (fun h : l = r => show l[k] = r[k] by subst h; rfl)
        generalize l[k] = x at *
        generalize r[k] = y at *
        clear HX HY
        by_cases he : x = y
        · subst he
          go_wp2
          go_quiet (fail)
          go_wp2
          go_roundw
          case rel => exact ⟨k + 1, by omega, by go_num, (by first | exact ⟨_, rfl⟩ | exact ⟨_, drewN_two _ _ _⟩), by rw [HT.out, HT'.out, HV.out]⟩
          case measure => simp [intOf]; omega
        · have HE := Lib.hid he
          have hne : (x != y) = true := by simpa using he
          clear he
          go_wp2
          go_quiet (fail)
          go_wp2
          go_ret
          exact ⟨ret_bool (by simpa using fun h => HE.out (HN.out h)), (by first | exact ⟨_, rfl⟩ | exact ⟨_, drewN_two _ _ _⟩)⟩
      · go_wp2
        go_ret
        exact ⟨ret_bool (by have h1 := HV.out; have h2 := HL.out; rw [List.take_of_length_le (by omega), List.take_of_length_le (by omega)] at h1; simp [h1]), _, rfl⟩
  · have h0 : ((l.length : Int) != (r.length : Int)) = true := by simp; omega
    have HL := Lib.hid hlen
    clear hlen
    go_enter Try.func16, Try.ntmps16
    go_wp2
    go_ret
    exact ⟨ret_bool (by simpa using fun h : l = r => HL.out (by rw [h])), 0, rfl⟩
end Go.Proofs.Ytidbihdnginmcaa
