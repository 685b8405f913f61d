/-
  Contracts: colanderref09.Small, colanderref09.Lower, foreign.small: what each computes of bytes; the world behind has new blocks alone.
-/
import Derived.Test.YtflphgmblipglaaRows
import Derived.Test.YtflphgmblipglaaMem
import Derived.Deep.QuietTactic
import Derived.BigQuiet
import Derived.Deep.RegionWith
namespace Go.Proofs.Ytflphgmblipglaa
open Go.RowKit Mem

/-- a byte in small letters -/
def lowB (b : UInt8) : UInt8 := if 65 ≤ b ∧ b ≤ 90 then b + 32 else b
def lowS (l : Str) : Str := l.map lowB
def mixS (k : Nat) (l : Str) : Str := (l.take k).map lowB ++ l.drop k

theorem lowB_nat (b : UInt8) : ((lowB b).toNat : Int) = if 65 ≤ (b.toNat : Int) ∧ (b.toNat : Int) ≤ 90 then (b.toNat : Int) + 32 else b.toNat := by
  have h1 : (65 ≤ b) ↔ 65 ≤ (b.toNat : Int) := by rw [UInt8.le_iff_toNat_le]; simp; omega
  have h2 : (b ≤ 90) ↔ (b.toNat : Int) ≤ 90 := by rw [UInt8.le_iff_toNat_le]; simp; omega
  unfold lowB
  by_cases h : 65 ≤ (b.toNat : Int) ∧ (b.toNat : Int) ≤ 90
  · rw [if_pos h, if_pos ⟨h1.2 h.1, h2.2 h.2⟩, UInt8.toNat_add]
    simp
    omega
  · rw [if_neg h, if_neg (fun hh => h ⟨h1.1 hh.1, h2.1 hh.2⟩)]

theorem mixS_length (k : Nat) (l : Str) : (mixS k l).length = l.length := by simp [mixS]; omega
theorem mixS_zero (l : Str) : mixS 0 l = l := by simp [mixS]
theorem mixS_all (l : Str) : mixS l.length l = lowS l := by simp [mixS, lowS]
theorem mixS_get (k : Nat) (l : Str) (h : k < l.length) : (mixS k l)[k]? = some l[k] := by
  simp only [mixS]
  rw [List.getElem?_append_right (by simp; omega)]
  simp [Nat.min_eq_left (Nat.le_of_lt h), h]
theorem mixS_succ (k : Nat) (l : Str) (h : k < l.length) : (mixS k l).set k (lowB l[k]) = mixS (k + 1) l := by
  simp only [mixS]
  rw [List.set_append_right _ _ (by simp; omega), List.drop_eq_getElem_cons h]
  simp only [List.length_map, List.length_take, Nat.min_eq_left (Nat.le_of_lt h), Nat.sub_self, List.set_cons_zero]
  rw [List.take_succ_eq_append_getElem h, List.map_append]
  simp
theorem bytesV_mix_succ (k : Nat) (l : Str) (h : k < l.length) (v : Value) (hv : v = .int .u8 (lowB l[k]).toNat) : (bytesV (mixS k l)).set k v = bytesV (mixS (k + 1) l) := by
  subst hv
  unfold bytesV
  rw [← mixS_succ k l h, List.map_set]
theorem bytesV_mix_same (k : Nat) (l : Str) (h : k < l.length) (hv : ((lowB l[k]).toNat : Int) = l[k].toNat) : bytesV (mixS k l) = bytesV (mixS (k + 1) l) := by
  rw [← bytesV_mix_succ k l h (.int .u8 l[k].toNat) (by rw [hv])]
  have hg : (bytesV (mixS k l))[k]? = some (.int .u8 l[k].toNat) := by simp [bytesV, mixS_get k l h]
  obtain ⟨hk, he⟩ := List.getElem?_eq_some_iff.1 hg
  rw [← he, List.set_getElem_self]
theorem bytesV_mix_get (k : Nat) (l : Str) (h : k < l.length) : (bytesV (mixS k l))[k]? = some (.int .u8 l[k].toNat) := by
  simp [bytesV, mixS_get k l h]

def smallI (n : Int) : Int := if 65 ≤ n ∧ n ≤ 90 then n + 32 else n

theorem Small_any (n : Int) (w : World) (h0 : 0 ≤ n) (h1 : n ≤ 255) :
    Calls Try.prog 67 #[.int .u8 n] w fun e w' => e = .returned (.int .u8 (smallI n)) ∧ w = w' := by
  go_enter Try.func67, Try.ntmps67
  go_wp2
  all_goals go_ret
  all_goals refine ⟨ret_int ?_, rfl⟩
  all_goals (unfold smallI; split <;> omega)

set_option maxHeartbeats 400000 in
theorem small_any (s : ByteArray) (w : World) (hs : s.size ≤ maxLen) :
    Calls Try.prog 62 #[.string s] w fun e w' => e = .returned (.string ⟨(lowS s.toList).toArray⟩) ∧ Below w.heap.size w w' := by
  obtain ⟨c, W, hconv, hb, hsz, hrow, hcc⟩ := run_bytes_of (P := Try.prog) w 9 94 5 s Try.underlying9 Try.underlying94 Try.underlying5
  have hsl := size_toList s
  unfold maxLen at hs
  have HB := Lib.hid hb
  have HR := Lib.hid hrow
  have HZ := Lib.hid hsz
  have HL := Lib.hid hsl
  clear hb hrow hsz hsl
  go_enter Try.func62, Try.ntmps62
  go_wp2
  go_loopw [10] (fun i wr => ∃ k : Nat, k ≤ s.size ∧ i = .int .i64 k ∧ Below w.heap.size w wr ∧ w.heap.size < wr.heap.size ∧ Row wr w.heap.size (bytesV (mixS k s.toList))) (fun i _ => s.size - (intOf i).toNat)
  case atStart => exact ⟨0, Nat.zero_le _, rfl, HB.out, by rw [HZ.out]; omega, by rw [mixS_zero]; exact HR.out⟩
  case round =>
    obtain ⟨k, hk, rfl, hb, hz, hr⟩ := hrel
    clear hconv HB HR HZ
    by_cases hlt : k < s.size
    · have hkl : k < s.toList.length := by rw [HL.out]; exact hlt
      obtain ⟨x, hx⟩ : ∃ x : Nat, x = s.toList[k].toNat := ⟨_, rfl⟩
      have hx255 : x ≤ 255 := by have := s.toList[k].toNat_lt; omega
      have hcell : wr.cell? ⟨w.heap.size, k, none⟩ = some (.int .u8 x) := by rw [hx]; exact hr.cell (bytesV_mix_get k _ hkl)
      have hfz : wr.frozen? ⟨w.heap.size, k, none⟩ = false := hr.frozen (by rw [bytesV_length, mixS_length]; exact hkl)
      have hl := lowB_nat s.toList[k]
      rw [← hx] at hl
      have HX := Lib.hid hl
      have HX2 := Lib.hid hx
      have HB := Lib.hid hb
      have HR := Lib.hid hr
      clear hl hx hb hr
      go_wp2
      · go_roundw
        case rel =>
          exact ⟨k + 1, by omega, by go_num, HB.out.setCell (Nat.le_refl _) _, by rw [World.size_setCell]; exact hz, by
            rw [← bytesV_mix_succ k _ hkl (.int .u8 (x + 32)) (by rw [HX.out, if_pos ⟨by assumption, by assumption⟩])]
            exact HR.out.set k _⟩
        case measure => simp [intOf]; omega
      · go_roundw
        case rel => exact ⟨k + 1, by omega, by go_num, HB.out, hz, by rw [← bytesV_mix_same k _ hkl (by rw [HX.out, if_neg (by omega), HX2.out])]; exact HR.out⟩
        case measure => simp [intOf]; omega
      · go_roundw
        case rel => exact ⟨k + 1, by omega, by go_num, HB.out, hz, by rw [← bytesV_mix_same k _ hkl (by rw [HX.out, if_neg (by omega), HX2.out])]; exact HR.out⟩
        case measure => simp [intOf]; omega
    · obtain rfl : k = s.size := by omega
      have hback := run_string_of (P := Try.prog) wr 94 9 5 w.heap.size c (mixS s.size s.toList) s.size (by rw [mixS_length, HL.out]) Try.underlying94 Try.underlying5 Try.underlying9 hr
      have HB := Lib.hid hb
      clear hb hr
      go_wp2
      go_ret
      refine ⟨ret_string ?_, HB.out⟩
      rw [← HL.out, mixS_all]

set_option maxHeartbeats 400000 in
theorem Lower_any (s : ByteArray) (w : World) (hs : s.size ≤ maxLen) :
    Calls Try.prog 26 #[.string s] w fun e w' => e = .returned (.string ⟨(lowS s.toList).toArray⟩) ∧ Below w.heap.size w w' := by
  obtain ⟨c, W, hconv, hb, hsz, hrow, hcc⟩ := run_bytes_of (P := Try.prog) w 9 94 5 s Try.underlying9 Try.underlying94 Try.underlying5
  have hsl := size_toList s
  unfold maxLen at hs
  have HB := Lib.hid hb
  have HR := Lib.hid hrow
  have HZ := Lib.hid hsz
  have HL := Lib.hid hsl
  clear hb hrow hsz hsl
  go_enter Try.func26, Try.ntmps26
  go_wp2
  go_loopw [4] (fun i wr => ∃ k : Nat, k ≤ s.size ∧ i = .int .i64 k ∧ Below w.heap.size w wr ∧ w.heap.size < wr.heap.size ∧ Row wr w.heap.size (bytesV (mixS k s.toList))) (fun i _ => s.size - (intOf i).toNat)
  case atStart => exact ⟨0, Nat.zero_le _, rfl, HB.out, by rw [HZ.out]; omega, by rw [mixS_zero]; exact HR.out⟩
  case round =>
    obtain ⟨k, hk, rfl, hb, hz, hr⟩ := hrel
    clear hconv HB HR HZ
    by_cases hlt : k < s.size
    · have hkl : k < s.toList.length := by rw [HL.out]; exact hlt
      obtain ⟨x, hx⟩ : ∃ x : Nat, x = s.toList[k].toNat := ⟨_, rfl⟩
      have hx255 : x ≤ 255 := by have := s.toList[k].toNat_lt; omega
      have hcell : wr.cell? ⟨w.heap.size, k, none⟩ = some (.int .u8 x) := by rw [hx]; exact hr.cell (bytesV_mix_get k _ hkl)
      have hfz : wr.frozen? ⟨w.heap.size, k, none⟩ = false := hr.frozen (by rw [bytesV_length, mixS_length]; exact hkl)
      have hl := lowB_nat s.toList[k]
      rw [← hx] at hl
      have HX : Hid (((lowB s.toList[k]).toNat : Int) = smallI x) := hl
      have HX2 := Lib.hid hx
      have HB := Lib.hid hb
      have HR := Lib.hid hr
      clear hl hx hb hr
      go_wp2_with (go_at_call 67; refine (Small_any _ _ (by omega) (by omega)).mono ?_; rintro e w' ⟨rfl, rfl⟩)
      go_roundw
      case rel =>
        exact ⟨k + 1, by omega, by go_num, HB.out.setCell (Nat.le_refl _) _, by rw [World.size_setCell]; exact hz, by
          rw [← bytesV_mix_succ k _ hkl (.int .u8 (smallI x)) (by rw [HX.out])]
          exact HR.out.set k _⟩
      case measure => simp [intOf]; omega
    · obtain rfl : k = s.size := by omega
      have hback := run_string_of (P := Try.prog) wr 94 9 5 w.heap.size c (mixS s.size s.toList) s.size (by rw [mixS_length, HL.out]) Try.underlying94 Try.underlying5 Try.underlying9 hr
      have HB := Lib.hid hb
      clear hb hr
      go_wp2
      go_ret
      refine ⟨ret_string ?_, HB.out⟩
      rw [← HL.out, mixS_all]
end Go.Proofs.Ytflphgmblipglaa
