/-
  Contracts: colanderref08.Bytes, Char; colanderref12.Names: what each makes, in new memory.
-/
import Derived.Test.YtcgkenmgglediaaDoorRefsB
import Derived.Test.YtcgkenmgglediaaDoorMemB
namespace Go.Proofs.YtcgkenmgglediaaDoor
open Go.RowKit Mem

theorem Char08_any (n : Int) (w : World) (h0 : -9223372036854775808 ≤ n) (h1 : n ≤ 9223372036854775807) : Calls Tryd.prog 25 #[.int .i64 n] w fun e w' => e = .returned (.bool (charB n)) ∧ w = w' := by
  have HP : Hid (charB n = (decide (0 ≤ n) && decide (n ≤ 0x10ffff) && !(decide (0xd800 ≤ n) && decide (n ≤ 0xdfff)))) := by show _ = _; rfl
  by_cases a : 0 ≤ n
  all_goals by_cases b : n ≤ 1114111
  all_goals by_cases c : n < 55296
  all_goals
    go_enter Tryd.func25, Tryd.ntmps25
    go_wp2_with fail
    go_ret
    exact ⟨ret_bool (by rw [HP.out]; first | (simp; omega) | (simp [*]; done) | (simp [*]; omega) | (simp [*]; rw [Bool.eq_iff_iff]; simp)), rfl⟩

theorem bytes_own (w : World) (vs : Array Value) (l : Str) (e : TypeId) (h : vs.toList = bytesV l) (hl : l.length ≤ 4) : (w.alloc (.cells vs e)).ownsRow w.heap.size e 1 (.slice (some ⟨w.heap.size, 0, none⟩) l.length l.length) l.length (bytesV l) := by
  have hs : vs.size = l.length := by rw [← Array.length_toList, h, bytesV_length]
  have := World.ownsRow_lit (base := w.heap.size) (e := e) (size := 1) w vs l.length (Nat.le_refl _) (by unfold maxLen; omega) (by omega)
  rw [h] at this
  exact this
theorem enc1 {c : Nat} (h : c < 128) : encF c = [UInt8.ofNat c] := by rw [encF, if_pos (show c < 0x80 from h)]
theorem enc2 {c : Nat} (h1 : ¬ c < 128) (h : c < 2048) : encF c = [UInt8.ofNat (0xc0 + c / 64), UInt8.ofNat (0x80 + c % 64)] := by rw [encF, if_neg (show ¬ c < 0x80 from h1), if_pos (show c < 0x800 from h)]
theorem enc3 {c : Nat} (h1 : ¬ c < 2048) (h : c < 65536) : encF c = [UInt8.ofNat (0xe0 + c / 4096), UInt8.ofNat (0x80 + c / 64 % 64), UInt8.ofNat (0x80 + c % 64)] := by rw [encF, if_neg (show ¬ c < 0x80 from by omega), if_neg (show ¬ c < 0x800 from h1), if_pos (show c < 0x10000 from h)]
theorem enc4 {c : Nat} (h1 : ¬ c < 65536) : encF c = [UInt8.ofNat (0xf0 + c / 262144), UInt8.ofNat (0x80 + c / 4096 % 64), UInt8.ofNat (0x80 + c / 64 % 64), UInt8.ofNat (0x80 + c % 64)] := by rw [encF, if_neg (show ¬ c < 0x80 from by omega), if_neg (show ¬ c < 0x800 from by omega), if_neg (show ¬ c < 0x10000 from h1)]
theorem u8v {n : Nat} {z : Int} (h : n < 256) (hz : z = n) : Value.int .u8 z = .int .u8 ((UInt8.ofNat n).toNat : Nat) := by
  subst hz
  rw [UInt8.toNat_ofNat_of_lt' (by simpa using h)]
theorem Bytes_any (c : Nat) (hc : c ≤ 1114111) (w : World) : Calls Tryd.prog 26 #[.int .i64 c] w fun e w' =>
    ∃ g cap, e = .returned (.slice (some ⟨g, 0, none⟩) (encF c).length cap) ∧ w'.ownsRow w.heap.size 5 1 (.slice (some ⟨g, 0, none⟩) (encF c).length cap) (encF c).length (bytesV (encF c)) ∧ Below w.heap.size w w' := by
  by_cases h1 : c < 128
  · have h1' : (c : Int) < 128 := by omega
    have HE := Lib.hid (enc1 h1)
    go_enter Tryd.func26, Tryd.ntmps26
    go_wp2_with fail
    go_ret
    rw [HE.out]
    exact ⟨_, _, rfl, bytes_own w _ [UInt8.ofNat c] _ (by simp only [bytesV, List.map_cons, List.map_nil, List.cons.injEq, and_true]; exact u8v (by omega) rfl) (by simp), (Below.refl _ _).alloc (Nat.le_refl _) _⟩
  · by_cases h2 : c < 2048
    · have h1' : ¬ (c : Int) < 128 := by omega
      have h2' : (c : Int) < 2048 := by omega
      have HE := Lib.hid (enc2 h1 h2)
      go_enter Tryd.func26, Tryd.ntmps26
      go_wp2_with fail
      go_ret
      rw [HE.out]
      exact ⟨_, _, rfl, bytes_own w _ [UInt8.ofNat (0xc0 + c / 64), UInt8.ofNat (0x80 + c % 64)] _ (by simp only [bytesV, List.map_cons, List.map_nil, List.cons.injEq, and_true]; exact ⟨u8v (by omega) (by omega), u8v (by omega) (by omega)⟩) (by simp), (Below.refl _ _).alloc (Nat.le_refl _) _⟩
    · by_cases h3 : c < 65536
      · have h1' : ¬ (c : Int) < 128 := by omega
        have h2' : ¬ (c : Int) < 2048 := by omega
        have h3' : (c : Int) < 65536 := by omega
        have HE := Lib.hid (enc3 h2 h3)
        go_enter Tryd.func26, Tryd.ntmps26
        go_wp2_with fail
        go_ret
        rw [HE.out]
        exact ⟨_, _, rfl, bytes_own w _ [UInt8.ofNat (0xe0 + c / 4096), UInt8.ofNat (0x80 + c / 64 % 64), UInt8.ofNat (0x80 + c % 64)] _ (by simp only [bytesV, List.map_cons, List.map_nil, List.cons.injEq, and_true]; exact ⟨u8v (by omega) (by omega), u8v (by omega) (by omega), u8v (by omega) (by omega)⟩) (by simp), (Below.refl _ _).alloc (Nat.le_refl _) _⟩
      · have h1' : ¬ (c : Int) < 128 := by omega
        have h2' : ¬ (c : Int) < 2048 := by omega
        have h3' : ¬ (c : Int) < 65536 := by omega
        have h4' : (c : Int) ≤ 1114111 := by omega
        have HE := Lib.hid (enc4 h3)
        go_enter Tryd.func26, Tryd.ntmps26
        go_wp2_with fail
        go_ret
        rw [HE.out]
        exact ⟨_, _, rfl, bytes_own w _ [UInt8.ofNat (0xf0 + c / 262144), UInt8.ofNat (0x80 + c / 4096 % 64), UInt8.ofNat (0x80 + c / 64 % 64), UInt8.ofNat (0x80 + c % 64)] _ (by simp only [bytesV, List.map_cons, List.map_nil, List.cons.injEq, and_true]; exact ⟨u8v (by omega) (by omega), u8v (by omega) (by omega), u8v (by omega) (by omega), u8v (by omega) (by omega)⟩) (by simp), (Below.refl _ _).alloc (Nat.le_refl _) _⟩

end Go.Proofs.YtcgkenmgglediaaDoor
