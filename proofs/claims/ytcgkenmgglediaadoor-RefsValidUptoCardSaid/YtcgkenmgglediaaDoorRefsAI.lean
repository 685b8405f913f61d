/-
  Contract: the document's utf8.Fault, at texts in UTF-8. And how a slice of bytes is opened.
-/
import Derived.Test.YtcgkenmgglediaaDoorRefsAH
import Derived.ChangeSlices
namespace Go.Proofs.YtcgkenmgglediaaDoor
open Go.RowKit Mem

theorem someF_char {n c : Nat} (hc : charB (c : Int) = true) (hn : leastF n ≤ c) : someF n 0 c = true := by
  obtain ⟨h1, h2, h3⟩ := (charB_iff _).1 hc
  unfold someF
  rw [Nat.pow_zero, Nat.mul_one, Nat.mul_one, Nat.add_sub_cancel, Nat.max_eq_left hn, Nat.min_eq_left (by omega)]
  simp only [Bool.and_eq_true, Bool.not_eq_true', Bool.and_eq_false_iff, decide_eq_true_eq, decide_eq_false_iff_not]
  omega
theorem begin_not {b : UInt8} {r : Str} {n k : Nat} (hs : (sizeF b.toNat).1 = n) (hk : n ≠ k) : ¬ ((beginF (b :: r) k).1 = true ∧ (beginF (b :: r) k).2.1 = k) := by
  rintro ⟨h1, h2⟩
  unfold beginF at h1 h2
  simp only at h1 h2
  split at h1
  · cases h1
  · rename_i hcond
    rw [if_neg hcond] at h2
    split at h1
    · cases h1
    · rename_i v hv
      rw [hv] at h2
      exact hk (hs ▸ h2)
theorem begin_hit {b : UInt8} {r : Str} {n k v c : Nat} (hs : sizeF b.toNat = (n, v)) (hk : n = k) (hk1 : 1 ≤ k) (hl : k ≤ r.length + 1) (ht : tailF (k - 1) r v = some c) (hc : charB (c : Int) = true) (hn : leastF n ≤ c) : beginF (b :: r) k = (true, k, c) := by
  subst hk
  unfold beginF
  simp only [hs, List.length_cons]
  rw [if_neg (by omega), ht, Nat.sub_self]
  show (someF n 0 c, n, c) = _
  rw [someF_char hc hn]
theorem tail_step {m k v : Nat} {r : Str} (h : m < 64) : tailF (k + 1) (UInt8.ofNat (128 + m) :: r) v = tailF k r (v * 64 + m) := by
  rw [tailF, of_nat (by omega), if_neg (by omega), show v * 64 + (128 + m) - 128 = v * 64 + m from by omega]
theorem hit1 {l : Str} {v most : Nat} (h : beginF l 1 = (true, 1, v)) : pieceGo l 4 1 most = (1, v, true) := by rw [pieceGo, h]; rfl
theorem miss {l : Str} {f k most : Nat} (h : ¬ ((beginF l k).1 = true ∧ (beginF l k).2.1 = k)) : ∃ m, pieceGo l (f + 1) k most = pieceGo l f (k + 1) m := ⟨_, by rw [pieceGo, if_neg h]⟩
theorem hit {l : Str} {f k v most : Nat} (h : beginF l k = (true, k, v)) : pieceGo l (f + 1) k most = (k, v, true) := by rw [pieceGo, h]; simp
theorem div64 (c : Nat) : c / 64 * 64 + c % 64 = c := by omega

theorem piece_char {c : Nat} (hc : charB (c : Int) = true) (r : Str) : pieceF (encF c ++ r) = ((encF c).length, c, true) := by
  have hle := char_le hc
  have m64 : ∀ q : Nat, q % 64 < 64 := fun q => Nat.mod_lt q (by decide)
  by_cases h1 : c < 128
  · rw [enc1 h1]
    have hs : sizeF (UInt8.ofNat c).toNat = (1, c) := by rw [of_nat (by omega)]; unfold sizeF; rw [if_pos h1]
    exact hit (begin_hit hs rfl (by decide) (by omega) rfl hc (by show 0 ≤ c; omega))
  · by_cases h2 : c < 2048
    · rw [enc2 h1 h2]
      have hs : sizeF (UInt8.ofNat (192 + c / 64)).toNat = (2, c / 64) := by
        rw [of_nat (by omega)]; unfold sizeF
        rw [if_neg (by omega), if_pos (by omega), Nat.add_sub_cancel_left]
      have hh : beginF ([UInt8.ofNat (192 + c / 64), UInt8.ofNat (128 + c % 64)] ++ r) 2 = (true, 2, c) :=
        begin_hit hs rfl (by decide) (by simp) (show tailF (0 + 1) (UInt8.ofNat (128 + c % 64) :: r) (c / 64) = some c by rw [tail_step (m64 c), tailF, div64]) hc (by show 128 ≤ c; omega)
      obtain ⟨m1, e1⟩ := miss (f := 3) (most := 1) (begin_not (k := 1) (n := 2) (r := [UInt8.ofNat (128 + c % 64)] ++ r) (by rw [hs]) (by decide))
      exact e1.trans (hit hh)
    · by_cases h3 : c < 65536
      · rw [enc3 h2 h3]
        have hs : sizeF (UInt8.ofNat (224 + c / 4096)).toNat = (3, c / 4096) := by
          rw [of_nat (by omega)]; unfold sizeF
          rw [if_neg (by omega), if_neg (by omega), if_pos (by omega), Nat.add_sub_cancel_left]
        have hh : beginF ([UInt8.ofNat (224 + c / 4096), UInt8.ofNat (128 + c / 64 % 64), UInt8.ofNat (128 + c % 64)] ++ r) 3 = (true, 3, c) :=
          begin_hit hs rfl (by decide) (by simp) (show tailF (0 + 1 + 1) (UInt8.ofNat (128 + c / 64 % 64) :: UInt8.ofNat (128 + c % 64) :: r) (c / 4096) = some c by rw [tail_step (m64 _), tail_step (m64 c), tailF]; congr 1; omega) hc (by show 2048 ≤ c; omega)
        obtain ⟨m1, e1⟩ := miss (f := 3) (most := 1) (begin_not (k := 1) (n := 3) (r := [UInt8.ofNat (128 + c / 64 % 64), UInt8.ofNat (128 + c % 64)] ++ r) (by rw [hs]) (by decide))
        obtain ⟨m2, e2⟩ := miss (f := 2) (most := m1) (begin_not (k := 2) (n := 3) (r := [UInt8.ofNat (128 + c / 64 % 64), UInt8.ofNat (128 + c % 64)] ++ r) (by rw [hs]) (by decide))
        exact e1.trans (e2.trans (hit hh))
      · rw [enc4 h3]
        have hs : sizeF (UInt8.ofNat (240 + c / 262144)).toNat = (4, c / 262144) := by
          rw [of_nat (by omega)]; unfold sizeF
          rw [if_neg (by omega), if_neg (by omega), if_neg (by omega), if_pos (by omega), Nat.add_sub_cancel_left]
        have hh : beginF ([UInt8.ofNat (240 + c / 262144), UInt8.ofNat (128 + c / 4096 % 64), UInt8.ofNat (128 + c / 64 % 64), UInt8.ofNat (128 + c % 64)] ++ r) 4 = (true, 4, c) :=
          begin_hit hs rfl (by decide) (by simp) (show tailF (0 + 1 + 1 + 1) (UInt8.ofNat (128 + c / 4096 % 64) :: UInt8.ofNat (128 + c / 64 % 64) :: UInt8.ofNat (128 + c % 64) :: r) (c / 262144) = some c by rw [tail_step (m64 _), tail_step (m64 _), tail_step (m64 c), tailF]; congr 1; omega) hc (by show 65536 ≤ c; omega)
        obtain ⟨m1, e1⟩ := miss (f := 3) (most := 1) (begin_not (k := 1) (n := 4) (r := [UInt8.ofNat (128 + c / 4096 % 64), UInt8.ofNat (128 + c / 64 % 64), UInt8.ofNat (128 + c % 64)] ++ r) (by rw [hs]) (by decide))
        obtain ⟨m2, e2⟩ := miss (f := 2) (most := m1) (begin_not (k := 2) (n := 4) (r := [UInt8.ofNat (128 + c / 4096 % 64), UInt8.ofNat (128 + c / 64 % 64), UInt8.ofNat (128 + c % 64)] ++ r) (by rw [hs]) (by decide))
        obtain ⟨m3, e3⟩ := miss (f := 1) (most := m2) (begin_not (k := 3) (n := 4) (r := [UInt8.ofNat (128 + c / 4096 % 64), UInt8.ofNat (128 + c / 64 % 64), UInt8.ofNat (128 + c % 64)] ++ r) (by rw [hs]) (by decide))
        exact e1.trans (e2.trans (e3.trans (hit hh)))

set_option maxRecDepth 100000 in
set_option maxHeartbeats 1000000 in
theorem Fault_valid (l : Str) (hv : Valid l) (a : Option Addr) (cp : Nat) (w : World) (hl : l.length ≤ 1099511627776) (ha : At w a (bytesV l)) :
    Calls Tryd.prog 28 #[.slice a l.length cp] w fun e w' => e = .returned (.int .i64 l.length) ∧ w = w' := by
  have HA := Lib.hid ha
  have HV := Lib.hid hv
  clear ha hv
  go_enter Tryd.func28, Tryd.ntmps28
  go_wp2_with fail
  go_loop [3] (fun q => ∃ k : Nat, q = .int .i64 k ∧ k ≤ l.length ∧ Valid (l.drop k)) (fun q => l.length - (intOf q).toNat)
  case atStart => exact ⟨0, rfl, by omega, HV.out⟩
  case round =>
    obtain ⟨k, rfl, hk, hvk⟩ := hrel
    by_cases hlt : k < l.length
    · rcases valid_cases hvk with h0 | ⟨c, r, hc, he, hr⟩
      · have := congrArg List.length h0; rw [List.length_drop, List.length_nil] at this; omega
      · have hp := Piece_any l a cp k w hl hlt HA.out
        rw [he, piece_char hc r] at hp
        simp only at hp
        have hlen := congrArg List.length he
        rw [List.length_drop, List.length_append] at hlen
        obtain ⟨h1, _⟩ := encF_len c
        have hd2 : l.drop (k + (encF c).length) = r := by rw [← List.drop_drop, he, List.drop_left]
        have HP := Lib.hid hp
        rw [← hd2] at hr
        have HR := Lib.hid hr
        generalize (encF c).length = n at *
        have hkk : (k : Int) < (l.length : Int) := by omega
        clear hp hr hd2 he hvk
        go_wp2_with (go_at_call 49; go_must (refine HP.out.mono ?_; rintro e w2 ⟨rfl, rfl⟩))
        go_round
        case rel => exact ⟨k + n, by go_num, by omega, HR.out⟩
        case measure => simp [intOf]; omega
    · have hkk : ¬ (k : Int) < (l.length : Int) := by omega
      clear hvk
      go_wp2_with fail
      go_ret
      exact ⟨rfl, rfl⟩
end Go.Proofs.YtcgkenmgglediaaDoor
