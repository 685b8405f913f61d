/-
  Contracts: utf8.Encode: the bytes of characters; leaf.Char, colanderref09.Char: a byte's character.
-/
import Derived.Test.YtbabcohidpcjjaaRefsC
import Derived.LoopTactic
namespace Go.Proofs.Ytbabcohidpcjjaa
open Go.RowKit Mem

theorem encF_len4 (c : Nat) : (encF c).length ≤ 4 := by
  unfold encF
  split
  · simp
  · split
    · simp
    · split <;> simp
theorem bytesV_app' (l r : Str) : bytesV (l ++ r) = bytesV l ++ bytesV r := by simp [bytesV]
/-- the bytes of a number: of U+FFFD where it is no character -/
def encR (r : Int) : Str := if charB r then encF r.toNat else encF 0xfffd
def runesV (l : List Int) : List Value := l.map (Value.int .i32)
theorem runesV_get (l : List Int) (k : Nat) (h : k < l.length) : (runesV l)[k]? = some (.int .i32 l[k]) := by simp [runesV, h]
theorem charB_iff (n : Int) : charB n = true ↔ (0 ≤ n ∧ n ≤ 1114111 ∧ ¬ (55296 ≤ n ∧ n ≤ 57343)) := by
  unfold charB
  simp only [Bool.and_eq_true, Bool.not_eq_true', Bool.and_eq_false_iff, decide_eq_true_eq, decide_eq_false_iff_not]
  omega
theorem u8z {n : Nat} {z : Int} (_ : n < 256) (hz : z = n) : z.toNat.toUInt8 = UInt8.ofNat n := by subst hz; simp [Nat.toUInt8]
theorem encodeRune_char {r : Int} (h : charB r = true) : Lib.encodeRune r = encF r.toNat := by
  obtain ⟨h0, h1, h2⟩ := (charB_iff r).1 h
  obtain ⟨n, rfl⟩ := Int.eq_ofNat_of_zero_le h0
  rw [Int.toNat_natCast]
  unfold Lib.encodeRune
  by_cases a : n < 128
  · rw [Lib.encodeRuneZ_one (by omega) (by omega), enc1 a]
    simp only [List.map_cons, List.map_nil]
    rw [u8z (n := n) (by omega) rfl]
  · by_cases b : n < 2048
    · rw [Lib.encodeRuneZ_two (by omega) (by omega), enc2 a b]
      simp only [List.map_cons, List.map_nil]
      rw [u8z (n := 0xc0 + n / 64) (by omega) (by omega), u8z (n := 0x80 + n % 64) (by omega) (by omega)]
    · by_cases c : n < 65536
      · rw [Lib.encodeRuneZ_three (by omega), enc3 b c]
        simp only [List.map_cons, List.map_nil]
        rw [u8z (n := 0xe0 + n / 4096) (by omega) (by omega), u8z (n := 0x80 + n / 64 % 64) (by omega) (by omega), u8z (n := 0x80 + n % 64) (by omega) (by omega)]
      · rw [Lib.encodeRuneZ_four (by omega) (by omega), enc4 c]
        simp only [List.map_cons, List.map_nil]
        rw [u8z (n := 0xf0 + n / 262144) (by omega) (by omega), u8z (n := 0x80 + n / 4096 % 64) (by omega) (by omega), u8z (n := 0x80 + n / 64 % 64) (by omega) (by omega), u8z (n := 0x80 + n % 64) (by omega) (by omega)]
theorem runeCells_char {r : Int} (h : charB r = true) : Lib.runeCells r = bytesV (encR r) := by
  rw [encR, if_pos h, ← encodeRune_char h]
  exact (Lib.byteCells_encodeRune r).symm
theorem runeCells_bad {r : Int} (h : charB r = false) : Lib.runeCells 65533 = bytesV (encR r) := by
  rw [encR, h]
  rfl

set_option maxHeartbeats 2000000 in
theorem Encode_any (l : List Int) (a : Option Addr) (c : Nat) (w : World) (hl : l.length ≤ 1099511627776) (hr : ∀ r ∈ l, -2147483648 ≤ r ∧ r ≤ 2147483647) (ha : At w a (runesV l)) :
    Calls Try.prog 82 #[.slice a l.length c] w fun e w' => e = .returned (.string (strB (l.flatMap encR))) ∧ Below w.heap.size w w' := by
  have HA := Lib.hid ha
  have HR := Lib.hid hr
  clear ha hr
  go_enter Try.func82, Try.ntmps82
  go_wp2_with fail
  go_loopw [8] (fun i wr => ∃ k : Nat, k ≤ l.length ∧ i = .int .i64 k ∧ Lib.IsBuilderF 66 5 w.heap.size w.heap.size (bytesV ((l.take k).flatMap encR)) wr ∧ Below w.heap.size w wr ∧ ((l.take k).flatMap encR).length ≤ 4 * k) (fun i _ => l.length - (intOf i).toNat)
  case atStart => exact ⟨0, Nat.zero_le _, rfl, Lib.IsBuilderF.of (Lib.fresh_isBuilder 66 5 w), (Below.refl _ _).alloc (Nat.le_refl _) _, by simp⟩
  case round =>
    obtain ⟨k, hk, rfl, hI, hb, hlen⟩ := hrel
    have HI := Lib.hid hI
    have HB := Lib.hid hb
    have HL := Lib.hid hlen
    have hsz := hb.size
    clear hI
    by_cases hlt : k < l.length
    · obtain ⟨b, o, rfl, e1⟩ := (HA.out.below hb) _ _ (runesV_get l k hlt)
      obtain ⟨hr0, hr1⟩ := HR.out l[k] (List.getElem_mem hlt)
      have htk : (l.take (k + 1)).flatMap encR = (l.take k).flatMap encR ++ encR l[k] := by
        rw [List.take_succ_eq_append_getElem hlt, List.flatMap_append]; simp
      have HTK := Lib.hid htk
      obtain ⟨r, hrr⟩ : ∃ r, r = l[k] := ⟨_, rfl⟩
      have HRR := Lib.hid hrr
      rw [← hrr] at e1 hr0 hr1
      have h4 : (encR r).length ≤ 4 := by unfold encR; split <;> exact (encF_len4 _)
      have hbl : (bytesV ((l.take k).flatMap encR)).length + 4 ≤ 140737488355328 := by rw [bytesV_length]; omega
      have HBL := Lib.hid hbl
      clear hb htk hrr hlen hbl
      cases hc : charB r
      · have hbad : r < 0 ∨ (1114111 < r ∧ 0 ≤ r) ∨ (0 ≤ r ∧ r ≤ 1114111 ∧ 55296 ≤ r ∧ r ≤ 57343) := by
          have : ¬ (0 ≤ r ∧ r ≤ 1114111 ∧ ¬ (55296 ≤ r ∧ r ≤ 57343)) := fun h => by rw [(charB_iff r).2 h] at hc; cases hc
          omega
        have HC := Lib.hid (runeCells_bad hc)
        clear hc
        rcases hbad with h | ⟨h, h'⟩ | ⟨h, h', h'', h3⟩
        all_goals
          go_wp2_with (go_at_call 92; go_must (refine (WriteRune_any w.heap.size w.heap.size _ 65533 _ (by omega) (by omega) HI.out HBL.out hsz).mono ?_; rintro e W1 ⟨rfl, g1, b1, k1⟩; have HG1 := Lib.hid g1; have HB1 := Lib.hid b1; clear g1 b1 k1))
          go_roundw
          case rel => exact ⟨k + 1, by omega, by go_num, by rw [HTK.out, bytesV_app', ← HRR.out, ← HC.out]; exact .inr HG1.out, HB.out.trans HB1.out, by rw [HTK.out, List.length_append, ← HRR.out]; have := HL.out; omega⟩
          case measure => simp [intOf]; omega
      · obtain ⟨h, h', h''⟩ := (charB_iff r).1 hc
        have HC := Lib.hid (runeCells_char hc)
        clear hc
        have h3 : r < 55296 ∨ (55296 ≤ r ∧ 57343 < r) := by omega
        clear h''
        rcases h3 with h3 | ⟨h3, h4'⟩
        all_goals
          go_wp2_with (go_at_call 92; go_must (refine (WriteRune_any w.heap.size w.heap.size _ r _ hr0 hr1 HI.out HBL.out hsz).mono ?_; rintro e W1 ⟨rfl, g1, b1, k1⟩; have HG1 := Lib.hid g1; have HB1 := Lib.hid b1; clear g1 b1 k1))
          go_roundw
          case rel => exact ⟨k + 1, by omega, by go_num, by rw [HTK.out, bytesV_app', ← HRR.out, ← HC.out]; exact .inr HG1.out, HB.out.trans HB1.out, by rw [HTK.out, List.length_append, ← HRR.out]; have := HL.out; omega⟩
          case measure => simp [intOf]; omega
    · clear hb hlen
      go_wp2_with (go_at_call 32; go_must (refine (BString_any w.heap.size w.heap.size _ _ HI.out hsz).mono ?_; rintro e W1 ⟨rfl, g1, b1, k1⟩; have HB1 := Lib.hid b1; clear g1 b1 k1))
      go_ret
      obtain rfl : k = l.length := by omega
      exact ⟨by rw [List.take_length]; rfl, HB.out.trans HB1.out⟩
end Go.Proofs.Ytbabcohidpcjjaa
