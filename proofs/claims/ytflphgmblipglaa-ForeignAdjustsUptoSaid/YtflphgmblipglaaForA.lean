/-
  Contracts: foreign.value, colanderref16.in, large, foreign.written: what each computes; the world behind has new blocks alone.
-/
import Derived.Test.YtflphgmblipglaaBytes
namespace Go.Proofs.Ytflphgmblipglaa
open Go.RowKit Mem

/-- the first pair's second part -/
def valueOf (l : List Pair) (name : ByteArray) : ByteArray :=
  match l with
  | [] => ⟨#[]⟩
  | p :: r => if p.1 = name then p.2 else valueOf r name

theorem valueOf_step (l : List Pair) (name : ByteArray) (k : Nat) (h : k < l.length) (hne : l[k].1 ≠ name) : valueOf (l.drop k) name = valueOf (l.drop (k + 1)) name := by
  rw [List.drop_eq_getElem_cons h, valueOf, if_neg hne]
theorem valueOf_hit (l : List Pair) (name : ByteArray) (k : Nat) (h : k < l.length) (he : l[k].1 = name) : valueOf (l.drop k) name = l[k].2 := by
  rw [List.drop_eq_getElem_cons h, valueOf, if_pos he]

set_option maxHeartbeats 400000 in
theorem value_any (l : List Pair) (name : ByteArray) (a : Option Addr) (c : Nat) (w : World) (hl : l.length ≤ maxLen) (ha : At w a (pairsV l)) :
    Calls Try.prog 63 #[.slice a l.length c, .string name] w fun e w' => e = .returned (.string (valueOf l name)) ∧ Below w.heap.size w w' := by
  unfold maxLen at hl
  have HA := Lib.hid ha
  clear ha
  go_enter Try.func63, Try.ntmps63
  go_wp2
  go_loopw [9] (fun i wr => ∃ k : Nat, k ≤ l.length ∧ i = .int .i64 k ∧ Below w.heap.size w wr ∧ valueOf l name = valueOf (l.drop k) name) (fun i _ => l.length - (intOf i).toNat)
  case atStart => exact ⟨0, Nat.zero_le _, rfl, Below.refl _ _, rfl⟩
  case round =>
    obtain ⟨k, hk, rfl, hb, hv⟩ := hrel
    have HV := Lib.hid hv
    have HB := Lib.hid hb
    by_cases hlt : k < l.length
    · obtain ⟨b, o, rfl, hlb, h1, h2⟩ := pair_cells (HA.out.below hb) hlt
      clear hv hb
      go_wp2
      · go_ret
        refine ⟨ret_string ?_, HB.out.alloc HB.out.size _⟩
        rw [HV.out, valueOf_hit l name k hlt (beqT ‹_›)]
      · go_roundw
        case rel =>
          exact ⟨k + 1, by omega, by go_num, HB.out.alloc HB.out.size _, by
            rw [HV.out, valueOf_step l name k hlt (beqF ‹_›)]⟩
        case measure => simp [intOf]; omega
    · clear hb hv
      go_wp2
      go_ret
      refine ⟨ret_string ?_, HB.out⟩
      rw [HV.out, List.drop_of_length_le (by omega)]
      rfl

/-- is a word one of a list's? -/
def isIn (l : List ByteArray) (word : ByteArray) : Bool :=
  match l with
  | [] => false
  | x :: r => if x = word then true else isIn r word
theorem isIn_step (l : List ByteArray) (word : ByteArray) (k : Nat) (h : k < l.length) (hne : l[k] ≠ word) : isIn (l.drop k) word = isIn (l.drop (k + 1)) word := by
  rw [List.drop_eq_getElem_cons h, isIn, if_neg hne]
theorem isIn_hit (l : List ByteArray) (word : ByteArray) (k : Nat) (h : k < l.length) (he : l[k] = word) : isIn (l.drop k) word = true := by
  rw [List.drop_eq_getElem_cons h, isIn, if_pos he]

set_option maxHeartbeats 400000 in
theorem in_any (word : ByteArray) (l : List ByteArray) (a : Option Addr) (c : Nat) (w : World) (hl : l.length ≤ maxLen) (ha : At w a (strsV l)) :
    Calls Try.prog 64 #[.string word, .slice a l.length c] w fun e w' => e = .returned (.bool (isIn l word)) ∧ w = w' := by
  unfold maxLen at hl
  have HA := Lib.hid ha
  clear ha
  go_enter Try.func64, Try.ntmps64
  go_wp2
  go_loop [5] (fun i => ∃ k : Nat, k ≤ l.length ∧ i = .int .i64 k ∧ isIn l word = isIn (l.drop k) word) (fun i => l.length - (intOf i).toNat)
  case atStart => exact ⟨0, Nat.zero_le _, rfl, rfl⟩
  case round =>
    obtain ⟨k, hk, rfl, hv⟩ := hrel
    have HV := Lib.hid hv
    clear hv
    by_cases hlt : k < l.length
    · obtain ⟨b, o, rfl, hlb, h1⟩ := str_cell HA.out hlt
      go_wp2
      · go_ret
        refine ⟨ret_bool ?_, rfl⟩
        rw [HV.out, isIn_hit l word k hlt (beqT ‹_›)]
      · go_round
        case rel =>
          exact ⟨k + 1, by omega, by go_num, by
            rw [HV.out, isIn_step l word k hlt (beqF ‹_›)]⟩
        case measure => simp [intOf]; omega
    · go_wp2
      go_ret
      refine ⟨ret_bool ?_, rfl⟩
      rw [HV.out, List.drop_of_length_le (by omega)]
      rfl

/-- the first word that is the same in small letters, or the name itself -/
def large (l : List ByteArray) (name : ByteArray) : ByteArray :=
  match l with
  | [] => name
  | x :: r => if lowS x.toList = name.toList then x else large r name
theorem large_step (l : List ByteArray) (name : ByteArray) (k : Nat) (h : k < l.length) (hne : lowS l[k].toList ≠ name.toList) : large (l.drop k) name = large (l.drop (k + 1)) name := by
  rw [List.drop_eq_getElem_cons h, large, if_neg hne]
theorem large_hit (l : List ByteArray) (name : ByteArray) (k : Nat) (h : k < l.length) (he : lowS l[k].toList = name.toList) : large (l.drop k) name = l[k] := by
  rw [List.drop_eq_getElem_cons h, large, if_pos he]

set_option maxHeartbeats 400000 in
theorem large_any (name : ByteArray) (l : List ByteArray) (a : Option Addr) (c : Nat) (w : World) (hl : l.length ≤ maxLen) (hs : ∀ i (h : i < l.length), l[i].size ≤ maxLen) (ha : At w a (strsV l)) :
    Calls Try.prog 65 #[.string name, .slice a l.length c] w fun e w' => e = .returned (.string (large l name)) ∧ Below w.heap.size w w' := by
  unfold maxLen at hl
  have HA := Lib.hid ha
  have HS := Lib.hid hs
  clear ha hs
  go_enter Try.func65, Try.ntmps65
  go_wp2
  go_loopw [5] (fun i wr => ∃ k : Nat, k ≤ l.length ∧ i = .int .i64 k ∧ Below w.heap.size w wr ∧ large l name = large (l.drop k) name) (fun i _ => l.length - (intOf i).toNat)
  case atStart => exact ⟨0, Nat.zero_le _, rfl, Below.refl _ _, rfl⟩
  case round =>
    obtain ⟨k, hk, rfl, hb, hv⟩ := hrel
    have HV := Lib.hid hv
    have HB := Lib.hid hb
    by_cases hlt : k < l.length
    · obtain ⟨b, o, rfl, hlb, h1⟩ := str_cell (HA.out.below hb) hlt
      clear hv hb
      have hsz := HS.out k hlt
      go_wp2_with (go_at_call 26; refine (Lower_any _ _ hsz).mono ?_; rintro e w1 ⟨rfl, hb1⟩; have h1' := cell_later hb1 h1; have HB1 := Lib.hid hb1; clear hb1 h1)
      · go_ret
        refine ⟨ret_string ?_, belowCall HB.out HB1.out⟩
        rw [HV.out, large_hit l name k hlt (beqL ‹_›)]
      · go_roundw
        case rel =>
          exact ⟨k + 1, by omega, by go_num, belowCall HB.out HB1.out, by
            rw [HV.out, large_step l name k hlt (beqLF ‹_›)]⟩
        case measure => simp [intOf]; omega
    · clear hb hv
      go_wp2
      go_ret
      refine ⟨ret_string ?_, HB.out⟩
      rw [HV.out, List.drop_of_length_le (by omega)]
      rfl

set_option maxHeartbeats 400000 in
theorem written_any (name : ByteArray) (l : List ByteArray) (a : Option Addr) (c : Nat) (w : World) (hl : l.length ≤ maxLen) (hs : ∀ i (h : i < l.length), l[i].size ≤ maxLen) (ha : At w a (strsV l)) :
    Calls Try.prog 66 #[.string name, .slice a l.length c] w fun e w' => e = .returned (.string (large l name)) ∧ Below w.heap.size w w' := by
  unfold maxLen at hl
  have HA := Lib.hid ha
  have HS := Lib.hid hs
  clear ha hs
  go_enter Try.func66, Try.ntmps66
  go_wp2
  go_loopw [9] (fun i wr => ∃ k : Nat, k ≤ l.length ∧ i = .int .i64 k ∧ Below w.heap.size w wr ∧ large l name = large (l.drop k) name) (fun i _ => l.length - (intOf i).toNat)
  case atStart => exact ⟨0, Nat.zero_le _, rfl, Below.refl _ _, rfl⟩
  case round =>
    obtain ⟨k, hk, rfl, hb, hv⟩ := hrel
    have HV := Lib.hid hv
    have HB := Lib.hid hb
    by_cases hlt : k < l.length
    · obtain ⟨b, o, rfl, hlb, h1⟩ := str_cell (HA.out.below hb) hlt
      clear hv hb
      have hsz := HS.out k hlt
      go_wp2_with (go_at_call 62; refine (small_any _ _ hsz).mono ?_; rintro e w1 ⟨rfl, hb1⟩; have HB1 := Lib.hid hb1; clear hb1 h1)
      · go_ret
        refine ⟨ret_string ?_, belowCall HB.out HB1.out⟩
        rw [HV.out, large_hit l name k hlt (beqL ‹_›)]
      · go_roundw
        case rel =>
          exact ⟨k + 1, by omega, by go_num, belowCall HB.out HB1.out, by
            rw [HV.out, large_step l name k hlt (beqLF ‹_›)]⟩
        case measure => simp [intOf]; omega
    · clear hb hv
      go_wp2
      go_ret
      refine ⟨ret_string ?_, HB.out⟩
      rw [HV.out, List.drop_of_length_le (by omega)]
      rfl
end Go.Proofs.Ytflphgmblipglaa
