import Derived.Test.YtbabcohidpcjjaaGreatZRefB
import Derived.Test.YtbabcohidpcjjaaGreatZMem
import Derived.LoopTactic
import Derived.Deep.WholeRow
/-
  Contracts: colanderref08.Bytes, Char; colanderref12.Names: what each makes, in new memory.
-/
namespace Go.Proofs.YtbabcohidpcjjaaGreat
open Go.RowKit Mem

theorem Char08_any (n : Int) (w : World) (h0 : -9223372036854775808 ≤ n) (h1 : n ≤ 9223372036854775807) : Calls Tryz.prog 71 #[.int .i64 n] w fun e w' => e = .returned (.bool (charB n)) ∧ w = w' := by
  have HP : Hid (charB n = (decide (0 ≤ n) && decide (n ≤ 0x10ffff) && !(decide (0xd800 ≤ n) && decide (n ≤ 0xdfff)))) := by show _ = _; rfl
  by_cases a : 0 ≤ n
  all_goals by_cases b : n ≤ 1114111
  all_goals by_cases c : n < 55296
  all_goals
    go_enter Tryz.func71, Tryz.ntmps71
    go_wp2_with fail
    go_ret
    exact ⟨ret_bool (by rw [HP.out]; first | (simp; omega) | (simp [*]; done) | (simp [*]; omega) | (simp [*]; rw [Bool.eq_iff_iff]; simp)), rfl⟩

theorem bytes_own (w : World) (vs : Array Value) (l : Str) (e : TypeId) (h : vs.toList = bytesV l) (hl : l.length ≤ 4) : (w.alloc (.cells vs e)).ownsRow w.heap.size e 1 (.slice (some ⟨w.heap.size, 0, none⟩) l.length l.length) l.length (bytesV l) := by
  have hs : vs.size = l.length := by rw [← Array.length_toList, h, bytesV_length]
  have := World.ownsRow_lit (base := w.heap.size) (e := e) (size := 1) w vs l.length (Nat.le_refl _) (by unfold maxLen; omega) (by omega)
  rw [h] at this
  exact this
theorem enc1 {c : Nat} (h : c < 128) : encF c = [UInt8.ofNat c] := by rw [encF, if_pos (show c < 0x80 from h)]
theorem enc2 {c : Nat} (h1 : ¬ c < 128) (h : c < 2048) : encF c = [UInt8.ofNat (0xc0 + c / 64), UInt8.ofNat (0x80 + c % 64)] := by rw [encF, if_neg (show ¬ c < 0x80 from h1), if_pos (show c < 0x800 from h)]
theorem enc3 {c : Nat} (h1 : ¬ c < 2048) (h : c < 65536) : encF c = [UInt8.ofNat (0xe0 + c / 4096), UInt8.ofNat (0x80 + c / 64 % 64), UInt8.ofNat (0x80 + c % 64)] := by rw [encF, if_neg (show ¬ c < 0x80 from by omega), if_neg (show ¬ c < 0x800 from h1), if_pos (show c < 0x10000 from h)]
theorem enc4 {c : Nat} (h1 : ¬ c < 65536) : encF c = [UInt8.ofNat (0xf0 + c / 262144), UInt8.ofNat (0x80 + c / 4096 % 64), UInt8.ofNat (0x80 + c / 64 % 64), UInt8.ofNat (0x80 + c % 64)] := by rw [encF, if_neg (show ¬ c < 0x80 from by omega), if_neg (show ¬ c < 0x800 from by omega), if_neg (show ¬ c < 0x10000 from h1)]
theorem u8v {n : Nat} {z : Int} (h : n < 256) (hz : z = n) : Value.int .u8 z = .int .u8 ((UInt8.ofNat n).toNat : Nat) := by
  subst hz
  rw [UInt8.toNat_ofNat_of_lt' (by simpa using h)]
theorem Bytes_any (c : Nat) (hc : c ≤ 1114111) (w : World) : Calls Tryz.prog 73 #[.int .i64 c] w fun e w' =>
    ∃ g cap, e = .returned (.slice (some ⟨g, 0, none⟩) (encF c).length cap) ∧ w'.ownsRow w.heap.size 5 1 (.slice (some ⟨g, 0, none⟩) (encF c).length cap) (encF c).length (bytesV (encF c)) ∧ Below w.heap.size w w' := by
  by_cases h1 : c < 128
  · have h1' : (c : Int) < 128 := by omega
    have HE := Lib.hid (enc1 h1)
    go_enter Tryz.func73, Tryz.ntmps73
    go_wp2_with fail
    go_ret
    rw [HE.out]
    exact ⟨_, _, rfl, bytes_own w _ [UInt8.ofNat c] _ (by simp only [bytesV, List.map_cons, List.map_nil, List.cons.injEq, and_true]; exact u8v (by omega) rfl) (by simp), (Below.refl _ _).alloc (Nat.le_refl _) _⟩
  · by_cases h2 : c < 2048
    · have h1' : ¬ (c : Int) < 128 := by omega
      have h2' : (c : Int) < 2048 := by omega
      have HE := Lib.hid (enc2 h1 h2)
      go_enter Tryz.func73, Tryz.ntmps73
      go_wp2_with fail
      go_ret
      rw [HE.out]
      exact ⟨_, _, rfl, bytes_own w _ [UInt8.ofNat (0xc0 + c / 64), UInt8.ofNat (0x80 + c % 64)] _ (by simp only [bytesV, List.map_cons, List.map_nil, List.cons.injEq, and_true]; exact ⟨u8v (by omega) (by omega), u8v (by omega) (by omega)⟩) (by simp), (Below.refl _ _).alloc (Nat.le_refl _) _⟩
    · by_cases h3 : c < 65536
      · have h1' : ¬ (c : Int) < 128 := by omega
        have h2' : ¬ (c : Int) < 2048 := by omega
        have h3' : (c : Int) < 65536 := by omega
        have HE := Lib.hid (enc3 h2 h3)
        go_enter Tryz.func73, Tryz.ntmps73
        go_wp2_with fail
        go_ret
        rw [HE.out]
        exact ⟨_, _, rfl, bytes_own w _ [UInt8.ofNat (0xe0 + c / 4096), UInt8.ofNat (0x80 + c / 64 % 64), UInt8.ofNat (0x80 + c % 64)] _ (by simp only [bytesV, List.map_cons, List.map_nil, List.cons.injEq, and_true]; exact ⟨u8v (by omega) (by omega), u8v (by omega) (by omega), u8v (by omega) (by omega)⟩) (by simp), (Below.refl _ _).alloc (Nat.le_refl _) _⟩
      · have h1' : ¬ (c : Int) < 128 := by omega
        have h2' : ¬ (c : Int) < 2048 := by omega
        have h3' : ¬ (c : Int) < 65536 := by omega
        have h4' : (c : Int) ≤ 1114111 := by omega
        have HE := Lib.hid (enc4 h3)
        go_enter Tryz.func73, Tryz.ntmps73
        go_wp2_with fail
        go_ret
        rw [HE.out]
        exact ⟨_, _, rfl, bytes_own w _ [UInt8.ofNat (0xf0 + c / 262144), UInt8.ofNat (0x80 + c / 4096 % 64), UInt8.ofNat (0x80 + c / 64 % 64), UInt8.ofNat (0x80 + c % 64)] _ (by simp only [bytesV, List.map_cons, List.map_nil, List.cons.injEq, and_true]; exact ⟨u8v (by omega) (by omega), u8v (by omega) (by omega), u8v (by omega) (by omega), u8v (by omega) (by omega)⟩) (by simp), (Below.refl _ _).alloc (Nat.le_refl _) _⟩

end Go.Proofs.YtbabcohidpcjjaaGreat

/-
  Contracts: utf8.Encode: the bytes of characters; leaf.Char, colanderref09.Char: a byte's character.
-/
namespace Go.Proofs.YtbabcohidpcjjaaGreat
open Go.RowKit Mem

theorem encF_len4 (c : Nat) : (encF c).length ≤ 4 := by
  unfold encF
  split
  · simp
  · split
    · simp
    · split <;> simp
theorem bytesV_app' (l r : Str) : bytesV (l ++ r) = bytesV l ++ bytesV r := by simp [bytesV]
/-- the bytes of a number: of U+FFFD where it is no character -/
def encR (r : Int) : Str := if charB r then encF r.toNat else encF 0xfffd
def runesV (l : List Int) : List Value := l.map (Value.int .i32)
theorem runesV_get (l : List Int) (k : Nat) (h : k < l.length) : (runesV l)[k]? = some (.int .i32 l[k]) := by simp [runesV, h]
theorem charB_iff (n : Int) : charB n = true ↔ (0 ≤ n ∧ n ≤ 1114111 ∧ ¬ (55296 ≤ n ∧ n ≤ 57343)) := by
  unfold charB
  simp only [Bool.and_eq_true, Bool.not_eq_true', Bool.and_eq_false_iff, decide_eq_true_eq, decide_eq_false_iff_not]
  omega
theorem u8z {n : Nat} {z : Int} (_ : n < 256) (hz : z = n) : z.toNat.toUInt8 = UInt8.ofNat n := by subst hz; simp [Nat.toUInt8]
theorem encodeRune_char {r : Int} (h : charB r = true) : Lib.encodeRune r = encF r.toNat := by
  obtain ⟨h0, h1, h2⟩ := (charB_iff r).1 h
  obtain ⟨n, rfl⟩ := Int.eq_ofNat_of_zero_le h0
  rw [Int.toNat_natCast]
  unfold Lib.encodeRune
  by_cases a : n < 128
  · rw [Lib.encodeRuneZ_one (by omega) (by omega), enc1 a]
    simp only [List.map_cons, List.map_nil]
    rw [u8z (n := n) (by omega) rfl]
  · by_cases b : n < 2048
    · rw [Lib.encodeRuneZ_two (by omega) (by omega), enc2 a b]
      simp only [List.map_cons, List.map_nil]
      rw [u8z (n := 0xc0 + n / 64) (by omega) (by omega), u8z (n := 0x80 + n % 64) (by omega) (by omega)]
    · by_cases c : n < 65536
      · rw [Lib.encodeRuneZ_three (by omega), enc3 b c]
        simp only [List.map_cons, List.map_nil]
        rw [u8z (n := 0xe0 + n / 4096) (by omega) (by omega), u8z (n := 0x80 + n / 64 % 64) (by omega) (by omega), u8z (n := 0x80 + n % 64) (by omega) (by omega)]
      · rw [Lib.encodeRuneZ_four (by omega) (by omega), enc4 c]
        simp only [List.map_cons, List.map_nil]
        rw [u8z (n := 0xf0 + n / 262144) (by omega) (by omega), u8z (n := 0x80 + n / 4096 % 64) (by omega) (by omega), u8z (n := 0x80 + n / 64 % 64) (by omega) (by omega), u8z (n := 0x80 + n % 64) (by omega) (by omega)]
theorem runeCells_char {r : Int} (h : charB r = true) : Lib.runeCells r = bytesV (encR r) := by
  rw [encR, if_pos h, ← encodeRune_char h]
  exact (Lib.byteCells_encodeRune r).symm
theorem runeCells_bad {r : Int} (h : charB r = false) : Lib.runeCells 65533 = bytesV (encR r) := by
  rw [encR, h]
  rfl

set_option maxHeartbeats 2000000 in
theorem Encode_any (l : List Int) (a : Option Addr) (c : Nat) (w : World) (hl : l.length ≤ 1099511627776) (hr : ∀ r ∈ l, -2147483648 ≤ r ∧ r ≤ 2147483647) (ha : At w a (runesV l)) :
    Calls Tryz.prog 104 #[.slice a l.length c] w fun e w' => e = .returned (.string (strB (l.flatMap encR))) ∧ Below w.heap.size w w' := by
  have HA := Lib.hid ha
  have HR := Lib.hid hr
  clear ha hr
  go_enter Tryz.func104, Tryz.ntmps104
  go_wp2_with fail
  go_loopw [8] (fun i wr => ∃ k : Nat, k ≤ l.length ∧ i = .int .i64 k ∧ Lib.IsBuilderF 76 5 w.heap.size w.heap.size (bytesV ((l.take k).flatMap encR)) wr ∧ Below w.heap.size w wr ∧ ((l.take k).flatMap encR).length ≤ 4 * k) (fun i _ => l.length - (intOf i).toNat)
  case atStart => exact ⟨0, Nat.zero_le _, rfl, Lib.IsBuilderF.of (Lib.fresh_isBuilder 76 5 w), (Below.refl _ _).alloc (Nat.le_refl _) _, by simp⟩
  case round =>
    obtain ⟨k, hk, rfl, hI, hb, hlen⟩ := hrel
    have HI := Lib.hid hI
    have HB := Lib.hid hb
    have HL := Lib.hid hlen
    have hsz := hb.size
    clear hI
    by_cases hlt : k < l.length
    · obtain ⟨b, o, rfl, e1⟩ := (HA.out.below hb) _ _ (runesV_get l k hlt)
      obtain ⟨hr0, hr1⟩ := HR.out l[k] (List.getElem_mem hlt)
      have htk : (l.take (k + 1)).flatMap encR = (l.take k).flatMap encR ++ encR l[k] := by
        rw [List.take_succ_eq_append_getElem hlt, List.flatMap_append]; simp
      have HTK := Lib.hid htk
      obtain ⟨r, hrr⟩ : ∃ r, r = l[k] := ⟨_, rfl⟩
      have HRR := Lib.hid hrr
      rw [← hrr] at e1 hr0 hr1
      have h4 : (encR r).length ≤ 4 := by unfold encR; split <;> exact (encF_len4 _)
      have hbl : (bytesV ((l.take k).flatMap encR)).length + 4 ≤ 140737488355328 := by rw [bytesV_length]; omega
      have HBL := Lib.hid hbl
      clear hb htk hrr hlen hbl
      cases hc : charB r
      · have hbad : r < 0 ∨ (1114111 < r ∧ 0 ≤ r) ∨ (0 ≤ r ∧ r ≤ 1114111 ∧ 55296 ≤ r ∧ r ≤ 57343) := by
          have : ¬ (0 ≤ r ∧ r ≤ 1114111 ∧ ¬ (55296 ≤ r ∧ r ≤ 57343)) := fun h => by rw [(charB_iff r).2 h] at hc; cases hc
          omega
        have HC := Lib.hid (runeCells_bad hc)
        clear hc
        rcases hbad with h | ⟨h, h'⟩ | ⟨h, h', h'', h3⟩
        all_goals
          go_wp2_with (go_at_call 114; go_must (refine (WriteRune_any w.heap.size w.heap.size _ 65533 _ (by omega) (by omega) HI.out HBL.out hsz).mono ?_; rintro e W1 ⟨rfl, g1, b1, k1⟩; have HG1 := Lib.hid g1; have HB1 := Lib.hid b1; clear g1 b1 k1))
          go_roundw
          case rel => exact ⟨k + 1, by omega, by go_num, by rw [HTK.out, bytesV_app', ← HRR.out, ← HC.out]; exact .inr HG1.out, HB.out.trans HB1.out, by rw [HTK.out, List.length_append, ← HRR.out]; have := HL.out; omega⟩
          case measure => simp [intOf]; omega
      · obtain ⟨h, h', h''⟩ := (charB_iff r).1 hc
        have HC := Lib.hid (runeCells_char hc)
        clear hc
        have h3 : r < 55296 ∨ (55296 ≤ r ∧ 57343 < r) := by omega
        clear h''
        rcases h3 with h3 | ⟨h3, h4'⟩
        all_goals
          go_wp2_with (go_at_call 114; go_must (refine (WriteRune_any w.heap.size w.heap.size _ r _ hr0 hr1 HI.out HBL.out hsz).mono ?_; rintro e W1 ⟨rfl, g1, b1, k1⟩; have HG1 := Lib.hid g1; have HB1 := Lib.hid b1; clear g1 b1 k1))
          go_roundw
          case rel => exact ⟨k + 1, by omega, by go_num, by rw [HTK.out, bytesV_app', ← HRR.out, ← HC.out]; exact .inr HG1.out, HB.out.trans HB1.out, by rw [HTK.out, List.length_append, ← HRR.out]; have := HL.out; omega⟩
          case measure => simp [intOf]; omega
    · clear hb hlen
      go_wp2_with (go_at_call 39; go_must (refine (BString_any w.heap.size w.heap.size _ _ HI.out hsz).mono ?_; rintro e W1 ⟨rfl, g1, b1, k1⟩; have HB1 := Lib.hid b1; clear g1 b1 k1))
      go_ret
      obtain rfl : k = l.length := by omega
      exact ⟨by rw [List.take_length]; rfl, HB.out.trans HB1.out⟩
end Go.Proofs.YtbabcohidpcjjaaGreat

/-
  Contract: colanderref12.Names: the names in new memory.
-/
namespace Go.Proofs.YtbabcohidpcjjaaGreat
open Go.RowKit Mem

theorem wpList_val {P : Program} {ops : Array Oper} {rest : List Oper} {o : Oper} {a : Act} {w : World} {Q : Exit → Act → World → Prop} {v : Value} (hgd : o.guard = none) (h : (execOp a.eval o).run P w = .ok (.value v) w)
    (hk : wpList P ops Q rest (a.put o.dst v) w) : wpList P ops Q (o :: rest) a w :=
  wpList_plain hgd fun K hK => by unfold Oper.wp; rw [h]; exact hK _ _ hk
theorem wpList_new {P : Program} {ops : Array Oper} {rest : List Oper} {o : Oper} {a : Act} {w : World} {Q : Exit → Act → World → Prop} {v : Value} {c : Obj} (hgd : o.guard = none) (h : (execOp a.eval o).run P w = .ok (.value v) (w.alloc c))
    (hk : wpList P ops Q rest (a.put o.dst v) (w.alloc c)) : wpList P ops Q (o :: rest) a w :=
  wpList_plain hgd fun K hK => by unfold Oper.wp; rw [h]; exact hK _ _ hk
/-- the document's names as cells -/
def rowsV : List (Str × Nat × Nat × Bool) → List Value
  | [] => []
  | x :: r => .string (strB x.1) :: .int .i64 x.2.1 :: .int .i64 x.2.2.1 :: .bool x.2.2.2 :: rowsV r
set_option maxRecDepth 100000 in
set_option maxHeartbeats 4000000 in
theorem Names_any (w : World) : Calls Tryz.prog 74 #[] w fun e w' =>
    e = .returned (.slice (some ⟨w.heap.size, 0, none⟩) 44 44) ∧ At w' (some ⟨w.heap.size, 0, none⟩) (rowsV namesT) ∧ Below w.heap.size w w' ∧ w'.heap.size = w.heap.size + 1 := by
  go_enter Tryz.func74, Tryz.ntmps74
  go_step
  go_step
  go_step
  go_step
  go_step
  go_step
  go_step
  go_step
  go_step
  go_step
  refine wp_region_lit ?_
  with_reducible refine wpList_val (v := .agg #[.string ⟨#[97, 109, 112]⟩, .int .i64 38, .int .i64 0, .bool true]) rfl (by kernel_rfl) ?_
  with_reducible refine wpList_val (v := .agg #[.string ⟨#[65, 77, 80]⟩, .int .i64 38, .int .i64 0, .bool true]) rfl (by kernel_rfl) ?_
  with_reducible refine wpList_val (v := .agg #[.string ⟨#[108, 116]⟩, .int .i64 60, .int .i64 0, .bool true]) rfl (by kernel_rfl) ?_
  with_reducible refine wpList_val (v := .agg #[.string ⟨#[76, 84]⟩, .int .i64 60, .int .i64 0, .bool true]) rfl (by kernel_rfl) ?_
  with_reducible refine wpList_val (v := .agg #[.string ⟨#[103, 116]⟩, .int .i64 62, .int .i64 0, .bool true]) rfl (by kernel_rfl) ?_
  with_reducible refine wpList_val (v := .agg #[.string ⟨#[113, 117, 111, 116]⟩, .int .i64 34, .int .i64 0, .bool true]) rfl (by kernel_rfl) ?_
  with_reducible refine wpList_val (v := .agg #[.string ⟨#[110, 98, 115, 112]⟩, .int .i64 160, .int .i64 0, .bool true]) rfl (by kernel_rfl) ?_
  with_reducible refine wpList_val (v := .agg #[.string ⟨#[99, 111, 112, 121]⟩, .int .i64 169, .int .i64 0, .bool true]) rfl (by kernel_rfl) ?_
  with_reducible refine wpList_val (v := .agg #[.string ⟨#[114, 101, 103]⟩, .int .i64 174, .int .i64 0, .bool true]) rfl (by kernel_rfl) ?_
  with_reducible refine wpList_val (v := .agg #[.string ⟨#[110, 111, 116]⟩, .int .i64 172, .int .i64 0, .bool true]) rfl (by kernel_rfl) ?_
  with_reducible refine wpList_val (v := .agg #[.string ⟨#[112, 97, 114, 97]⟩, .int .i64 182, .int .i64 0, .bool true]) rfl (by kernel_rfl) ?_
  with_reducible refine wpList_val (v := .agg #[.string ⟨#[116, 105, 109, 101, 115]⟩, .int .i64 215, .int .i64 0, .bool true]) rfl (by kernel_rfl) ?_
  with_reducible refine wpList_val (v := .agg #[.string ⟨#[100, 105, 118, 105, 100, 101]⟩, .int .i64 247, .int .i64 0, .bool true]) rfl (by kernel_rfl) ?_
  with_reducible refine wpList_val (v := .agg #[.string ⟨#[101, 97, 99, 117, 116, 101]⟩, .int .i64 233, .int .i64 0, .bool true]) rfl (by kernel_rfl) ?_
  with_reducible refine wpList_val (v := .agg #[.string ⟨#[69, 84, 72]⟩, .int .i64 208, .int .i64 0, .bool true]) rfl (by kernel_rfl) ?_
  with_reducible refine wpList_val (v := .agg #[.string ⟨#[115, 122, 108, 105, 103]⟩, .int .i64 223, .int .i64 0, .bool true]) rfl (by kernel_rfl) ?_
  with_reducible refine wpList_val (v := .agg #[.string ⟨#[97, 112, 111, 115]⟩, .int .i64 39, .int .i64 0, .bool false]) rfl (by kernel_rfl) ?_
  with_reducible refine wpList_val (v := .agg #[.string ⟨#[110, 111, 116, 105, 110]⟩, .int .i64 8713, .int .i64 0, .bool false]) rfl (by kernel_rfl) ?_
  with_reducible refine wpList_val (v := .agg #[.string ⟨#[99, 111, 112, 121, 115, 114]⟩, .int .i64 8471, .int .i64 0, .bool false]) rfl (by kernel_rfl) ?_
  with_reducible refine wpList_val (v := .agg #[.string ⟨#[112, 97, 114, 97, 108, 108, 101, 108]⟩, .int .i64 8741, .int .i64 0, .bool false]) rfl (by kernel_rfl) ?_
  with_reducible refine wpList_val (v := .agg #[.string ⟨#[116, 105, 109, 101, 115, 98]⟩, .int .i64 8864, .int .i64 0, .bool false]) rfl (by kernel_rfl) ?_
  with_reducible refine wpList_val (v := .agg #[.string ⟨#[108, 116, 105, 109, 101, 115]⟩, .int .i64 8905, .int .i64 0, .bool false]) rfl (by kernel_rfl) ?_
  with_reducible refine wpList_val (v := .agg #[.string ⟨#[103, 116, 100, 111, 116]⟩, .int .i64 8919, .int .i64 0, .bool false]) rfl (by kernel_rfl) ?_
  with_reducible refine wpList_val (v := .agg #[.string ⟨#[104, 101, 108, 108, 105, 112]⟩, .int .i64 8230, .int .i64 0, .bool false]) rfl (by kernel_rfl) ?_
  with_reducible refine wpList_val (v := .agg #[.string ⟨#[110, 100, 97, 115, 104]⟩, .int .i64 8211, .int .i64 0, .bool false]) rfl (by kernel_rfl) ?_
  with_reducible refine wpList_val (v := .agg #[.string ⟨#[109, 100, 97, 115, 104]⟩, .int .i64 8212, .int .i64 0, .bool false]) rfl (by kernel_rfl) ?_
  with_reducible refine wpList_val (v := .agg #[.string ⟨#[108, 115, 113, 117, 111]⟩, .int .i64 8216, .int .i64 0, .bool false]) rfl (by kernel_rfl) ?_
  with_reducible refine wpList_val (v := .agg #[.string ⟨#[114, 115, 113, 117, 111]⟩, .int .i64 8217, .int .i64 0, .bool false]) rfl (by kernel_rfl) ?_
  with_reducible refine wpList_val (v := .agg #[.string ⟨#[108, 100, 113, 117, 111]⟩, .int .i64 8220, .int .i64 0, .bool false]) rfl (by kernel_rfl) ?_
  with_reducible refine wpList_val (v := .agg #[.string ⟨#[114, 100, 113, 117, 111]⟩, .int .i64 8221, .int .i64 0, .bool false]) rfl (by kernel_rfl) ?_
  with_reducible refine wpList_val (v := .agg #[.string ⟨#[101, 117, 114, 111]⟩, .int .i64 8364, .int .i64 0, .bool false]) rfl (by kernel_rfl) ?_
  with_reducible refine wpList_val (v := .agg #[.string ⟨#[116, 114, 97, 100, 101]⟩, .int .i64 8482, .int .i64 0, .bool false]) rfl (by kernel_rfl) ?_
  with_reducible refine wpList_val (v := .agg #[.string ⟨#[108, 97, 114, 114]⟩, .int .i64 8592, .int .i64 0, .bool false]) rfl (by kernel_rfl) ?_
  with_reducible refine wpList_val (v := .agg #[.string ⟨#[114, 97, 114, 114]⟩, .int .i64 8594, .int .i64 0, .bool false]) rfl (by kernel_rfl) ?_
  with_reducible refine wpList_val (v := .agg #[.string ⟨#[84, 97, 98]⟩, .int .i64 9, .int .i64 0, .bool false]) rfl (by kernel_rfl) ?_
  with_reducible refine wpList_val (v := .agg #[.string ⟨#[78, 101, 119, 76, 105, 110, 101]⟩, .int .i64 10, .int .i64 0, .bool false]) rfl (by kernel_rfl) ?_
  with_reducible refine wpList_val (v := .agg #[.string ⟨#[99, 111, 108, 111, 110]⟩, .int .i64 58, .int .i64 0, .bool false]) rfl (by kernel_rfl) ?_
  with_reducible refine wpList_val (v := .agg #[.string ⟨#[115, 111, 108]⟩, .int .i64 47, .int .i64 0, .bool false]) rfl (by kernel_rfl) ?_
  with_reducible refine wpList_val (v := .agg #[.string ⟨#[113, 117, 101, 115, 116]⟩, .int .i64 63, .int .i64 0, .bool false]) rfl (by kernel_rfl) ?_
  with_reducible refine wpList_val (v := .agg #[.string ⟨#[108, 112, 97, 114]⟩, .int .i64 40, .int .i64 0, .bool false]) rfl (by kernel_rfl) ?_
  with_reducible refine wpList_val (v := .agg #[.string ⟨#[122, 119, 106]⟩, .int .i64 8205, .int .i64 0, .bool false]) rfl (by kernel_rfl) ?_
  with_reducible refine wpList_val (v := .agg #[.string ⟨#[78, 111, 116, 69, 113, 117, 97, 108, 84, 105, 108, 100, 101]⟩, .int .i64 8770, .int .i64 824, .bool false]) rfl (by kernel_rfl) ?_
  with_reducible refine wpList_val (v := .agg #[.string ⟨#[84, 104, 105, 99, 107, 83, 112, 97, 99, 101]⟩, .int .i64 8287, .int .i64 8202, .bool false]) rfl (by kernel_rfl) ?_
  with_reducible refine wpList_val (v := .agg #[.string ⟨#[110, 118, 108, 116]⟩, .int .i64 60, .int .i64 8402, .bool false]) rfl (by kernel_rfl) ?_
  with_reducible refine wpList_new (v := .slice (some ⟨w.heap.size, 0, none⟩) 44 44) (c := .cells #[.string ⟨#[97, 109, 112]⟩, .int .i64 38, .int .i64 0, .bool true, .string ⟨#[65, 77, 80]⟩, .int .i64 38, .int .i64 0, .bool true, .string ⟨#[108, 116]⟩, .int .i64 60, .int .i64 0, .bool true, .string ⟨#[76, 84]⟩, .int .i64 60, .int .i64 0, .bool true, .string ⟨#[103, 116]⟩, .int .i64 62, .int .i64 0, .bool true, .string ⟨#[113, 117, 111, 116]⟩, .int .i64 34, .int .i64 0, .bool true, .string ⟨#[110, 98, 115, 112]⟩, .int .i64 160, .int .i64 0, .bool true, .string ⟨#[99, 111, 112, 121]⟩, .int .i64 169, .int .i64 0, .bool true, .string ⟨#[114, 101, 103]⟩, .int .i64 174, .int .i64 0, .bool true, .string ⟨#[110, 111, 116]⟩, .int .i64 172, .int .i64 0, .bool true, .string ⟨#[112, 97, 114, 97]⟩, .int .i64 182, .int .i64 0, .bool true, .string ⟨#[116, 105, 109, 101, 115]⟩, .int .i64 215, .int .i64 0, .bool true, .string ⟨#[100, 105, 118, 105, 100, 101]⟩, .int .i64 247, .int .i64 0, .bool true, .string ⟨#[101, 97, 99, 117, 116, 101]⟩, .int .i64 233, .int .i64 0, .bool true, .string ⟨#[69, 84, 72]⟩, .int .i64 208, .int .i64 0, .bool true, .string ⟨#[115, 122, 108, 105, 103]⟩, .int .i64 223, .int .i64 0, .bool true, .string ⟨#[97, 112, 111, 115]⟩, .int .i64 39, .int .i64 0, .bool false, .string ⟨#[110, 111, 116, 105, 110]⟩, .int .i64 8713, .int .i64 0, .bool false, .string ⟨#[99, 111, 112, 121, 115, 114]⟩, .int .i64 8471, .int .i64 0, .bool false, .string ⟨#[112, 97, 114, 97, 108, 108, 101, 108]⟩, .int .i64 8741, .int .i64 0, .bool false, .string ⟨#[116, 105, 109, 101, 115, 98]⟩, .int .i64 8864, .int .i64 0, .bool false, .string ⟨#[108, 116, 105, 109, 101, 115]⟩, .int .i64 8905, .int .i64 0, .bool false, .string ⟨#[103, 116, 100, 111, 116]⟩, .int .i64 8919, .int .i64 0, .bool false, .string ⟨#[104, 101, 108, 108, 105, 112]⟩, .int .i64 8230, .int .i64 0, .bool false, .string ⟨#[110, 100, 97, 115, 104]⟩, .int .i64 8211, .int .i64 0, .bool false, .string ⟨#[109, 100, 97, 115, 104]⟩, .int .i64 8212, .int .i64 0, .bool false, .string ⟨#[108, 115, 113, 117, 111]⟩, .int .i64 8216, .int .i64 0, .bool false, .string ⟨#[114, 115, 113, 117, 111]⟩, .int .i64 8217, .int .i64 0, .bool false, .string ⟨#[108, 100, 113, 117, 111]⟩, .int .i64 8220, .int .i64 0, .bool false, .string ⟨#[114, 100, 113, 117, 111]⟩, .int .i64 8221, .int .i64 0, .bool false, .string ⟨#[101, 117, 114, 111]⟩, .int .i64 8364, .int .i64 0, .bool false, .string ⟨#[116, 114, 97, 100, 101]⟩, .int .i64 8482, .int .i64 0, .bool false, .string ⟨#[108, 97, 114, 114]⟩, .int .i64 8592, .int .i64 0, .bool false, .string ⟨#[114, 97, 114, 114]⟩, .int .i64 8594, .int .i64 0, .bool false, .string ⟨#[84, 97, 98]⟩, .int .i64 9, .int .i64 0, .bool false, .string ⟨#[78, 101, 119, 76, 105, 110, 101]⟩, .int .i64 10, .int .i64 0, .bool false, .string ⟨#[99, 111, 108, 111, 110]⟩, .int .i64 58, .int .i64 0, .bool false, .string ⟨#[115, 111, 108]⟩, .int .i64 47, .int .i64 0, .bool false, .string ⟨#[113, 117, 101, 115, 116]⟩, .int .i64 63, .int .i64 0, .bool false, .string ⟨#[108, 112, 97, 114]⟩, .int .i64 40, .int .i64 0, .bool false, .string ⟨#[122, 119, 106]⟩, .int .i64 8205, .int .i64 0, .bool false, .string ⟨#[78, 111, 116, 69, 113, 117, 97, 108, 84, 105, 108, 100, 101]⟩, .int .i64 8770, .int .i64 824, .bool false, .string ⟨#[84, 104, 105, 99, 107, 83, 112, 97, 99, 101]⟩, .int .i64 8287, .int .i64 8202, .bool false, .string ⟨#[110, 118, 108, 116]⟩, .int .i64 60, .int .i64 8402, .bool false] 117) rfl (by kernel_rfl) ?_
  simp only [Act.put, List.setIfInBounds_toArray, List.set_cons_zero, List.set_cons_succ]
  go_wp2_with fail
  go_ret
  refine ⟨rfl, at_alloc rfl ?_, (Below.refl _ _).alloc (Nat.le_refl _) _, by simp⟩
  kernel_rfl
end Go.Proofs.YtbabcohidpcjjaaGreat

/-
  Contracts: leaf.odd, leaf.Char, colanderref09.Char: a byte's character.
-/
namespace Go.Proofs.YtbabcohidpcjjaaGreat
open Go.RowKit Mem

def odd32 : Array Value := #[.int .i32 8364, .int .i32 129, .int .i32 8218, .int .i32 402, .int .i32 8222, .int .i32 8230, .int .i32 8224, .int .i32 8225, .int .i32 710, .int .i32 8240, .int .i32 352, .int .i32 8249, .int .i32 338, .int .i32 141, .int .i32 381, .int .i32 143, .int .i32 144, .int .i32 8216, .int .i32 8217, .int .i32 8220, .int .i32 8221, .int .i32 8226, .int .i32 8211, .int .i32 8212, .int .i32 732, .int .i32 8482, .int .i32 353, .int .i32 8250, .int .i32 339, .int .i32 157, .int .i32 382, .int .i32 376]
def odd64 : Array Value := #[.int .i64 8364, .int .i64 129, .int .i64 8218, .int .i64 402, .int .i64 8222, .int .i64 8230, .int .i64 8224, .int .i64 8225, .int .i64 710, .int .i64 8240, .int .i64 352, .int .i64 8249, .int .i64 338, .int .i64 141, .int .i64 381, .int .i64 143, .int .i64 144, .int .i64 8216, .int .i64 8217, .int .i64 8220, .int .i64 8221, .int .i64 8226, .int .i64 8211, .int .i64 8212, .int .i64 732, .int .i64 8482, .int .i64 353, .int .i64 8250, .int .i64 339, .int .i64 157, .int .i64 382, .int .i64 376]
theorem odd64_get (j : Nat) (h : j < 32) : odd64.toList[j]? = some (.int .i64 (oddT.getD j 0)) := by
  have h1 : odd64.toList = oddT.map fun n => Value.int .i64 (n : Nat) := by kernel_rfl
  have h2 : j < oddT.length := h
  rw [h1]
  simp [h2]
theorem wpList_val_at {P : Program} {ops : Array Oper} {rest : List Oper} {o : Oper} {a : Act} {w : World} {Q : Exit → Act → World → Prop} (d : Nat) (v : Value) (hd : o.dst = some d) (hgd : o.guard = none) (h : (execOp a.eval o).run P w = .ok (.value v) w)
    (hk : wpList P ops Q rest (a.put (some d) v) w) : wpList P ops Q (o :: rest) a w := wpList_val (v := v) hgd h (by rw [hd]; exact hk)
theorem wpList_new_at {P : Program} {ops : Array Oper} {rest : List Oper} {o : Oper} {a : Act} {w : World} {Q : Exit → Act → World → Prop} (d : Nat) (v : Value) (c : Obj) (hd : o.dst = some d) (hgd : o.guard = none) (h : (execOp a.eval o).run P w = .ok (.value v) (w.alloc c))
    (hk : wpList P ops Q rest (a.put (some d) v) (w.alloc c)) : wpList P ops Q (o :: rest) a w := wpList_new (v := v) (c := c) hgd h (by rw [hd]; exact hk)
/-- a byte's character -/
def char9 (n : Nat) : Nat := if 128 ≤ n ∧ n < 160 then oddT.getD (n - 128) 0 else n
theorem odd_index : ∀ j : Nat, j < 32 → ∀ w, (Instr.index 149 (.agg odd32) (.int .u8 (j : Nat))).run Tryz.prog w = .ok (.int .i32 (oddT.getD j 0 : Nat)) w
  | 0, _ => fun _ => by kernel_rfl
  | 1, _ => fun _ => by kernel_rfl
  | 2, _ => fun _ => by kernel_rfl
  | 3, _ => fun _ => by kernel_rfl
  | 4, _ => fun _ => by kernel_rfl
  | 5, _ => fun _ => by kernel_rfl
  | 6, _ => fun _ => by kernel_rfl
  | 7, _ => fun _ => by kernel_rfl
  | 8, _ => fun _ => by kernel_rfl
  | 9, _ => fun _ => by kernel_rfl
  | 10, _ => fun _ => by kernel_rfl
  | 11, _ => fun _ => by kernel_rfl
  | 12, _ => fun _ => by kernel_rfl
  | 13, _ => fun _ => by kernel_rfl
  | 14, _ => fun _ => by kernel_rfl
  | 15, _ => fun _ => by kernel_rfl
  | 16, _ => fun _ => by kernel_rfl
  | 17, _ => fun _ => by kernel_rfl
  | 18, _ => fun _ => by kernel_rfl
  | 19, _ => fun _ => by kernel_rfl
  | 20, _ => fun _ => by kernel_rfl
  | 21, _ => fun _ => by kernel_rfl
  | 22, _ => fun _ => by kernel_rfl
  | 23, _ => fun _ => by kernel_rfl
  | 24, _ => fun _ => by kernel_rfl
  | 25, _ => fun _ => by kernel_rfl
  | 26, _ => fun _ => by kernel_rfl
  | 27, _ => fun _ => by kernel_rfl
  | 28, _ => fun _ => by kernel_rfl
  | 29, _ => fun _ => by kernel_rfl
  | 30, _ => fun _ => by kernel_rfl
  | 31, _ => fun _ => by kernel_rfl
  | n + 32, h => absurd h (by omega)
theorem odd_info : (Tryz.prog.info? 149).map (·.size) = some odd32.size := by kernel_rfl
set_option maxRecDepth 100000 in
theorem odd_any (w : World) : Calls Tryz.prog 113 #[] w fun e w' => e = .returned (.agg odd32) ∧ Below w.heap.size w w' := by
  go_enter Tryz.func113, Tryz.ntmps113
  go_wp2_with ((with_reducible refine wpList_val_at 1 (.agg odd32) rfl rfl (by kernel_rfl) ?_); go_must (refine wpList_store_row rfl 149 _ _ rfl w.heap.size odd32 (by rfl) (by rfl) 149 _ (heap_alloc_last w _) odd_info rfl (by kernel_rfl) ?_); rw [World.setRow_alloc_new]; simp only [Act.put, List.setIfInBounds_toArray, List.set_cons_zero, List.set_cons_succ])
  exact bodyPost_ret (v := .agg odd32) (results_cell_row rfl _ _ w.heap.size 149 odd32 (0, 0) _ rfl (heap_alloc_last w _) Tryz.underlying149 rfl odd_info) rfl ⟨rfl, (Below.refl _ _).alloc (Nat.le_refl _) _⟩

set_option maxRecDepth 100000 in
theorem Char09_any (n : Nat) (hn : n < 256) (w : World) : Calls Tryz.prog 72 #[.int .u8 n] w fun e w' => e = .returned (.int .i64 (char9 n)) ∧ Below w.heap.size w w' := by
  have HB := Lib.hid ((Below.refl _ w).alloc (Nat.le_refl _) (.cells odd64 3))
  by_cases h1 : n < 128
  · have h1' : (n : Int) < 128 := by omega
    go_enter Tryz.func72, Tryz.ntmps72
    go_wp2_with ((with_reducible refine wpList_new_at 4 (.slice (some ⟨w.heap.size, 0, none⟩) 32 32) (.cells odd64 3) rfl rfl (by kernel_rfl) ?_); simp only [Act.put, List.setIfInBounds_toArray, List.set_cons_zero, List.set_cons_succ])
    go_ret
    exact ⟨ret_int (by rw [char9, if_neg (by omega)]), HB.out⟩
  · by_cases h2 : n < 160
    · have h1' : ¬ (n : Int) < 128 := by omega
      have h2' : ¬ (n : Int) > 159 := by omega
      obtain ⟨j, rfl⟩ : ∃ j, n = 128 + j := ⟨n - 128, by omega⟩
      have hj : j < 32 := by omega
      have hat := at_alloc (w := w) (cur := odd64) (e := 3) rfl rfl
      have hc := hat.get (odd64_get j hj)
      rw [Nat.zero_add] at hc
      have hsub : IntKind.u8.wrap (((128 + j : Nat) : Int) - 128) = (j : Int) := by rw [IntWalk.u8_in _ (by omega)]; omega
      clear hat
      go_enter Tryz.func72, Tryz.ntmps72
      go_wp2_with ((with_reducible refine wpList_new_at 4 (.slice (some ⟨w.heap.size, 0, none⟩) 32 32) (.cells odd64 3) rfl rfl (by kernel_rfl) ?_); simp only [Act.put, List.setIfInBounds_toArray, List.set_cons_zero, List.set_cons_succ])
      go_ret
      exact ⟨ret_int (by rw [char9, if_pos (by omega), Nat.add_sub_cancel_left]; rfl), HB.out⟩
    · have h1' : ¬ (n : Int) < 128 := by omega
      have h2' : (n : Int) > 159 := by omega
      go_enter Tryz.func72, Tryz.ntmps72
      go_wp2_with ((with_reducible refine wpList_new_at 4 (.slice (some ⟨w.heap.size, 0, none⟩) 32 32) (.cells odd64 3) rfl rfl (by kernel_rfl) ?_); simp only [Act.put, List.setIfInBounds_toArray, List.set_cons_zero, List.set_cons_succ])
      go_ret
      exact ⟨ret_int (by rw [char9, if_neg (by omega)]), HB.out⟩
set_option maxRecDepth 100000 in
theorem LChar_any (n : Nat) (hn : n < 256) (w : World) : Calls Tryz.prog 103 #[.int .u8 n] w fun e w' => e = .returned (.int .i32 (char9 n)) ∧ Below w.heap.size w w' := by
  by_cases h1 : 128 ≤ n
  · by_cases h2 : n < 160
    · have h1' : (n : Int) ≥ 128 := by omega
      have h2' : (n : Int) < 160 := by omega
      obtain ⟨j, rfl⟩ : ∃ j, n = 128 + j := ⟨n - 128, by omega⟩
      have hj : j < 32 := by omega
      have hsub : IntKind.u8.wrap (((128 + j : Nat) : Int) - 128) = (j : Int) := by rw [IntWalk.u8_in _ (by omega)]; omega
      have hix : ∀ w, (Instr.index 149 (.agg odd32) (.int .u8 (128 + (j : Int) - 128))).run Tryz.prog w = .ok (.int .i32 (oddT.getD j 0 : Nat)) w := by
        rw [show (128 + (j : Int) - 128) = j from by omega]
        exact odd_index j hj
      go_enter Tryz.func103, Tryz.ntmps103
      go_wp2_with (go_at_call 113; go_must (refine (odd_any _).mono ?_; rintro e w1 ⟨rfl, hb⟩; have HB := Lib.hid hb; clear hb; generalize odd32 = oc at *))
      go_ret
      exact ⟨ret_int (by rw [char9, if_pos (by omega), Nat.add_sub_cancel_left]; rfl), HB.out⟩
    · have h1' : (n : Int) ≥ 128 := by omega
      have h2' : ¬ (n : Int) < 160 := by omega
      go_enter Tryz.func103, Tryz.ntmps103
      go_wp2_with fail
      go_ret
      exact ⟨ret_int (by rw [char9, if_neg (by omega)]), Below.refl _ _⟩
  · have h1' : ¬ (n : Int) ≥ 128 := by omega
    go_enter Tryz.func103, Tryz.ntmps103
    go_wp2_with fail
    go_ret
    exact ⟨ret_int (by rw [char9, if_neg (by omega)]), Below.refl _ _⟩
end Go.Proofs.YtbabcohidpcjjaaGreat

/-
  Contract: colanderref12.Find: the same name is found; new blocks alone.
-/
namespace Go.Proofs.YtbabcohidpcjjaaGreat
open Go.RowKit Mem

theorem info_u8 : (Tryz.prog.info? 5).map (fun i => (i.zero, i.size, i.bytes)) = some (some (.int .u8 0), 1, 1) := by kernel_rfl
theorem rowsV_length : ∀ l : List (Str × Nat × Nat × Bool), (rowsV l).length = l.length * 4
  | [] => rfl
  | x :: r => by rw [rowsV]; simp only [List.length_cons, rowsV_length r]; omega
theorem rowsV_get : ∀ (l : List (Str × Nat × Nat × Bool)) (k : Nat) (h : k < l.length), (rowsV l)[k * 4]? = some (.string (strB l[k].1)) ∧ (rowsV l)[k * 4 + 1]? = some (.int .i64 l[k].2.1) ∧ (rowsV l)[k * 4 + 2]? = some (.int .i64 l[k].2.2.1) ∧ (rowsV l)[k * 4 + 3]? = some (.bool l[k].2.2.2)
  | [], _, h => by simp at h
  | x :: r, 0, _ => ⟨rfl, rfl, rfl, rfl⟩
  | x :: r, k + 1, h => by
    obtain ⟨h0, h1, h2, h3⟩ := rowsV_get r k (by simpa using h)
    refine ⟨?_, ?_, ?_, ?_⟩
    · rw [show (k + 1) * 4 = k * 4 + 1 + 1 + 1 + 1 from by omega]; simpa [rowsV] using h0
    · rw [show (k + 1) * 4 + 1 = k * 4 + 1 + 1 + 1 + 1 + 1 from by omega]; simpa [rowsV] using h1
    · rw [show (k + 1) * 4 + 2 = k * 4 + 2 + 1 + 1 + 1 + 1 from by omega]; simpa [rowsV] using h2
    · rw [show (k + 1) * 4 + 3 = k * 4 + 3 + 1 + 1 + 1 + 1 from by omega]; simpa [rowsV] using h3
theorem names_small : ∀ x ∈ namesT, x.1.length ≤ 13 ∧ x.2.1 ≤ 1114111 ∧ x.2.2.1 ≤ 1114111 := by decide +kernel
theorem refGo_step (s : Str) (k : Nat) (h : k < namesT.length) (acc : Str × Nat) : refGo s (namesT.drop k) acc = refGo s (namesT.drop (k + 1)) (refStep s namesT[k] acc) := by
  rw [List.drop_eq_getElem_cons h, refGo]
theorem encF_len (c : Nat) : 1 ≤ (encF c).length ∧ (encF c).length ≤ 4 := by
  unfold encF
  split
  · simp
  · split
    · simp
    · split <;> simp
theorem toList_append (a b : ByteArray) : (a ++ b).toList = a.toList ++ b.toList := by
  rw [ByteArray.toList_eq, ByteArray.toList_eq, ByteArray.toList_eq]; simp
theorem Bytes_at (c : Nat) (hc : c ≤ 1114111) (w : World) : Calls Tryz.prog 73 #[.int .i64 c] w fun e w' =>
    ∃ g cap n, e = .returned (.slice (some ⟨g, 0, none⟩) n cap) ∧ w'.ownsRow w.heap.size 5 1 (.slice (some ⟨g, 0, none⟩) n cap) n (bytesV (encF c)) ∧ n = (encF c).length ∧ n ≤ 4 ∧ Below w.heap.size w w' :=
  (Bytes_any c hc w).mono fun _ _ ⟨g, cap, h1, h2, h3⟩ => ⟨g, cap, _, h1, h2, rfl, (encF_len c).2, h3⟩
theorem refStep_no {s : Str} {x : Str × Nat × Nat × Bool} {acc : Str × Nat} (h1 : (x.1 ++ [59]).isPrefixOf s = false) (h2 : (x.2.2.2 && x.1.isPrefixOf s) = false) : refStep s x acc = acc := by
  unfold refStep
  simp [h1, h2]
theorem refStep_semi {s : Str} {x : Str × Nat × Nat × Bool} {acc : Str × Nat} (h1 : (x.1 ++ [59]).isPrefixOf s = true) : refStep s x acc = if acc.2 < x.1.length + 1 then (chars x.2.1 x.2.2.1, x.1.length + 1) else acc := by
  unfold refStep
  simp only [h1, if_true]
theorem refStep_bare {s : Str} {x : Str × Nat × Nat × Bool} {acc : Str × Nat} (h1 : (x.1 ++ [59]).isPrefixOf s = false) (h2 : (x.2.2.2 && x.1.isPrefixOf s) = true) : refStep s x acc = if acc.2 < x.1.length then (chars x.2.1 x.2.2.1, x.1.length) else acc := by
  unfold refStep
  simp only [h1, h2, if_true, Bool.false_eq_true, if_false]

theorem bytesV_one' (l : Str) : ∀ u ∈ bytesV l, u.oneCell' = true := by
  intro u h
  obtain ⟨n, _, rfl⟩ := List.mem_map.1 h
  rfl
theorem bytesV_app (l r : Str) : bytesV (l ++ r) = bytesV l ++ bytesV r := by simp [bytesV]
theorem chars_one (a : Nat) : chars a 0 = encF a := by simp [chars]
theorem chars_two {a b : Nat} (h : 0 < b) : chars a b = encF a ++ encF b := by rw [chars, if_pos h]
set_option maxRecDepth 100000 in
set_option maxHeartbeats 4000000 in
theorem Find12_any (s : ByteArray) (w : World) : Calls Tryz.prog 59 #[.string s] w fun e w' => e = .returned (.tuple #[.string (strB (findF s.toList).1), .int .i64 (findF s.toList).2]) ∧ Below w.heap.size w w' := by
  have HP := Lib.hid (refGo_findF s.toList)
  have HN := Lib.hid (Names_any w)
  have hlen : namesT.length = 44 := rfl
  have HL := Lib.hid hlen
  clear hlen
  obtain ⟨i0, hi, hz0, hz1, hz2⟩ := info_parts info_u8
  go_enter Tryz.func59, Tryz.ntmps59
  go_wp2_with (go_at_call 74; go_must (refine HN.out.mono ?_; rintro e w1 ⟨rfl, ha, hb, hz⟩; have HA := Lib.hid ha; have HB := Lib.hid hb; have HZ := Lib.hid hz; clear ha hb hz))
  go_loopw [4, 5, 7] (fun o n i wr => ∃ (k m : Nat) (t : ByteArray), k ≤ 44 ∧ i = .int .i64 k ∧ o = .string t ∧ n = .int .i64 m ∧ m ≤ 14 ∧ findF s.toList = refGo s.toList (namesT.drop k) (t.toList, m) ∧ Below w.heap.size w wr ∧ At wr (some ⟨w.heap.size, 0, none⟩) (rowsV namesT)) (fun _ _ i _ => 44 - (intOf i).toNat)
  case atStart => exact ⟨0, 0, ⟨#[]⟩, by omega, rfl, rfl, rfl, by omega, by rw [List.drop_zero, show (⟨#[]⟩ : ByteArray).toList = [] from by rw [ByteArray.toList_eq], HP.out], HB.out, HA.out⟩
  case round =>
    obtain ⟨k, m, t, hk, rfl, rfl, rfl, hm, hv, hb, ha⟩ := hrel
    have HV := Lib.hid hv
    have HB2 := Lib.hid hb
    have HA2 := Lib.hid ha
    clear hv hb
    by_cases hlt : k < 44
    · have hlt' : k < namesT.length := by rw [HL.out]; exact hlt
      obtain ⟨r0, r1, r2, r3⟩ := rowsV_get namesT k hlt'
      have c0 := ha.get r0
      have c1 := ha.get r1
      have c2 := ha.get r2
      have c3 := ha.get r3
      rw [Nat.zero_add] at c0 c1 c2 c3
      have hst := refGo_step s.toList k hlt' (t.toList, m)
      obtain ⟨hx1, hx2, hx3⟩ := names_small namesT[k] (List.getElem_mem hlt')
      have hbk := lt_of_cell c0
      obtain ⟨x, hx⟩ : ∃ x, x = namesT[k] := ⟨_, rfl⟩
      rw [← hx] at c0 c1 c2 c3 hx1 hx2 hx3 hst
      obtain ⟨nl, A, B, bare⟩ := x
      simp only at c0 c1 c2 c3 hx1 hx2 hx3
      obtain ⟨nm, hnm⟩ : ∃ nm, nm = strB nl := ⟨_, rfl⟩
      have hns : nm.size = nl.length := by rw [hnm, ← size_toList, toList_strB]
      have hns2 : nm.size ≤ 13 := by omega
      have hB1 : (nm ++ ⟨#[59]⟩).toList.isPrefixOf s.toList = (nl ++ [59]).isPrefixOf s.toList := by rw [toList_append, hnm, toList_strB, ByteArray.toList_eq]
      have hB2 : nm.toList.isPrefixOf s.toList = nl.isPrefixOf s.toList := by rw [hnm, toList_strB]
      have hb1 := fun u => begins12_any s (nm ++ ⟨#[59]⟩) u
      have hb2 := fun u => begins12_any s nm u
      rw [hB1] at hb1
      rw [hB2] at hb2
      rw [← hnm] at c0
      have HST := Lib.hid hst
      have HNS := Lib.hid hns
      have hp := Nat.lt_of_lt_of_le (Nat.zero_lt_of_lt hbk) (Nat.le_refl _)
      clear ha r0 r1 r2 r3 hst hx hnm hB1 hB2 hns hp
      cases e1 : (nl ++ [59]).isPrefixOf s.toList
      · rw [e1] at hb1
        have HB1 := Lib.hid hb1
        clear hb1
        cases bare
        · have HB2' := HB1
          clear hb2
          have HST3 := Lib.hid (HST.out.trans (congrArg (refGo s.toList (namesT.drop (k + 1))) (refStep_no (x := (nl, A, B, false)) e1 rfl)))
          have hm0 : ¬ (0 : Int) > (m : Int) := by omega
          clear HST
          go_wp2_with (first
            | (go_at_call 56; go_must (first | (with_reducible refine (HB1.out _).mono ?_) | (with_reducible refine (HB2'.out _).mono ?_)); rintro e w5 ⟨rfl, rfl⟩))
          have HNEW := Lib.hid ((Below.refl wr.heap.size wr).alloc (Nat.le_refl _) (.cells #[.string nm, .int .i64 A, .int .i64 B, .bool false] 117))
          go_roundw
          case rel => exact ⟨k + 1, m, t, by omega, by go_num, rfl, rfl, by omega, by rw [HV.out, HST3.out], belowCall HB2.out HNEW.out, HA2.out.below HNEW.out⟩
          case measure => simp [intOf]; omega
        · cases e2 : nl.isPrefixOf s.toList
          · rw [e2] at hb2
            have HB2' := Lib.hid hb2
            clear hb2
            have HST3 := Lib.hid (HST.out.trans (congrArg (refGo s.toList (namesT.drop (k + 1))) (refStep_no (x := (nl, A, B, true)) e1 (by simpa using e2))))
            have hm0 : ¬ (0 : Int) > (m : Int) := by omega
            clear HST
            go_wp2_with (first
              | (go_at_call 56; go_must (first | (with_reducible refine (HB1.out _).mono ?_) | (with_reducible refine (HB2'.out _).mono ?_)); rintro e w5 ⟨rfl, rfl⟩))
            have HNEW := Lib.hid ((Below.refl wr.heap.size wr).alloc (Nat.le_refl _) (.cells #[.string nm, .int .i64 A, .int .i64 B, .bool true] 117))
            go_roundw
            case rel => exact ⟨k + 1, m, t, by omega, by go_num, rfl, rfl, by omega, by rw [HV.out, HST3.out], belowCall HB2.out HNEW.out, HA2.out.below HNEW.out⟩
            case measure => simp [intOf]; omega
          · rw [e2] at hb2
            have HB2' := Lib.hid hb2
            obtain ⟨bare, hbare⟩ : ∃ b, b = true := ⟨_, rfl⟩
            have HST2 := Lib.hid (HST.out.trans (congrArg (refGo s.toList (namesT.drop (k + 1))) (refStep_bare (x := (nl, A, B, true)) e1 (by simpa using e2))))
            clear hb2 e1 e2 hbare bare
            by_cases hmk : m < nl.length
            · have HST3 := Lib.hid (HST2.out.trans (congrArg (refGo s.toList (namesT.drop (k + 1))) (if_pos hmk)))
              have hmk' : (m : Int) < (nm.size : Int) := by have := HNS.out; omega
              clear HST2 HST
              go_wp2_with (first
                | (go_at_call 56; go_must (first | (with_reducible refine (HB1.out _).mono ?_) | (with_reducible refine (HB2'.out _).mono ?_)); rintro e w5 ⟨rfl, rfl⟩))
              have hnew := (Below.refl wr.heap.size wr).alloc (Nat.le_refl _) (.cells #[.string nm, .int .i64 A, .int .i64 B, .bool true] 117)

              have d2 : (wr.alloc (.cells #[.string nm, .int .i64 A, .int .i64 B, .bool true] 117)).cell? ⟨wr.heap.size, 2, none⟩ = some (.int .i64 B) := by simp
              have hzz : wr.heap.size < (wr.alloc (.cells #[.string nm, .int .i64 A, .int .i64 B, .bool true] 117)).heap.size := by simp

              generalize wr.alloc (.cells #[.string nm, .int .i64 A, .int .i64 B, .bool true] 117) = wa at *
              refine (Bytes_at A hx2 wa).mono ?_
              rintro e w5 ⟨g, cap, n, rfl, hown, hnl, hn4, hb5⟩
              have e2 := cell_later hb5 d2
              have hba := Below.trans hnew (hb5.mono (Nat.le_of_lt hzz))
              have HOWN := Lib.hid hown
              have HNL := Lib.hid hnl
              have HBA := Lib.hid hba
              have hgb : wa.heap.size ≤ g ∧ g < w5.heap.size := hown.lt g rfl
              have hs5 := hb5.size
              clear hown hnl hb5 hba hnew d2
              by_cases hB : 0 < B
              · have hB' : (0 : Int) < (B : Int) := by omega
                go_wp2_with (go_at_call 73; fail)
                refine (Bytes_at B hx3 w5).mono ?_
                rintro e w6 ⟨g2, cap2, n2, rfl, hown2, hnl2, hn42, hb6⟩
                have HO6 := Lib.hid (own_below HOWN.out hb6)
                obtain ⟨_, _, hv2, hc2, _, hnil2, hat2⟩ := own_at hown2
                simp only [Value.slice.injEq] at hv2
                obtain ⟨rfl, _, rfl⟩ := hv2
                have HAT2 := Lib.hid hat2
                have hl2 : (bytesV (encF B)).length = n2 * 1 := by rw [bytesV_length, hnl2, Nat.mul_one]
                have HL2 := Lib.hid hl2
                have HNL2 := Lib.hid hnl2
                have HB6 := Lib.hid (HBA.out.trans (hb6.mono (by omega)))
                have hs6 := hb6.size
                clear hown2 hnl2 hat2 hl2 hb6 hnil2
                go_wp2_with (at_builtin; go_must (refine wpList_append_slice _ rfl _ _ 74 rfl wa.heap.size 5 i0 _ 1 1 Tryz.underlying74 hi hz0 hz1 hz2 rfl (by decide) (.slice (some ⟨g, 0, none⟩) n cap) n (bytesV (encF A)) rfl HO6.out (some ⟨g2, 0, none⟩) n2 cap2 (bytesV (encF B)) rfl HL2.out (fun h => by cases h) HAT2.out (bytesV_one' _) (by unfold maxLen; omega) (by omega) (by omega) ?_; intro v3 w7 hown3 hgr3; obtain ⟨g3, cap3, rfl, hg3, _, _⟩ := own_some hown3 (by have := HNL.out; have := (encF_len A).1; omega); have hback := run_string_of (P := Tryz.prog) w7 74 9 5 g3 cap3 (encF A ++ encF B) (n + n2) (by rw [List.length_append, HNL.out, HNL2.out]) Tryz.underlying74 Tryz.underlying5 Tryz.underlying9 (by rw [bytesV_app]; exact own_row hown3); have HB7 := Lib.hid (HB6.out.grown hgr3 (by omega) (fun k hk => by simp only [Value.ownBlock, Option.some.injEq] at hk; omega)); clear hown3 hgr3))
                go_roundw
                case rel => exact ⟨k + 1, nl.length, ⟨(encF A ++ encF B).toArray⟩, by omega, by go_num, rfl, (by rw [← HNS.out]), by omega, by rw [HV.out, HST3.out, show (⟨(encF A ++ encF B).toArray⟩ : ByteArray).toList = chars A B from (toList_strB _).trans (chars_two hB).symm], belowCall HB2.out HB7.out, HA2.out.below HB7.out⟩
                case measure => simp [intOf]; omega
              · obtain rfl : B = 0 := by omega
                have hback := run_string_of (P := Tryz.prog) w5 74 9 5 g cap (encF A) n HNL.out Tryz.underlying74 Tryz.underlying5 Tryz.underlying9 (own_row HOWN.out)
                go_wp2_with fail
                go_roundw
                case rel => exact ⟨k + 1, nl.length, ⟨(encF A).toArray⟩, by omega, by go_num, rfl, (by rw [← HNS.out]), by omega, by rw [HV.out, HST3.out, show (⟨(encF A).toArray⟩ : ByteArray).toList = chars A 0 from (toList_strB _).trans (chars_one A).symm], belowCall HB2.out HBA.out, HA2.out.below HBA.out⟩
                case measure => simp [intOf]; omega
            · have HST3 := Lib.hid (HST2.out.trans (congrArg (refGo s.toList (namesT.drop (k + 1))) (if_neg hmk)))
              have hmk' : (nm.size : Int) ≤ (m : Int) := by have := HNS.out; omega
              clear HST2 HST
              go_wp2_with (first
                | (go_at_call 56; go_must (first | (with_reducible refine (HB1.out _).mono ?_) | (with_reducible refine (HB2'.out _).mono ?_)); rintro e w5 ⟨rfl, rfl⟩))
              have HNEW := Lib.hid ((Below.refl wr.heap.size wr).alloc (Nat.le_refl _) (.cells #[.string nm, .int .i64 A, .int .i64 B, .bool true] 117))
              go_roundw
              case rel => exact ⟨k + 1, m, t, by omega, by go_num, rfl, rfl, by omega, by rw [HV.out, HST3.out], belowCall HB2.out HNEW.out, HA2.out.below HNEW.out⟩
              case measure => simp [intOf]; omega
      · rw [e1] at hb1
        have HB1 := Lib.hid hb1
        have HST2 := Lib.hid (HST.out.trans (congrArg (refGo s.toList (namesT.drop (k + 1))) (refStep_semi (x := (nl, A, B, bare)) e1)))
        clear hb1 hb2 e1
        by_cases hmk : m < nl.length + 1
        · have HST3 := Lib.hid (HST2.out.trans (congrArg (refGo s.toList (namesT.drop (k + 1))) (if_pos hmk)))
          have hmk' : (m : Int) < (nm.size : Int) + 1 := by have := HNS.out; omega
          clear HST2 HST
          go_wp2_with (first
            | (go_at_call 56; go_must (refine (HB1.out _).mono ?_; rintro e w5 ⟨rfl, rfl⟩)))
          have hnew := (Below.refl wr.heap.size wr).alloc (Nat.le_refl _) (.cells #[.string nm, .int .i64 A, .int .i64 B, .bool bare] 117)

          have d2 : (wr.alloc (.cells #[.string nm, .int .i64 A, .int .i64 B, .bool bare] 117)).cell? ⟨wr.heap.size, 2, none⟩ = some (.int .i64 B) := by simp
          have hzz : wr.heap.size < (wr.alloc (.cells #[.string nm, .int .i64 A, .int .i64 B, .bool bare] 117)).heap.size := by simp

          generalize wr.alloc (.cells #[.string nm, .int .i64 A, .int .i64 B, .bool bare] 117) = wa at *
          refine (Bytes_at A hx2 wa).mono ?_
          rintro e w5 ⟨g, cap, n, rfl, hown, hnl, hn4, hb5⟩
          have e2 := cell_later hb5 d2
          have hba := Below.trans hnew (hb5.mono (Nat.le_of_lt hzz))
          have HOWN := Lib.hid hown
          have HNL := Lib.hid hnl
          have HBA := Lib.hid hba
          have hgb : wa.heap.size ≤ g ∧ g < w5.heap.size := hown.lt g rfl
          have hs5 := hb5.size
          clear hown hnl hb5 hba hnew d2
          by_cases hB : 0 < B
          · have hB' : (0 : Int) < (B : Int) := by omega
            go_wp2_with (go_at_call 73; fail)
            refine (Bytes_at B hx3 w5).mono ?_
            rintro e w6 ⟨g2, cap2, n2, rfl, hown2, hnl2, hn42, hb6⟩
            have HO6 := Lib.hid (own_below HOWN.out hb6)
            obtain ⟨_, _, hv2, hc2, _, hnil2, hat2⟩ := own_at hown2
            simp only [Value.slice.injEq] at hv2
            obtain ⟨rfl, _, rfl⟩ := hv2
            have HAT2 := Lib.hid hat2
            have hl2 : (bytesV (encF B)).length = n2 * 1 := by rw [bytesV_length, hnl2, Nat.mul_one]
            have HL2 := Lib.hid hl2
            have HNL2 := Lib.hid hnl2
            have HB6 := Lib.hid (HBA.out.trans (hb6.mono (by omega)))
            have hs6 := hb6.size
            clear hown2 hnl2 hat2 hl2 hb6 hnil2
            go_wp2_with (at_builtin; go_must (refine wpList_append_slice _ rfl _ _ 74 rfl wa.heap.size 5 i0 _ 1 1 Tryz.underlying74 hi hz0 hz1 hz2 rfl (by decide) (.slice (some ⟨g, 0, none⟩) n cap) n (bytesV (encF A)) rfl HO6.out (some ⟨g2, 0, none⟩) n2 cap2 (bytesV (encF B)) rfl HL2.out (fun h => by cases h) HAT2.out (bytesV_one' _) (by unfold maxLen; omega) (by omega) (by omega) ?_; intro v3 w7 hown3 hgr3; obtain ⟨g3, cap3, rfl, hg3, _, _⟩ := own_some hown3 (by have := HNL.out; have := (encF_len A).1; omega); have hback := run_string_of (P := Tryz.prog) w7 74 9 5 g3 cap3 (encF A ++ encF B) (n + n2) (by rw [List.length_append, HNL.out, HNL2.out]) Tryz.underlying74 Tryz.underlying5 Tryz.underlying9 (by rw [bytesV_app]; exact own_row hown3); have HB7 := Lib.hid (HB6.out.grown hgr3 (by omega) (fun k hk => by simp only [Value.ownBlock, Option.some.injEq] at hk; omega)); clear hown3 hgr3))
            go_roundw
            case rel => exact ⟨k + 1, nl.length + 1, ⟨(encF A ++ encF B).toArray⟩, by omega, by go_num, rfl, (by rw [← HNS.out]; go_num), by omega, by rw [HV.out, HST3.out, show (⟨(encF A ++ encF B).toArray⟩ : ByteArray).toList = chars A B from (toList_strB _).trans (chars_two hB).symm], belowCall HB2.out HB7.out, HA2.out.below HB7.out⟩
            case measure => simp [intOf]; omega
          · obtain rfl : B = 0 := by omega
            have hback := run_string_of (P := Tryz.prog) w5 74 9 5 g cap (encF A) n HNL.out Tryz.underlying74 Tryz.underlying5 Tryz.underlying9 (own_row HOWN.out)
            go_wp2_with fail
            go_roundw
            case rel => exact ⟨k + 1, nl.length + 1, ⟨(encF A).toArray⟩, by omega, by go_num, rfl, (by rw [← HNS.out]; go_num), by omega, by rw [HV.out, HST3.out, show (⟨(encF A).toArray⟩ : ByteArray).toList = chars A 0 from (toList_strB _).trans (chars_one A).symm], belowCall HB2.out HBA.out, HA2.out.below HBA.out⟩
            case measure => simp [intOf]; omega
        · have HST3 := Lib.hid (HST2.out.trans (congrArg (refGo s.toList (namesT.drop (k + 1))) (if_neg hmk)))
          have hmk' : (nm.size : Int) + 1 ≤ (m : Int) := by have := HNS.out; omega
          clear HST2 HST
          go_wp2_with (first
            | (go_at_call 56; go_must (refine (HB1.out _).mono ?_; rintro e w5 ⟨rfl, rfl⟩)))
          have HNEW := Lib.hid ((Below.refl wr.heap.size wr).alloc (Nat.le_refl _) (.cells #[.string nm, .int .i64 A, .int .i64 B, .bool bare] 117))
          go_roundw
          case rel => exact ⟨k + 1, m, t, by omega, by go_num, rfl, rfl, by omega, by rw [HV.out, HST3.out], belowCall HB2.out HNEW.out, HA2.out.below HNEW.out⟩
          case measure => simp [intOf]; omega
    · clear ha
      go_wp2_with fail
      go_ret2
      obtain rfl : k = 44 := by omega
      have he : findF s.toList = (t.toList, m) := by rw [HV.out, show namesT.drop 44 = [] from List.drop_of_length_le (by rw [HL.out]; omega)]; rfl
      exact ⟨ret2_str (by rw [he]; exact (strB_mem t).symm) (by rw [he]), HB2.out⟩
end Go.Proofs.YtbabcohidpcjjaaGreat

/-
  Contracts: refs.Number, colanderref12.Number: the character of a number.
-/
namespace Go.Proofs.YtbabcohidpcjjaaGreat
open Go.RowKit Mem

theorem odd_char : ∀ j : Nat, j < 32 → charB (oddT.getD j 0 : Nat) = true ∧ oddT.getD j 0 ≤ 1114111 := by
  have h : ((List.range 32).all fun j => charB (oddT.getD j 0 : Nat) && decide (oddT.getD j 0 ≤ 1114111)) = true := by decide +kernel
  intro j hj
  have := List.all_eq_true.1 h j (List.mem_range.2 hj)
  simpa using this
theorem numF_bad {n : Int} (h : n = 0 ∨ charB n = false) : numF n = encF 0xfffd := by unfold numF numC; rw [if_pos h]
theorem numC_good {n : Int} (hn : n ≠ 0) (hc : charB n = true) : numC n = if 0x80 ≤ n ∧ n < 0xa0 then oddT.getD (n.toNat - 0x80) 0 else n.toNat := by
  unfold numC
  rw [if_neg]
  rintro (h | h)
  · exact hn h
  · rw [hc] at h; cases h
theorem numF_odd {j : Nat} (hj : j < 32) : numF ((128 + j : Nat) : Int) = encF (oddT.getD j 0) := by
  have hc : charB ((128 + j : Nat) : Int) = true := (charB_iff _).2 ⟨by omega, by omega, by omega⟩
  rw [numF, numC_good (by omega) hc, if_pos (by omega), Int.toNat_natCast, Nat.add_sub_cancel_left]
theorem numF_else {n : Nat} (hn : n ≠ 0) (hc : charB n = true) (h : ¬ (128 ≤ n ∧ n < 160)) : numF n = encF n := by
  rw [numF, numC_good (by omega) hc, if_neg (by omega), Int.toNat_natCast]
theorem encR_num {n : Int} (hn : n ≠ 0) (h : ¬ (128 ≤ n ∧ n < 160)) : encR n = numF n := by
  cases hc : charB n
  · rw [numF_bad (.inr hc), encR, hc]; rfl
  · rw [encR, if_pos hc, numF, numC_good hn hc, if_neg h]
theorem flat_one (r : Int) : [r].flatMap encR = encR r := by simp
theorem ret_strB {a b : Str} (h : a = b) : Ending.returned (.string (strB a)) = .returned (.string (strB b)) := by rw [h]
theorem Enc_one (r : Int) (g : Nat) (c : Nat) (w : World) (hr : -2147483648 ≤ r ∧ r ≤ 2147483647) (ha : At w (some ⟨g, 0, none⟩) [.int .i32 r]) :
    Calls Tryz.prog 104 #[.slice (some ⟨g, 0, none⟩) 1 c] w fun e w' => e = .returned (.string (strB (encR r))) ∧ Below w.heap.size w w' :=
  (Encode_any [r] _ c w (by simp) (fun q hq => by rw [show q = r from by simpa using hq]; exact hr) ha).mono fun e w' ⟨h1, h2⟩ => ⟨by rw [h1, flat_one], h2⟩

set_option maxRecDepth 100000 in
set_option maxHeartbeats 1000000 in
theorem Number_any (n : Int) (w : World) (h0 : -9223372036854775808 ≤ n) (h1 : n ≤ 9223372036854775807) : Calls Tryz.prog 85 #[.int .i64 n] w fun e w' => e = .returned (.string (strB (numF n))) ∧ Below w.heap.size w w' := by
  by_cases ha : n = 0 ∨ n < 0 ∨ 1114111 < n
  · have hN : Hid (numF n = encR 65533) := by
      show _ = _
      rw [numF_bad]
      · rfl
      · rcases ha with h | h
        · exact .inl h
        · refine .inr ?_
          cases hc : charB n
          · rfl
          · obtain ⟨_, _, _⟩ := (charB_iff n).1 hc; omega
    have hat := at_alloc (w := w) (cur := #[.int .i32 65533]) (e := 21) rfl rfl
    have HE := Lib.hid (Enc_one 65533 w.heap.size 1 _ (by omega) hat)
    have HB := Lib.hid ((Below.refl _ w).alloc (Nat.le_refl _) (.cells #[.int .i32 65533] 21))
    clear hat
    rcases ha with h | h | h
    · have h' : (n == 0) = true := by simpa using h
      clear h
      go_enter Tryz.func85, Tryz.ntmps85
      go_wp2_with (go_at_call 104; go_must (refine HE.out.mono ?_; rintro e w1 ⟨rfl, hb⟩; have HB1 := Lib.hid hb; clear hb))
      go_ret
      exact ⟨ret_strB hN.out.symm, belowCall HB.out HB1.out⟩
    · have h' : (n == 0) = false := by simpa using (show n ≠ 0 from by omega)
      go_enter Tryz.func85, Tryz.ntmps85
      go_wp2_with (go_at_call 104; go_must (refine HE.out.mono ?_; rintro e w1 ⟨rfl, hb⟩; have HB1 := Lib.hid hb; clear hb))
      go_ret
      exact ⟨ret_strB hN.out.symm, belowCall HB.out HB1.out⟩
    · have h' : (n == 0) = false := by simpa using (show n ≠ 0 from by omega)
      have h2 : ¬ n < 0 := by omega
      go_enter Tryz.func85, Tryz.ntmps85
      go_wp2_with (go_at_call 104; go_must (refine HE.out.mono ?_; rintro e w1 ⟨rfl, hb⟩; have HB1 := Lib.hid hb; clear hb))
      go_ret
      exact ⟨ret_strB hN.out.symm, belowCall HB.out HB1.out⟩
  · have h' : (n == 0) = false := by simpa using (show n ≠ 0 from by omega)
    have hb1 : ¬ n < 0 := by omega
    have hb2 : ¬ n > 1114111 := by omega
    obtain ⟨k, rfl⟩ := Int.eq_ofNat_of_zero_le (by omega : 0 ≤ n)
    by_cases hk : 128 ≤ k ∧ k < 160
    · obtain ⟨hk1, hk2⟩ := hk
      obtain ⟨j, hkj⟩ : ∃ j, k = 128 + j := ⟨k - 128, by omega⟩
      have hj : j < 32 := by omega
      obtain ⟨c1, c2⟩ := odd_char j hj
      have hN : Hid (numF (k : Int) = encR (oddT.getD j 0 : Nat)) := by
        show _ = _
        rw [hkj, numF_odd hj, encR, if_pos c1]; rfl
      obtain ⟨q, hq⟩ : ∃ q, q = oddT.getD j 0 := ⟨_, rfl⟩
      have h9 : char9 k = q := by rw [char9, if_pos (by omega), hkj, Nat.add_sub_cancel_left, hq]
      rw [← hq] at hN c2
      have HL := Lib.hid (LChar_any k (by omega) w)
      rw [h9] at HL
      have HE := Lib.hid (fun u => Enc_one (q : Nat) (World.heap u).size 1 _ (by omega) (at_alloc (w := u) (cur := #[.int .i32 (q : Nat)]) (e := 21) rfl rfl))
      clear hq h9 ha c1 hkj hj
      have hge : (k : Int) ≥ 128 := by omega
      have hlt : (k : Int) < 160 := by omega
      go_enter Tryz.func85, Tryz.ntmps85
      go_wp2_with (first
        | (go_at_call 103; go_must (refine HL.out.mono ?_; rintro e w1 ⟨rfl, hb⟩; have HB0 := Lib.hid hb; clear hb))
        | (go_at_call 104; go_must (refine (HE.out _).mono ?_; rintro e w2 ⟨rfl, hb⟩; have HB1 := Lib.hid hb; clear hb)))
      go_ret
      exact ⟨ret_strB hN.out.symm, belowCall HB0.out (belowCall ((Below.refl _ _).alloc (Nat.le_refl _) _) HB1.out)⟩
    · have hN := Lib.hid (encR_num (n := (k : Int)) (by omega) (by omega))
      have HE := Lib.hid (fun u => Enc_one (k : Nat) (World.heap u).size 1 _ (by omega) (at_alloc (w := u) (cur := #[.int .i32 (k : Nat)]) (e := 21) rfl rfl))
      clear ha
      by_cases hk1 : 128 ≤ k
      · have hge : (k : Int) ≥ 128 := by omega
        have hlt : ¬ (k : Int) < 160 := by omega
        clear hk
        go_enter Tryz.func85, Tryz.ntmps85
        go_wp2_with (first
          | (go_at_call 104; go_must (refine (HE.out _).mono ?_; rintro e w2 ⟨rfl, hb⟩; have HB1 := Lib.hid hb; clear hb)))
        go_ret
        exact ⟨ret_strB hN.out, belowCall ((Below.refl _ _).alloc (Nat.le_refl _) _) HB1.out⟩
      · have hge : ¬ (k : Int) ≥ 128 := by omega
        clear hk
        go_enter Tryz.func85, Tryz.ntmps85
        go_wp2_with (first
          | (go_at_call 104; go_must (refine (HE.out _).mono ?_; rintro e w2 ⟨rfl, hb⟩; have HB1 := Lib.hid hb; clear hb)))
        go_ret
        exact ⟨ret_strB hN.out, belowCall ((Below.refl _ _).alloc (Nat.le_refl _) _) HB1.out⟩

set_option maxRecDepth 100000 in
set_option maxHeartbeats 1000000 in
theorem Number12_any (n : Int) (w : World) (h0 : -9223372036854775808 ≤ n) (h1 : n ≤ 9223372036854775807) : Calls Tryz.prog 58 #[.int .i64 n] w fun e w' => e = .returned (.string (strB (numF n))) ∧ Below w.heap.size w w' := by
  have HC := Lib.hid (Char08_any n w h0 h1)
  have HS := Lib.hid (fun (u : World) (g cap m : Nat) (q : Nat) (hm : m = (encF q).length) (hr : Row u g (bytesV (encF q))) => run_string_of (P := Tryz.prog) u 74 9 5 g cap (encF q) m hm Tryz.underlying74 Tryz.underlying5 Tryz.underlying9 hr)
  by_cases ha : n = 0 ∨ charB n = false
  · have hN := Lib.hid (numF_bad ha)
    rcases ha with h | h
    · have h' : (n == 0) = true := by simpa using h
      clear h
      go_enter Tryz.func58, Tryz.ntmps58
      go_wp2_with (first
        | (go_at_call 71; go_must (refine HC.out.mono ?_; rintro e w1 ⟨rfl, rfl⟩))
        | (go_at_call 73; go_must (refine (Bytes_at 65533 (by omega) _).mono ?_; rintro e w1 ⟨g, cap, m, rfl, ho, hm, _, hb⟩; have hst := HS.out w1 g cap m 65533 hm (own_row ho); have HB := Lib.hid hb; clear hb ho hm)))
      go_ret
      exact ⟨ret_strB hN.out.symm, HB.out⟩
    · rw [h] at HC
      by_cases hn : n = 0
      · have h' : (n == 0) = true := by simpa using hn
        clear hn
        go_enter Tryz.func58, Tryz.ntmps58
        go_wp2_with (first
          | (go_at_call 71; go_must (refine HC.out.mono ?_; rintro e w1 ⟨rfl, rfl⟩))
          | (go_at_call 73; go_must (refine (Bytes_at 65533 (by omega) _).mono ?_; rintro e w1 ⟨g, cap, m, rfl, ho, hm, _, hb⟩; have hst := HS.out w1 g cap m 65533 hm (own_row ho); have HB := Lib.hid hb; clear hb ho hm)))
        go_ret
        exact ⟨ret_strB hN.out.symm, HB.out⟩
      · have h' : (n == 0) = false := by simpa using hn
        clear hn
        go_enter Tryz.func58, Tryz.ntmps58
        go_wp2_with (first
          | (go_at_call 71; go_must (refine HC.out.mono ?_; rintro e w1 ⟨rfl, rfl⟩))
          | (go_at_call 73; go_must (refine (Bytes_at 65533 (by omega) _).mono ?_; rintro e w1 ⟨g, cap, m, rfl, ho, hm, _, hb⟩; have hst := HS.out w1 g cap m 65533 hm (own_row ho); have HB := Lib.hid hb; clear hb ho hm)))
        go_ret
        exact ⟨ret_strB hN.out.symm, HB.out⟩
  · have hn : n ≠ 0 := fun h => ha (.inl h)
    have hc : charB n = true := by
      cases hc : charB n
      · exact absurd (.inr hc) ha
      · rfl
    have h' : (n == 0) = false := by simpa using hn
    obtain ⟨c0, c1, _⟩ := (charB_iff n).1 hc
    obtain ⟨k, rfl⟩ := Int.eq_ofNat_of_zero_le c0
    have HCH := Lib.hid hc
    rw [hc] at HC
    clear ha hc
    by_cases hk : 128 ≤ k ∧ k < 160
    · obtain ⟨hk1, hk2⟩ := hk
      obtain ⟨j, hkj⟩ : ∃ j, k = 128 + j := ⟨k - 128, by omega⟩
      have hj : j < 32 := by omega
      obtain ⟨_, o2⟩ := odd_char j hj
      have hN : Hid (numF (k : Int) = encF (oddT.getD j 0)) := by
        show _ = _
        rw [hkj, numF_odd hj]
      obtain ⟨q, hq⟩ : ∃ q, q = oddT.getD j 0 := ⟨_, rfl⟩
      have h9 : char9 k = q := by rw [char9, if_pos (by omega), hkj, Nat.add_sub_cancel_left, hq]
      have HL := Lib.hid (Char09_any k (by omega) w)
      rw [h9] at HL
      rw [← hq] at hN o2
      have hge : (k : Int) ≥ 128 := by omega
      have hlt : (k : Int) ≤ 159 := by omega
      clear hq h9 hn hkj hj
      go_enter Tryz.func58, Tryz.ntmps58
      go_wp2_with (first
        | (go_at_call 71; go_must (refine HC.out.mono ?_; rintro e w1 ⟨rfl, rfl⟩))
        | (go_at_call 72; go_must (refine HL.out.mono ?_; rintro e w1 ⟨rfl, hb⟩; have HB0 := Lib.hid hb; clear hb))
        | (go_at_call 73; go_must (refine (Bytes_at q o2 _).mono ?_; rintro e w2 ⟨g, cap, m, rfl, ho, hm, _, hb⟩; have hst := HS.out w2 g cap m q hm (own_row ho); have HB := Lib.hid hb; clear hb ho hm)))
      go_ret
      exact ⟨ret_strB hN.out.symm, belowCall HB0.out HB.out⟩
    · have hN := Lib.hid (numF_else (n := k) (by omega) HCH.out hk)
      have hk2 : k ≤ 1114111 := by omega
      by_cases hk1 : 128 ≤ k
      · have hge : (k : Int) ≥ 128 := by omega
        have hlt : ¬ (k : Int) ≤ 159 := by omega
        clear hk hn
        go_enter Tryz.func58, Tryz.ntmps58
        go_wp2_with (first
          | (go_at_call 71; go_must (refine HC.out.mono ?_; rintro e w1 ⟨rfl, rfl⟩))
          | (go_at_call 73; go_must (refine (Bytes_at k hk2 _).mono ?_; rintro e w2 ⟨g, cap, m, rfl, ho, hm, _, hb⟩; have hst := HS.out w2 g cap m k hm (own_row ho); have HB := Lib.hid hb; clear hb ho hm)))
        go_ret
        exact ⟨ret_strB hN.out.symm, HB.out⟩
      · have hge : ¬ (k : Int) ≥ 128 := by omega
        clear hk hn
        go_enter Tryz.func58, Tryz.ntmps58
        go_wp2_with (first
          | (go_at_call 71; go_must (refine HC.out.mono ?_; rintro e w1 ⟨rfl, rfl⟩))
          | (go_at_call 73; go_must (refine (Bytes_at k hk2 _).mono ?_; rintro e w2 ⟨g, cap, m, rfl, ho, hm, _, hb⟩; have hst := HS.out w2 g cap m k hm (own_row ho); have HB := Lib.hid hb; clear hb ho hm)))
        go_ret
        exact ⟨ret_strB hN.out.symm, HB.out⟩
end Go.Proofs.YtbabcohidpcjjaaGreat
