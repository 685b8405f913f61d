import Derived.Test.YtbabcohidpcjjaaGreatZRS
import Derived.Test.YtbabcohidpcjjaaGreatZPl
import Derived.Test.YtbabcohidpcjjaaGreatZRefC
import Derived.Lib.BufferRead
/-
  The walk of MarksLines: it returns true.
-/
namespace Go.Proofs.YtbabcohidpcjjaaGreat
open Go.RowKit Mem

/-! plain: line ends -/
theorem marks_put {s t : Str} (h : putF false s = putF false t) : marksF s = marksF t := by
  rw [marks_whole, marks_whole]
  have : wholeM s = wholeM t := by unfold wholeM; rw [h]
  rw [this]
def noCr (s : Str) : Str := s.filter (fun c => c != 13)
theorem noCr_no (s : Str) : ∀ c ∈ noCr s, c ≠ 13 := fun c hc => by
  have := (List.mem_filter.1 hc).2
  simpa using this
theorem putC_no : ∀ l : Str, (∀ c ∈ l, c ≠ 13) → putC false l = false
  | [], _ => rfl
  | c :: l, h => by
    rw [putC, show (c == 13) = false from beq_eq_false_iff_ne.2 (h c List.mem_cons_self)]
    exact putC_no l fun x hx => h x (List.mem_cons_of_mem _ hx)
theorem noCr_succ (s : Str) (k : Nat) (h : k < s.length) : noCr (s.take (k + 1)) = if s[k] = 13 then noCr (s.take k) else noCr (s.take k) ++ [s[k]] := by
  rw [List.take_succ_eq_append_getElem h]
  unfold noCr
  rw [List.filter_append]
  by_cases h13 : s[k] = 13
  · rw [if_pos h13, List.filter_cons_of_neg (by simp [h13]), List.filter_nil, List.append_nil]
  · rw [if_neg h13, List.filter_cons_of_pos (by simpa using h13), List.filter_nil]
structure Odd (own O : Str) (k : Nat) : Prop where
  put : putF false O = putF false (own.take k)
  cr : putC false O = true → ∀ c, own[k]? = some c → c ≠ 10
  len : O.length ≤ 2 * k
theorem Odd.start (own : Str) : Odd own [] 0 := ⟨by simp, fun h => (by cases h), Nat.zero_le _⟩
theorem Odd.step {own O x : Str} {k : Nat} (h : Odd own O k) (hk : k < own.length) (hno : ∀ c ∈ own, c ≠ 13) (hx : putF (putC false O) x = putOne false own[k]) (hc : putC (putC false O) x = true → ∀ c, own[k + 1]? = some c → c ≠ 10) (hl : x.length ≤ 2) : Odd own (O ++ x) (k + 1) := by
  refine ⟨?_, ?_, ?_⟩
  · rw [(putF_append O x false).1, List.take_succ_eq_append_getElem hk, (putF_append (own.take k) [own[k]] false).1, h.put, hx, putC_no (own.take k) (fun c hc => hno c (List.mem_of_mem_take hc))]
    rw [putF, putF, List.append_nil]
  · rw [(putF_append O x false).2]
    exact hc
  · rw [List.length_append]
    have := h.len
    omega
theorem Odd.plain {own O : Str} {k : Nat} (h : Odd own O k) (hk : k < own.length) (hno : ∀ c ∈ own, c ≠ 13) (h10 : own[k] ≠ 10) : Odd own (O ++ [own[k]]) (k + 1) := by
  refine h.step hk hno ?_ ?_ (by simp)
  · rw [putF, putF, List.append_nil]
    simp only [putOne, h10, false_and, if_false]
  · rw [putC, putC, show (own[k] == 13) = false from beq_eq_false_iff_ne.2 (hno _ (List.getElem_mem hk))]
    exact fun h => by cases h
theorem Odd.lf {own O : Str} {k : Nat} (h : Odd own O k) (hk : k < own.length) (h10 : own[k] = 10) : putC false O = false := by
  rw [Bool.eq_false_iff]
  intro hc
  exact h.cr hc own[k] (List.getElem?_eq_getElem hk) h10
theorem Odd.two {own O : Str} {k : Nat} (h : Odd own O k) (hk : k < own.length) (hno : ∀ c ∈ own, c ≠ 13) (h10 : own[k] = 10) : Odd own (O ++ [13, 10]) (k + 1) := by
  refine h.step hk hno ?_ ?_ (by simp)
  · rw [h.lf hk h10, h10]; decide
  · rw [h.lf hk h10]; exact fun h => by cases h
theorem Odd.one {own O : Str} {k : Nat} (h : Odd own O k) (hk : k < own.length) (hno : ∀ c ∈ own, c ≠ 13) (h10 : own[k] = 10) : Odd own (O ++ [10]) (k + 1) := by
  refine h.step hk hno ?_ ?_ (by simp)
  · rw [h.lf hk h10, h10]; decide
  · rw [h.lf hk h10]; exact fun h => by cases h
theorem Odd.back {own O : Str} {k : Nat} (h : Odd own O k) (hk : k < own.length) (hno : ∀ c ∈ own, c ≠ 13) (h10 : own[k] = 10) (hn : ∀ c, own[k + 1]? = some c → c ≠ 10) : Odd own (O ++ [13]) (k + 1) := by
  refine h.step hk hno ?_ ?_ (by simp)
  · rw [h.lf hk h10, h10]; decide
  · exact fun _ => hn
theorem Odd.done {own O : Str} (h : Odd own O own.length) : marksF O = marksF own := marks_put (by rw [h.put, List.take_length])

theorem text_own {P : Program} {w : World} {base : Nat} {e src dst : TypeId} {v : Value} {l : Str} {n : Nat} (hs : P.underlying src = some (.slice e)) (he : P.underlying e = some (.int .u8)) (hd : P.underlying dst = some .string)
    (h : w.ownsRow base e 1 v n (bytesV l)) : (convert src dst v).run P w = .ok (.string (strB l)) w := by
  have hl : l.length = n := by have := h.1; rw [bytesV_length] at this; omega
  rcases h.2 with ⟨rfl, h0⟩ | ⟨g, cap, cur, rfl, _⟩
  · have : l = [] := List.eq_nil_of_length_eq_zero (by omega)
    subst this
    exact Lib.run_convert_nil_bytes w src dst e 0 hs he hd
  · exact run_string_of w src dst e g cap l n hl.symm hs he hd (own_row h)
theorem own_base_ge {w : World} {base : Nat} {e : TypeId} {size : Nat} {v : Value} {n : Nat} {xs : List Value} (h : w.ownsRow base e size v n xs) : ∀ b, v.ownBlock = some b → base ≤ b := fun b hb => (h.lt b hb).1
theorem byte_cells {w : World} {a : Option Addr} {L : Str} (h : At w a (bytesV L)) {k : Nat} (hk : k < L.length) : ∃ b o, a = some ⟨b, o, none⟩ ∧ b < w.heap.size ∧ w.cell? ⟨b, o + k, none⟩ = some (.int .u8 L[k].toNat) := by
  rcases h.cases with h0 | ⟨b, o, h1, h2, h3⟩
  · have := congrArg List.length h0
    rw [bytesV_length, List.length_nil] at this
    omega
  · exact ⟨b, o, h1, h2, h3 k _ (bytesV_get L k hk)⟩
theorem int_cells {w : World} {a : Option Addr} {L : List Int} (h : At w a (intsV L)) {k : Nat} (hk : k < L.length) : ∃ b o, a = some ⟨b, o, none⟩ ∧ b < w.heap.size ∧ w.cell? ⟨b, o + k, none⟩ = some (.int .i64 L[k]) := by
  rcases h.cases with h0 | ⟨b, o, h1, h2, h3⟩
  · have := congrArg List.length h0
    rw [intsV_length, List.length_nil] at this
    omega
  · exact ⟨b, o, h1, h2, h3 k _ (intsV_get L k hk)⟩
theorem bits_le (x K : Int) (k : Nat) (h : (BitVec.ofInt 64 K).toNat = k) (hk : k ≤ 1000000) : ∃ p : Nat, p ≤ k ∧ bits .and .i64 x K = (p : Nat) := by
  have h7 : (BitVec.ofInt 64 x &&& BitVec.ofInt 64 K).toNat ≤ k := by rw [BitVec.toNat_and, h]; exact Nat.and_le_right
  refine ⟨_, h7, ?_⟩
  show IntKind.i64.wrap ((BitVec.ofInt 64 x &&& BitVec.ofInt 64 K).toNat : Int) = _
  rw [IntKind.wrap_i64]
  omega
/-- what All has told, as a slice whatever came of it -/
theorem marks_slice {base : Nat} {o : List MarkD × Int} {r : Ending} {w' : World} (h : MarksAt base o r w') (hf : ∀ x ∈ o.1, GoodMark x) :
    ∃ ao co L, r = .returned (.tuple #[.slice ao L.length co, .int .i64 o.2]) ∧ L.map (·.1) = o.1 ∧ At w' ao (marksV L) ∧ AtsAt w' L := by
  rcases h with ⟨h1, h2, rfl⟩ | ⟨h1, v, L, rfl, h2, h3, h4⟩
  · exact ⟨none, 0, [], rfl, by rw [h2]; rfl, at_nil _ _, fun p hp => by cases hp⟩
  · obtain ⟨ao, co, hv, -, -, h0, hat⟩ := own_at h3
    subst hv
    exact ⟨ao, co, L, by rw [h1], h2, hat, ats_at h4 (fun p hp => (hf p.1 (by rw [← h2]; exact List.mem_map_of_mem hp)).few)⟩
end Go.Proofs.YtbabcohidpcjjaaGreat

/-
  Contracts: the document's Read, law 13's plain (a text as it is read). Condition: the text's length is at most 2^32.
-/
namespace Go.Proofs.YtbabcohidpcjjaaGreat
open Go.RowKit Mem

theorem one_of {L : MS} {a : MarkD} (h : L.map (·.1) = [a]) : ∃ v, L = [(a, v)] := by
  match L, h with
  | [(x, v)], h =>
    simp only [List.map_cons, List.map_nil, List.cons.injEq, and_true] at h
    exact ⟨v, by rw [h]⟩
theorem two_of {L : MS} {a b : MarkD} (h : L.map (·.1) = [a, b]) : ∃ v u, L = [(a, v), (b, u)] := by
  match L, h with
  | [(x, v), (z, u)], h =>
    simp only [List.map_cons, List.map_nil, List.cons.injEq, and_true] at h
    exact ⟨v, u, by rw [h.1, h.2]⟩
theorem nil_of {L : MS} (h : L.map (·.1) = []) : L = [] := List.map_eq_nil_iff.1 h
theorem own_at2 {w : World} {base : Nat} {e : TypeId} {size n c : Nat} {a : Option Addr} {xs : List Value} (h : w.ownsRow base e size (.slice a n c) n xs) : (a = none → c = 0) ∧ At w a xs := by
  obtain ⟨ao, co, hv, -, -, h0, hat⟩ := own_at h
  cases hv
  exact ⟨h0, hat⟩
theorem marks_own {base : Nat} {o : List MarkD × Int} {r : Ending} {w' : World} (h : MarksAt base o r w') :
    ∃ ao co L, r = .returned (.tuple #[.slice ao L.length co, .int .i64 o.2]) ∧ L.map (·.1) = o.1 ∧ w'.ownsRow base 46 5 (.slice ao L.length co) L.length (marksV L) ∧ AtsOwn base L w' := by
  rcases h with ⟨h1, h2, rfl⟩ | ⟨h1, v, L, rfl, h2, h3, h4⟩
  · exact ⟨none, 0, [], rfl, by rw [h2]; rfl, World.ownsRow_nil _ _ _ _, fun p hp => by cases hp⟩
  · obtain ⟨ao, co, hv, -⟩ := own_at h3
    subst hv
    exact ⟨ao, co, L, by rw [h1], h2, h3, h4⟩
theorem putF_same2 {c : UInt8} (h : c ≠ 10) (a b : Bool) (r : Str) : putF a (c :: r) = putF b (c :: r) := by
  rw [putF, putF]
  simp only [putOne, h, false_and, if_false]
theorem putF_crlf (r : Str) : putF false (13 :: 10 :: r) = putF false (10 :: r) := by
  rw [putF, putF, putF]; rfl
theorem putF_cr {r : Str} (h : ∀ c, r.head? = some c → c ≠ 10) : putF false (13 :: r) = [10] ++ putF false r := by
  rw [putF]
  cases r with
  | nil => rfl
  | cons c r => rw [show (putF ((13 : UInt8) == 13) (c :: r)) = putF false (c :: r) from putF_same2 (h c rfl) _ _ _]; rfl
theorem putF_zero (r : Str) : putF false (0 :: r) = [239, 191, 189] ++ putF false r := by rw [putF]; rfl
theorem putF_char {c : UInt8} (h1 : c ≠ 13) (h2 : c ≠ 0) (r : Str) : putF false (c :: r) = [c] ++ putF false r := by
  rw [putF, show (c == 13) = false from beq_eq_false_iff_ne.2 h1]
  unfold putOne
  rw [if_neg (by simp), if_neg h1, if_neg h2]
set_option maxRecDepth 100000 in
set_option maxHeartbeats 4000000 in
theorem Read_any (s : ByteArray) (w : World) (hs : s.size ≤ 4294967296) : Calls Tryz.prog 28 #[.string s] w fun e w' => e = .returned (.string (strB (putF false s.toList))) ∧ Below w.heap.size w w' := by
  obtain ⟨i0, hi, hz0, hz1, hz2⟩ := info_parts info_u8
  have hpl := putF_len s.toList false
  rw [size_toList] at hpl
  go_enter Tryz.func28, Tryz.ntmps28
  go_wp2_with fail
  go_loopw [3, 4] (fun v i wr => ∃ (acc : Str) (k : Nat), k ≤ s.size ∧ i = .int .i64 k ∧ wr.ownsRow w.heap.size 5 1 v acc.length (bytesV acc) ∧ Below w.heap.size w wr ∧ acc ++ putF false (s.toList.drop k) = putF false s.toList) (fun _ i _ => s.size - (intOf i).toNat)
  case atStart => exact ⟨[], 0, Nat.zero_le _, rfl, World.ownsRow_nil _ _ _ _, Below.refl _ _, rfl⟩
  case round =>
    obtain ⟨acc, k, hk, rfl, ho, hb, hv⟩ := hrel
    have HO := Lib.hid ho
    have HB := Lib.hid hb
    have HZ := Lib.hid hb.size
    have hacc : acc.length + (putF false (s.toList.drop k)).length ≤ 3 * s.size := by rw [← List.length_append, hv]; exact hpl
    clear ho hb
    by_cases hks : k < s.size
    · have hd := drop_byte s k hks
      rw [hd] at hv hacc
      by_cases h13 : s[k] = 13
      · have hc1 : ((s[k].toNat : Int) == 13) = true := byte_eq (c := 13) h13
        rw [h13] at hv hacc
        by_cases hks2 : k + 1 < s.size
        · have hks2i : (k : Int) + 1 < (s.size : Int) := by omega
          have hd2 := drop_byte s (k + 1) hks2
          by_cases h10 : s[k + 1] = 10
          · have hc2 : ((s[k + 1].toNat : Int) == 10) = true := byte_eq (c := 10) h10
            rw [hd2, h10, putF_crlf, ← h10, ← hd2] at hv
            have HV := Lib.hid hv
            clear hv hacc hd hd2 h10 h13
            go_wp2_with fail
            go_roundw
            case rel => exact ⟨acc, k + 1, by omega, by go_num, HO.out, HB.out, HV.out⟩
            case measure => simp [intOf]; omega
          · have hc2 : ((s[k + 1].toNat : Int) == 10) = false := byte_ne (c := 10) h10
            have hne : ∀ c, (s.toList.drop (k + 1)).head? = some c → c ≠ 10 := fun c hc => by rw [hd2] at hc; cases hc; exact h10
            rw [putF_cr hne, ← List.append_assoc] at hv
            rw [putF_cr hne, List.length_append, List.length_cons, List.length_nil] at hacc
            have HV := Lib.hid hv
            have b1 : acc.length + 1 ≤ maxLen := by unfold maxLen; omega
            have b2 : (acc.length + 1) * 1 ≤ 140737488355328 := by omega
            have HQ := Lib.hid (HO.out.alloc (.cells #[.int .u8 10] 5))
            have HZ2 := Lib.hid (show w.heap.size ≤ (wr.alloc (.cells #[.int .u8 10] 5)).heap.size from by have := HZ.out; simp; omega)
            clear hv hacc hd h13 hne
            go_wp2_with (at_builtin; go_must (refine wpList_append_slice _ rfl _ _ 74 rfl w.heap.size 5 i0 _ 1 1 Tryz.underlying74 hi hz0 hz1 hz2 rfl (by decide) _ acc.length (bytesV acc) rfl HQ.out (some ⟨wr.heap.size, 0, none⟩) 1 1 (bytesV [10]) rfl rfl (fun h => by cases h) (at_alloc rfl rfl) (bytesV_one' _) b1 b2 HZ2.out ?_; intro v3 w3 hown3 hgr3; have HO3 := Lib.hid hown3; have HG3 := Lib.hid hgr3; clear hown3 hgr3))
            go_roundw
            case rel => exact ⟨acc ++ [10], k + 1, by omega, by go_num, by rw [bytesV_app, List.length_append]; exact HO3.out, (HB.out.alloc HZ.out _).grown HG3.out HZ2.out (own_base_ge HQ.out), HV.out⟩
            case measure => simp [intOf]; omega
        · have hks2i : ¬ (k : Int) + 1 < (s.size : Int) := by omega
          have hne : ∀ c, (s.toList.drop (k + 1)).head? = some c → c ≠ 10 := fun c hc => by
            rw [List.drop_of_length_le (by rw [size_toList]; omega)] at hc; cases hc
          rw [putF_cr hne, ← List.append_assoc] at hv
          rw [putF_cr hne, List.length_append, List.length_cons, List.length_nil] at hacc
          have HV := Lib.hid hv
          have b1 : acc.length + 1 ≤ maxLen := by unfold maxLen; omega
          have b2 : (acc.length + 1) * 1 ≤ 140737488355328 := by omega
          have HQ := Lib.hid (HO.out.alloc (.cells #[.int .u8 10] 5))
          have HZ2 := Lib.hid (show w.heap.size ≤ (wr.alloc (.cells #[.int .u8 10] 5)).heap.size from by have := HZ.out; simp; omega)
          clear hv hacc hd h13 hne
          go_wp2_with (at_builtin; go_must (refine wpList_append_slice _ rfl _ _ 74 rfl w.heap.size 5 i0 _ 1 1 Tryz.underlying74 hi hz0 hz1 hz2 rfl (by decide) _ acc.length (bytesV acc) rfl HQ.out (some ⟨wr.heap.size, 0, none⟩) 1 1 (bytesV [10]) rfl rfl (fun h => by cases h) (at_alloc rfl rfl) (bytesV_one' _) b1 b2 HZ2.out ?_; intro v3 w3 hown3 hgr3; have HO3 := Lib.hid hown3; have HG3 := Lib.hid hgr3; clear hown3 hgr3))
          go_roundw
          case rel => exact ⟨acc ++ [10], k + 1, by omega, by go_num, by rw [bytesV_app, List.length_append]; exact HO3.out, (HB.out.alloc HZ.out _).grown HG3.out HZ2.out (own_base_ge HQ.out), HV.out⟩
          case measure => simp [intOf]; omega
      · have hc1 : ((s[k].toNat : Int) == 13) = false := byte_ne (c := 13) h13
        by_cases h0 : s[k] = 0
        · have hc2 : ((s[k].toNat : Int) == 0) = true := byte_eq (c := 0) h0
          rw [h0, putF_zero, ← List.append_assoc] at hv
          rw [h0, putF_zero, List.length_append] at hacc
          simp only [List.length_cons, List.length_nil] at hacc
          have HV := Lib.hid hv
          have b1 : acc.length + 3 ≤ maxLen := by unfold maxLen; omega
          have b2 : (acc.length + 3) * 1 ≤ 140737488355328 := by omega
          have HQ := Lib.hid (HO.out.alloc (.cells #[.int .u8 239, .int .u8 191, .int .u8 189] 5))
          have HZ2 := Lib.hid (show w.heap.size ≤ (wr.alloc (.cells #[.int .u8 239, .int .u8 191, .int .u8 189] 5)).heap.size from by have := HZ.out; simp; omega)
          clear hv hacc hd h13 h0
          go_wp2_with (at_builtin; go_must (refine wpList_append_slice _ rfl _ _ 74 rfl w.heap.size 5 i0 _ 1 1 Tryz.underlying74 hi hz0 hz1 hz2 rfl (by decide) _ acc.length (bytesV acc) rfl HQ.out (some ⟨wr.heap.size, 0, none⟩) 3 3 (bytesV [239, 191, 189]) rfl rfl (fun h => by cases h) (at_alloc rfl rfl) (bytesV_one' _) b1 b2 HZ2.out ?_; intro v3 w3 hown3 hgr3; have HO3 := Lib.hid hown3; have HG3 := Lib.hid hgr3; clear hown3 hgr3))
          go_roundw
          case rel => exact ⟨acc ++ [239, 191, 189], k + 1, by omega, by go_num, by rw [bytesV_app, List.length_append]; exact HO3.out, (HB.out.alloc HZ.out _).grown HG3.out HZ2.out (own_base_ge HQ.out), HV.out⟩
          case measure => simp [intOf]; omega
        · have hc2 : ((s[k].toNat : Int) == 0) = false := byte_ne (c := 0) h0
          rw [putF_char h13 h0, ← List.append_assoc] at hv
          rw [putF_char h13 h0, List.length_append, List.length_cons, List.length_nil] at hacc
          have HV := Lib.hid hv
          have b1 : acc.length + 1 ≤ maxLen := by unfold maxLen; omega
          have b2 : (acc.length + 1) * 1 ≤ 140737488355328 := by omega
          have HQ := Lib.hid (HO.out.alloc (.cells #[.int .u8 (s[k].toNat : Nat)] 5))
          have HZ2 := Lib.hid (show w.heap.size ≤ (wr.alloc (.cells #[.int .u8 (s[k].toNat : Nat)] 5)).heap.size from by have := HZ.out; simp; omega)
          clear hv hacc hd h13 h0
          go_wp2_with (at_builtin; go_must (refine wpList_append_slice _ rfl _ _ 74 rfl w.heap.size 5 i0 _ 1 1 Tryz.underlying74 hi hz0 hz1 hz2 rfl (by decide) _ acc.length (bytesV acc) rfl HQ.out (some ⟨wr.heap.size, 0, none⟩) 1 1 (bytesV [s[k]]) rfl rfl (fun h => by cases h) (at_alloc rfl rfl) (bytesV_one' _) b1 b2 HZ2.out ?_; intro v3 w3 hown3 hgr3; have HO3 := Lib.hid hown3; have HG3 := Lib.hid hgr3; clear hown3 hgr3))
          go_roundw
          case rel => exact ⟨acc ++ [s[k]], k + 1, by omega, by go_num, by rw [bytesV_app, List.length_append]; exact HO3.out, (HB.out.alloc HZ.out _).grown HG3.out HZ2.out (own_base_ge HQ.out), HV.out⟩
          case measure => simp [intOf]; omega
    · have hdn : s.toList.drop k = [] := List.drop_of_length_le (by rw [size_toList]; omega)
      rw [hdn, putF, List.append_nil] at hv
      have hback := text_own (P := Tryz.prog) Tryz.underlying74 Tryz.underlying5 Tryz.underlying9 HO.out
      rw [hv] at hback
      clear hv hacc hdn
      go_wp2_with fail
      go_ret
      exact ⟨rfl, HB.out⟩
end Go.Proofs.YtbabcohidpcjjaaGreat
