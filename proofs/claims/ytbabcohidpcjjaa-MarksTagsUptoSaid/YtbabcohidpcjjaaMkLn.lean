/-
  The walk of MarksLines: it returns true.
-/
import Derived.Test.YtbabcohidpcjjaaMkRS
import Derived.Test.YtbabcohidpcjjaaMkPl
import Derived.Test.YtbabcohidpcjjaaRefsE
import Derived.Lib.BufferRead
namespace Go.Proofs.Ytbabcohidpcjjaa
open Go.RowKit Mem

/-! plain: line ends -/
theorem marks_put {s t : Str} (h : putF false s = putF false t) : marksF s = marksF t := by
  rw [marks_whole, marks_whole]
  have : wholeM s = wholeM t := by unfold wholeM; rw [h]
  rw [this]
def noCr (s : Str) : Str := s.filter (fun c => c != 13)
theorem noCr_no (s : Str) : ∀ c ∈ noCr s, c ≠ 13 := fun c hc => by
  have := (List.mem_filter.1 hc).2
  simpa using this
theorem putC_no : ∀ l : Str, (∀ c ∈ l, c ≠ 13) → putC false l = false
  | [], _ => rfl
  | c :: l, h => by
    rw [putC, show (c == 13) = false from beq_eq_false_iff_ne.2 (h c List.mem_cons_self)]
    exact putC_no l fun x hx => h x (List.mem_cons_of_mem _ hx)
theorem noCr_succ (s : Str) (k : Nat) (h : k < s.length) : noCr (s.take (k + 1)) = if s[k] = 13 then noCr (s.take k) else noCr (s.take k) ++ [s[k]] := by
  rw [List.take_succ_eq_append_getElem h]
  unfold noCr
  rw [List.filter_append]
  by_cases h13 : s[k] = 13
  · rw [if_pos h13, List.filter_cons_of_neg (by simp [h13]), List.filter_nil, List.append_nil]
  · rw [if_neg h13, List.filter_cons_of_pos (by simpa using h13), List.filter_nil]
structure Odd (own O : Str) (k : Nat) : Prop where
  put : putF false O = putF false (own.take k)
  cr : putC false O = true → ∀ c, own[k]? = some c → c ≠ 10
  len : O.length ≤ 2 * k
theorem Odd.start (own : Str) : Odd own [] 0 := ⟨by simp, fun h => (by cases h), Nat.zero_le _⟩
theorem Odd.step {own O x : Str} {k : Nat} (h : Odd own O k) (hk : k < own.length) (hno : ∀ c ∈ own, c ≠ 13) (hx : putF (putC false O) x = putOne false own[k]) (hc : putC (putC false O) x = true → ∀ c, own[k + 1]? = some c → c ≠ 10) (hl : x.length ≤ 2) : Odd own (O ++ x) (k + 1) := by
  refine ⟨?_, ?_, ?_⟩
  · rw [(putF_append O x false).1, List.take_succ_eq_append_getElem hk, (putF_append (own.take k) [own[k]] false).1, h.put, hx, putC_no (own.take k) (fun c hc => hno c (List.mem_of_mem_take hc))]
    rw [putF, putF, List.append_nil]
  · rw [(putF_append O x false).2]
    exact hc
  · rw [List.length_append]
    have := h.len
    omega
theorem Odd.plain {own O : Str} {k : Nat} (h : Odd own O k) (hk : k < own.length) (hno : ∀ c ∈ own, c ≠ 13) (h10 : own[k] ≠ 10) : Odd own (O ++ [own[k]]) (k + 1) := by
  refine h.step hk hno ?_ ?_ (by simp)
  · rw [putF, putF, List.append_nil]
    simp only [putOne, h10, false_and, if_false]
  · rw [putC, putC, show (own[k] == 13) = false from beq_eq_false_iff_ne.2 (hno _ (List.getElem_mem hk))]
    exact fun h => by cases h
theorem Odd.lf {own O : Str} {k : Nat} (h : Odd own O k) (hk : k < own.length) (h10 : own[k] = 10) : putC false O = false := by
  rw [Bool.eq_false_iff]
  intro hc
  exact h.cr hc own[k] (List.getElem?_eq_getElem hk) h10
theorem Odd.two {own O : Str} {k : Nat} (h : Odd own O k) (hk : k < own.length) (hno : ∀ c ∈ own, c ≠ 13) (h10 : own[k] = 10) : Odd own (O ++ [13, 10]) (k + 1) := by
  refine h.step hk hno ?_ ?_ (by simp)
  · rw [h.lf hk h10, h10]; decide
  · rw [h.lf hk h10]; exact fun h => by cases h
theorem Odd.one {own O : Str} {k : Nat} (h : Odd own O k) (hk : k < own.length) (hno : ∀ c ∈ own, c ≠ 13) (h10 : own[k] = 10) : Odd own (O ++ [10]) (k + 1) := by
  refine h.step hk hno ?_ ?_ (by simp)
  · rw [h.lf hk h10, h10]; decide
  · rw [h.lf hk h10]; exact fun h => by cases h
theorem Odd.back {own O : Str} {k : Nat} (h : Odd own O k) (hk : k < own.length) (hno : ∀ c ∈ own, c ≠ 13) (h10 : own[k] = 10) (hn : ∀ c, own[k + 1]? = some c → c ≠ 10) : Odd own (O ++ [13]) (k + 1) := by
  refine h.step hk hno ?_ ?_ (by simp)
  · rw [h.lf hk h10, h10]; decide
  · exact fun _ => hn
theorem Odd.done {own O : Str} (h : Odd own O own.length) : marksF O = marksF own := marks_put (by rw [h.put, List.take_length])

theorem text_own {P : Program} {w : World} {base : Nat} {e src dst : TypeId} {v : Value} {l : Str} {n : Nat} (hs : P.underlying src = some (.slice e)) (he : P.underlying e = some (.int .u8)) (hd : P.underlying dst = some .string)
    (h : w.ownsRow base e 1 v n (bytesV l)) : (convert src dst v).run P w = .ok (.string (strB l)) w := by
  have hl : l.length = n := by have := h.1; rw [bytesV_length] at this; omega
  rcases h.2 with ⟨rfl, h0⟩ | ⟨g, cap, cur, rfl, _⟩
  · have : l = [] := List.eq_nil_of_length_eq_zero (by omega)
    subst this
    exact Lib.run_convert_nil_bytes w src dst e 0 hs he hd
  · exact run_string_of w src dst e g cap l n hl.symm hs he hd (own_row h)
theorem own_base_ge {w : World} {base : Nat} {e : TypeId} {size : Nat} {v : Value} {n : Nat} {xs : List Value} (h : w.ownsRow base e size v n xs) : ∀ b, v.ownBlock = some b → base ≤ b := fun b hb => (h.lt b hb).1
theorem byte_cells {w : World} {a : Option Addr} {L : Str} (h : At w a (bytesV L)) {k : Nat} (hk : k < L.length) : ∃ b o, a = some ⟨b, o, none⟩ ∧ b < w.heap.size ∧ w.cell? ⟨b, o + k, none⟩ = some (.int .u8 L[k].toNat) := by
  rcases h.cases with h0 | ⟨b, o, h1, h2, h3⟩
  · have := congrArg List.length h0
    rw [bytesV_length, List.length_nil] at this
    omega
  · exact ⟨b, o, h1, h2, h3 k _ (bytesV_get L k hk)⟩
theorem int_cells {w : World} {a : Option Addr} {L : List Int} (h : At w a (intsV L)) {k : Nat} (hk : k < L.length) : ∃ b o, a = some ⟨b, o, none⟩ ∧ b < w.heap.size ∧ w.cell? ⟨b, o + k, none⟩ = some (.int .i64 L[k]) := by
  rcases h.cases with h0 | ⟨b, o, h1, h2, h3⟩
  · have := congrArg List.length h0
    rw [intsV_length, List.length_nil] at this
    omega
  · exact ⟨b, o, h1, h2, h3 k _ (intsV_get L k hk)⟩
theorem bits_le (x K : Int) (k : Nat) (h : (BitVec.ofInt 64 K).toNat = k) (hk : k ≤ 1000000) : ∃ p : Nat, p ≤ k ∧ bits .and .i64 x K = (p : Nat) := by
  have h7 : (BitVec.ofInt 64 x &&& BitVec.ofInt 64 K).toNat ≤ k := by rw [BitVec.toNat_and, h]; exact Nat.and_le_right
  refine ⟨_, h7, ?_⟩
  show IntKind.i64.wrap ((BitVec.ofInt 64 x &&& BitVec.ofInt 64 K).toNat : Int) = _
  rw [IntKind.wrap_i64]
  omega
/-- what All has told, as a slice whatever came of it -/
theorem marks_slice {base : Nat} {o : List MarkD × Int} {r : Ending} {w' : World} (h : MarksAt base o r w') (hf : ∀ x ∈ o.1, GoodMark x) :
    ∃ ao co L, r = .returned (.tuple #[.slice ao L.length co, .int .i64 o.2]) ∧ L.map (·.1) = o.1 ∧ At w' ao (marksV L) ∧ AtsAt w' L := by
  rcases h with ⟨h1, h2, rfl⟩ | ⟨h1, v, L, rfl, h2, h3, h4⟩
  · exact ⟨none, 0, [], rfl, by rw [h2]; rfl, at_nil _ _, fun p hp => by cases hp⟩
  · obtain ⟨ao, co, hv, -, -, h0, hat⟩ := own_at h3
    subst hv
    exact ⟨ao, co, L, by rw [h1], h2, hat, ats_at h4 (fun p hp => (hf p.1 (by rw [← h2]; exact List.mem_map_of_mem hp)).few)⟩
set_option maxRecDepth 100000 in
set_option maxHeartbeats 4000000 in
theorem law_MarksLines (s : ByteArray) (_ : s.size ≤ 1048576) (l : List Int) (a : Option Addr) (c : Nat) (_ : l.length ≤ c) (_ : c ≤ maxLen) (w : World) (ha : At w a (intsV l)) (hln : l.length ≤ 1048576) (y : Int) (hm : maxAt w y) :
    Calls Try.prog 6 #[.string s, .slice a l.length c] w fun e w' => e = .returned (.bool true) ∧ Below w.heap.size w w' := by
  have HM := Lib.hid hm
  have HA := Lib.hid ha
  obtain ⟨i0, hi, hz0, hz1, hz2⟩ := info_parts info_u8
  clear hm ha
  go_enter Try.func6, Try.ntmps6
  go_wp2_with fail
  refine (shown_any y w HM.out).mono ?_
  rintro r W1 ⟨rfl, hb⟩
  have HM1 := Lib.hid (max_below HM.out hb)
  have HB1 := Lib.hid hb
  have HA1 := Lib.hid (HA.out.below hb)
  clear hb HA HM
  dsimp only
  go_wp2_with fail
  go_loopw [6, 7] (fun v i wr => ∃ k : Nat, k ≤ s.size ∧ k ≤ 20000 ∧ i = .int .i64 k ∧ wr.ownsRow W1.heap.size 5 1 v (noCr (s.toList.take k)).length (bytesV (noCr (s.toList.take k))) ∧ Below W1.heap.size W1 wr) (fun _ i _ => s.size - (intOf i).toNat)
  case atStart => exact ⟨0, Nat.zero_le _, Nat.zero_le _, rfl, World.ownsRow_nil _ _ _ _, Below.refl _ _⟩
  case round =>
    obtain ⟨k, hk, hk20, rfl, ho, hb⟩ := hrel
    have HO := Lib.hid ho
    have HB := Lib.hid hb
    have HZ := Lib.hid hb.size
    have hnl : (noCr (s.toList.take k)).length ≤ k := by
      unfold noCr
      refine Nat.le_trans (List.length_filter_le _ _) ?_
      rw [List.length_take]; omega
    clear ho hb
    by_cases hks : k < s.size ∧ k < 20000
    · obtain ⟨hks, hk2⟩ := hks
      have hkl : k < s.toList.length := by rw [size_toList]; exact hks
      have hsu := noCr_succ s.toList k hkl
      have hse : s.toList[k] = s[k] := by
        have := drop_byte s k hks
        rw [List.drop_eq_getElem_cons hkl] at this
        exact (List.cons.inj this).1
      rw [hse] at hsu
      by_cases h13 : s[k] = 13
      · rw [if_pos h13] at hsu
        have hcT : ((s[k].toNat : Int) != 13) = false := by rw [h13]; decide
        have HSU := Lib.hid hsu
        clear hsu hse h13
        go_wp2_with fail
        go_roundw
        case rel => exact ⟨k + 1, by omega, by omega, by go_num, by rw [HSU.out]; exact HO.out, HB.out⟩
        case measure => simp [intOf]; omega
      · rw [if_neg h13] at hsu
        have hcT : ((s[k].toNat : Int) != 13) = true := by
          have : ((s[k].toNat : Int) == 13) = false := byte_ne (c := 13) h13
          rw [bne, this]; rfl
        have HSU := Lib.hid hsu
        obtain ⟨acc, hacc⟩ : ∃ acc, acc = noCr (s.toList.take k) := ⟨_, rfl⟩
        rw [← hacc] at HO HSU hnl
        have b1 : acc.length + 1 ≤ maxLen := by unfold maxLen; omega
        have b2 : (acc.length + 1) * 1 ≤ 140737488355328 := by omega
        have HQ := Lib.hid (HO.out.alloc (.cells #[.int .u8 (s[k].toNat : Nat)] 5))
        have HZ2 := Lib.hid (show W1.heap.size ≤ (wr.alloc (.cells #[.int .u8 (s[k].toNat : Nat)] 5)).heap.size from by have := HZ.out; simp; omega)
        clear hsu hse h13 hacc
        go_wp2_with (at_builtin; go_must (refine wpList_append_slice _ rfl _ _ 44 rfl W1.heap.size 5 i0 _ 1 1 Try.underlying44 hi hz0 hz1 hz2 rfl (by decide) _ acc.length (bytesV acc) rfl HQ.out (some ⟨wr.heap.size, 0, none⟩) 1 1 (bytesV [s[k]]) rfl rfl (fun h => by cases h) (at_alloc rfl rfl) (bytesV_one' _) b1 b2 HZ2.out ?_; intro v3 w3 hown3 hgr3; have HO3 := Lib.hid hown3; have HG3 := Lib.hid hgr3; clear hown3 hgr3))
        go_roundw
        case rel => exact ⟨k + 1, by omega, by omega, by go_num, by rw [HSU.out, bytesV_app, List.length_append]; exact HO3.out, (HB.out.alloc HZ.out _).grown HG3.out HZ2.out (own_base_ge HQ.out)⟩
        case measure => simp [intOf]; omega
    · obtain ⟨own, hown⟩ : ∃ own, own = noCr (s.toList.take k) := ⟨_, rfl⟩
      have HNO : Hid (∀ c ∈ own, c ≠ 13) := by rw [hown]; exact noCr_no _
      rw [← hown] at HO hnl
      have hno1 : own.length ≤ 20000 := by omega
      obtain ⟨ao, co, hv, -, -, hc0, hat⟩ := own_at HO.out
      subst hv
      have HAT := Lib.hid hat
      have HA2 := Lib.hid (HA1.out.below HB.out)
      have HB2 := Lib.hid (HB1.out.trans (HB.out.mono HB1.out.size))
      have HM2 := Lib.hid (max_below HM1.out HB.out)
      have HOW := Lib.hid HO.out
      have hzw : w.heap.size ≤ wr.heap.size := HB2.out.size
      clear hat hc0 HO HB HZ HA1 HB1 HM1 hown hnl
      have hor : (¬ (k : Int) < (s.size : Int)) ∨ ((k : Int) < (s.size : Int) ∧ ¬ (k : Int) < 20000) := by omega
      have hor2 : (¬ k < s.size) ∨ (k < s.size ∧ ¬ k < 20000) := by omega
      rename World => W2
      rcases hor with h1 | ⟨h1, h2⟩
      · clear hor2
        go_wp2_with fail
        go_loopw [8, 9, 10] (fun v nv i wi => ∃ (q n : Nat) (O : Str), q ≤ own.length ∧ n ≤ q ∧ i = .int .i64 q ∧ nv = .int .i64 n ∧ wi.ownsRow W2.heap.size 5 1 v O.length (bytesV O) ∧ Odd own O q ∧ Below W2.heap.size W2 wi) (fun _ _ i _ => own.length - (intOf i).toNat)
        case atStart => exact ⟨0, 0, [], Nat.zero_le _, Nat.zero_le _, rfl, rfl, World.ownsRow_nil _ _ _ _, Odd.start _, Below.refl _ _⟩
        case round =>
          obtain ⟨q, n, O, hq, hnq, rfl, rfl, ho, hod, hbi⟩ := hrel
          have HO := Lib.hid ho
          have HD := Lib.hid hod
          have HBi := Lib.hid hbi
          have HZi := Lib.hid hbi.size
          have hol := hod.len
          clear ho hod hbi
          by_cases hql : q < own.length
          · obtain ⟨b, o, rfl, hbw, c0⟩ := byte_cells (HAT.out.below HBi.out) hql
            by_cases h10 : own[q] = 10
            · have hcT : ((own[q].toNat : Int) != 10) = false := by rw [h10]; decide
              have HD1 := Lib.hid (HD.out.one hql HNO.out h10)
              have HD2 := Lib.hid (HD.out.two hql HNO.out h10)
              have HD3 := Lib.hid (fun hn => HD.out.back hql HNO.out h10 hn)
              have b1 : O.length + 1 ≤ maxLen := by unfold maxLen; omega
              have b2 : (O.length + 1) * 1 ≤ 140737488355328 := by omega
              clear h10
              by_cases hl0 : l.length = 0
              · have hl1 : ¬ (0 : Int) < (l.length : Int) := by omega
                clear hl0
                have HQ := Lib.hid (HO.out.alloc (.cells #[.int .u8 10] 5))
                have HZ2 := Lib.hid (show W2.heap.size ≤ (wr.alloc (.cells #[.int .u8 10] 5)).heap.size from by have := HZi.out; simp; omega)
                go_wp2_with (at_builtin; go_must (refine wpList_append_slice _ rfl _ _ 44 rfl W2.heap.size 5 i0 _ 1 1 Try.underlying44 hi hz0 hz1 hz2 rfl (by decide) _ O.length (bytesV O) rfl HQ.out (some ⟨wr.heap.size, 0, none⟩) 1 1 (bytesV [10]) rfl rfl (fun h => by cases h) (at_alloc rfl rfl) (bytesV_one' _) b1 b2 HZ2.out ?_; intro v3 w3 hown3 hgr3; have HO3 := Lib.hid hown3; have HG3 := Lib.hid hgr3; clear hown3 hgr3))
                go_roundw
                case rel => exact ⟨q + 1, n + 1, O ++ [10], by omega, by omega, by go_num, by go_num, by rw [bytesV_app, List.length_append]; exact HO3.out, HD1.out, (HBi.out.alloc HZi.out _).grown HG3.out HZ2.out (own_base_ge HQ.out)⟩
                case measure => simp [intOf]; omega
              · have hl1 : (0 : Int) < (l.length : Int) := by omega
                have hj : n % l.length < l.length := Nat.mod_lt _ (by omega)
                obtain ⟨b', o', rfl, hbw', c1⟩ := int_cells (HA2.out.below HBi.out) hj
                obtain ⟨z, hz3, hzz⟩ := bits_le (l[n % l.length]) 3 3 (by decide) (by decide)
                rcases (show z = 0 ∨ z = 1 ∨ z = 2 ∨ z = 3 by omega) with rfl | rfl | rfl | rfl
                · have HQ := Lib.hid (HO.out.alloc (.cells #[.int .u8 10] 5))
                  have HZ2 := Lib.hid (show W2.heap.size ≤ (wr.alloc (.cells #[.int .u8 10] 5)).heap.size from by have := HZi.out; simp; omega)
                  go_wp2_with (at_builtin; go_must (refine wpList_append_slice _ rfl _ _ 44 rfl W2.heap.size 5 i0 _ 1 1 Try.underlying44 hi hz0 hz1 hz2 rfl (by decide) _ O.length (bytesV O) rfl HQ.out (some ⟨wr.heap.size, 0, none⟩) 1 1 (bytesV [10]) rfl rfl (fun h => by cases h) (at_alloc rfl rfl) (bytesV_one' _) b1 b2 HZ2.out ?_; intro v3 w3 hown3 hgr3; have HO3 := Lib.hid hown3; have HG3 := Lib.hid hgr3; clear hown3 hgr3))
                  go_roundw
                  case rel => exact ⟨q + 1, n + 1, O ++ [10], by omega, by omega, by go_num, by go_num, by rw [bytesV_app, List.length_append]; exact HO3.out, HD1.out, (HBi.out.alloc HZi.out _).grown HG3.out HZ2.out (own_base_ge HQ.out)⟩
                  case measure => simp [intOf]; omega
                · have b1 : O.length + 2 ≤ maxLen := by unfold maxLen; omega
                  have b2 : (O.length + 2) * 1 ≤ 140737488355328 := by omega
                  have HQ := Lib.hid (HO.out.alloc (.cells #[.int .u8 13, .int .u8 10] 5))
                  have HZ2 := Lib.hid (show W2.heap.size ≤ (wr.alloc (.cells #[.int .u8 13, .int .u8 10] 5)).heap.size from by have := HZi.out; simp; omega)
                  go_wp2_with (at_builtin; go_must (refine wpList_append_slice _ rfl _ _ 44 rfl W2.heap.size 5 i0 _ 1 1 Try.underlying44 hi hz0 hz1 hz2 rfl (by decide) _ O.length (bytesV O) rfl HQ.out (some ⟨wr.heap.size, 0, none⟩) 2 2 (bytesV [13, 10]) rfl rfl (fun h => by cases h) (at_alloc rfl rfl) (bytesV_one' _) b1 b2 HZ2.out ?_; intro v3 w3 hown3 hgr3; have HO3 := Lib.hid hown3; have HG3 := Lib.hid hgr3; clear hown3 hgr3))
                  go_roundw
                  case rel => exact ⟨q + 1, n + 1, O ++ [13, 10], by omega, by omega, by go_num, by go_num, by rw [bytesV_app, List.length_append]; exact HO3.out, HD2.out, (HBi.out.alloc HZi.out _).grown HG3.out HZ2.out (own_base_ge HQ.out)⟩
                  case measure => simp [intOf]; omega
                · by_cases hend : q + 1 = own.length
                  · have hend1 : (q : Int) + 1 = (own.length : Int) := by omega
                    have HD3' := Lib.hid (HD3.out (fun c hc => by rw [List.getElem?_eq_none (by omega)] at hc; cases hc))
                    have HQ := Lib.hid (HO.out.alloc (.cells #[.int .u8 13] 5))
                    have HZ2 := Lib.hid (show W2.heap.size ≤ (wr.alloc (.cells #[.int .u8 13] 5)).heap.size from by have := HZi.out; simp; omega)
                    go_wp2_with (at_builtin; go_must (refine wpList_append_slice _ rfl _ _ 44 rfl W2.heap.size 5 i0 _ 1 1 Try.underlying44 hi hz0 hz1 hz2 rfl (by decide) _ O.length (bytesV O) rfl HQ.out (some ⟨wr.heap.size, 0, none⟩) 1 1 (bytesV [13]) rfl rfl (fun h => by cases h) (at_alloc rfl rfl) (bytesV_one' _) b1 b2 HZ2.out ?_; intro v3 w3 hown3 hgr3; have HO3 := Lib.hid hown3; have HG3 := Lib.hid hgr3; clear hown3 hgr3))
                    go_roundw
                    case rel => exact ⟨q + 1, n + 1, O ++ [13], by omega, by omega, by go_num, by go_num, by rw [bytesV_app, List.length_append]; exact HO3.out, HD3'.out, (HBi.out.alloc HZi.out _).grown HG3.out HZ2.out (own_base_ge HQ.out)⟩
                    case measure => simp [intOf]; omega
                  · have hqn : q + 1 < own.length := by omega
                    have hend1 : ¬ (q : Int) + 1 = (own.length : Int) := by omega
                    obtain ⟨b'', o'', hbe, hbw'', c2⟩ := byte_cells (HAT.out.below HBi.out) hqn
                    cases hbe
                    by_cases h11 : own[q + 1] = 10
                    · have hcU : ((own[q + 1].toNat : Int) != 10) = false := by rw [h11]; decide
                      have HQ := Lib.hid (HO.out.alloc (.cells #[.int .u8 10] 5))
                      have HZ2 := Lib.hid (show W2.heap.size ≤ (wr.alloc (.cells #[.int .u8 10] 5)).heap.size from by have := HZi.out; simp; omega)
                      go_wp2_with (at_builtin; go_must (refine wpList_append_slice _ rfl _ _ 44 rfl W2.heap.size 5 i0 _ 1 1 Try.underlying44 hi hz0 hz1 hz2 rfl (by decide) _ O.length (bytesV O) rfl HQ.out (some ⟨wr.heap.size, 0, none⟩) 1 1 (bytesV [10]) rfl rfl (fun h => by cases h) (at_alloc rfl rfl) (bytesV_one' _) b1 b2 HZ2.out ?_; intro v3 w3 hown3 hgr3; have HO3 := Lib.hid hown3; have HG3 := Lib.hid hgr3; clear hown3 hgr3))
                      go_roundw
                      case rel => exact ⟨q + 1, n + 1, O ++ [10], by omega, by omega, by go_num, by go_num, by rw [bytesV_app, List.length_append]; exact HO3.out, HD1.out, (HBi.out.alloc HZi.out _).grown HG3.out HZ2.out (own_base_ge HQ.out)⟩
                      case measure => simp [intOf]; omega
                    · have hcU : ((own[q + 1].toNat : Int) != 10) = true := by
                        have : ((own[q + 1].toNat : Int) == 10) = false := byte_ne (c := 10) h11
                        rw [bne, this]; rfl
                      have HD3' := Lib.hid (HD3.out (fun c hc => by rw [List.getElem?_eq_getElem hqn] at hc; cases hc; exact h11))
                      have HQ := Lib.hid (HO.out.alloc (.cells #[.int .u8 13] 5))
                      have HZ2 := Lib.hid (show W2.heap.size ≤ (wr.alloc (.cells #[.int .u8 13] 5)).heap.size from by have := HZi.out; simp; omega)
                      go_wp2_with (at_builtin; go_must (refine wpList_append_slice _ rfl _ _ 44 rfl W2.heap.size 5 i0 _ 1 1 Try.underlying44 hi hz0 hz1 hz2 rfl (by decide) _ O.length (bytesV O) rfl HQ.out (some ⟨wr.heap.size, 0, none⟩) 1 1 (bytesV [13]) rfl rfl (fun h => by cases h) (at_alloc rfl rfl) (bytesV_one' _) b1 b2 HZ2.out ?_; intro v3 w3 hown3 hgr3; have HO3 := Lib.hid hown3; have HG3 := Lib.hid hgr3; clear hown3 hgr3))
                      go_roundw
                      case rel => exact ⟨q + 1, n + 1, O ++ [13], by omega, by omega, by go_num, by go_num, by rw [bytesV_app, List.length_append]; exact HO3.out, HD3'.out, (HBi.out.alloc HZi.out _).grown HG3.out HZ2.out (own_base_ge HQ.out)⟩
                      case measure => simp [intOf]; omega
                · have HQ := Lib.hid (HO.out.alloc (.cells #[.int .u8 10] 5))
                  have HZ2 := Lib.hid (show W2.heap.size ≤ (wr.alloc (.cells #[.int .u8 10] 5)).heap.size from by have := HZi.out; simp; omega)
                  go_wp2_with (at_builtin; go_must (refine wpList_append_slice _ rfl _ _ 44 rfl W2.heap.size 5 i0 _ 1 1 Try.underlying44 hi hz0 hz1 hz2 rfl (by decide) _ O.length (bytesV O) rfl HQ.out (some ⟨wr.heap.size, 0, none⟩) 1 1 (bytesV [10]) rfl rfl (fun h => by cases h) (at_alloc rfl rfl) (bytesV_one' _) b1 b2 HZ2.out ?_; intro v3 w3 hown3 hgr3; have HO3 := Lib.hid hown3; have HG3 := Lib.hid hgr3; clear hown3 hgr3))
                  go_roundw
                  case rel => exact ⟨q + 1, n + 1, O ++ [10], by omega, by omega, by go_num, by go_num, by rw [bytesV_app, List.length_append]; exact HO3.out, HD1.out, (HBi.out.alloc HZi.out _).grown HG3.out HZ2.out (own_base_ge HQ.out)⟩
                  case measure => simp [intOf]; omega
            · have hcT : ((own[q].toNat : Int) != 10) = true := by
                have : ((own[q].toNat : Int) == 10) = false := byte_ne (c := 10) h10
                rw [bne, this]; rfl
              have HD2 := Lib.hid (HD.out.plain hql HNO.out h10)
              have b1 : O.length + 1 ≤ maxLen := by unfold maxLen; omega
              have b2 : (O.length + 1) * 1 ≤ 140737488355328 := by omega
              generalize own[q] = x at *
              have HQ := Lib.hid (HO.out.alloc (.cells #[.int .u8 (x.toNat : Nat)] 5))
              have HZ2 := Lib.hid (show W2.heap.size ≤ (wr.alloc (.cells #[.int .u8 (x.toNat : Nat)] 5)).heap.size from by have := HZi.out; simp; omega)
              clear h10
              go_wp2_with (at_builtin; go_must (refine wpList_append_slice _ rfl _ _ 44 rfl W2.heap.size 5 i0 _ 1 1 Try.underlying44 hi hz0 hz1 hz2 rfl (by decide) _ O.length (bytesV O) rfl HQ.out (some ⟨wr.heap.size, 0, none⟩) 1 1 (bytesV [x]) rfl rfl (fun h => by cases h) (at_alloc rfl rfl) (bytesV_one' _) b1 b2 HZ2.out ?_; intro v3 w3 hown3 hgr3; have HO3 := Lib.hid hown3; have HG3 := Lib.hid hgr3; clear hown3 hgr3))
              go_roundw
              case rel => exact ⟨q + 1, n, O ++ [x], by omega, by omega, by go_num, rfl, by rw [bytesV_app, List.length_append]; exact HO3.out, HD2.out, (HBi.out.alloc HZi.out _).grown HG3.out HZ2.out (own_base_ge HQ.out)⟩
              case measure => simp [intOf]; omega
          · obtain rfl : q = own.length := by omega
            have HO1 := Lib.hid (own_below HOW.out HBi.out)
            have HMi := Lib.hid (max_below HM2.out HBi.out)
            have HBj := Lib.hid (HB2.out.trans (HBi.out.mono HB2.out.size))
            have hback := text_own (P := Try.prog) Try.underlying44 Try.underlying5 Try.underlying9 HO1.out
            have hsz : (strB own).size ≤ 100000000 := by rw [strB_size]; omega
            have hA := Marks_all (strB own) y wr HMi.out hsz
            rw [toList_strB] at hA
            have HAL := Lib.hid hA
            have hsz2 : (strB O).size ≤ 100000000 := by rw [strB_size]; omega
            have HDD := Lib.hid HD.out.done
            clear hA hq
            go_wp2_with fail
            refine HAL.out.mono ?_
            rintro r W3 ⟨hr, hb3⟩
            have HB3 := Lib.hid (belowCall HBj.out hb3)
            have HM3 := Lib.hid (max_below HMi.out hb3)
            have HO3 := Lib.hid (own_below HO.out hb3)
            have hback2 := text_own (P := Try.prog) Try.underlying44 Try.underlying5 Try.underlying9 HO3.out
            have hA := Marks_all (strB O) y W3 HM3.out hsz2
            rw [toList_strB, HDD.out] at hA
            have HAL2 := Lib.hid hA
            have hff := (marksF_ok own).2.1
            obtain ⟨p, hp⟩ : ∃ p, p = marksF own := ⟨_, rfl⟩
            have hml := marksF_len own
            rw [← hp] at hr HAL2 hff hml
            have HLEN : Hid (p.1.length ≤ 1000000) := by show _ ≤ _; omega
            clear hml
            have HFF := Lib.hid hff
            clear hA hp HAL HDD hff hback
            obtain ⟨aa, ca, La, hra, hla, hata, hatsa⟩ := marks_slice hr HFF.out
            have HLA := Lib.hid hla
            have HATa := Lib.hid hata
            have HATSa := Lib.hid hatsa
            have HB34 := Lib.hid hb3
            clear hr hb3 hla hata hatsa
            subst hra
            dsimp only
            go_wp2_with fail
            refine HAL2.out.mono ?_
            rintro r W4 ⟨hr, hb4⟩
            obtain ⟨ab, cb, Lb, hrb, hlb, hatb, hatsb⟩ := marks_slice hr HFF.out
            have HB4 := Lib.hid (belowCall HB3.out hb4)
            have HATa4 := Lib.hid (HATa.out.below hb4)
            have HATSa4 := Lib.hid (HATSa.out.below hb4)
            have HLE := Lib.hid (HLA.out.trans hlb.symm)
            have HATb := Lib.hid hatb
            have HATSb := Lib.hid hatsb
            clear hr hb4 hlb hatb hatsb
            subst hrb
            have hlen : La.length ≤ 10000000000 := by
              have h1 := congrArg List.length HLA.out
              rw [List.length_map] at h1
              have := HLEN.out
              omega
            dsimp only
            go_wp2_with fail
            refine (Same_true HLE.out aa ab ca cb W4 HATa4.out HATSa4.out HATb.out HATSb.out hlen).mono ?_
            rintro r W5 ⟨rfl, hb5⟩
            have HB5 := Lib.hid (belowCall HB4.out hb5)
            clear hb5
            dsimp only
            go_wp2_with fail
            go_ret
            exact ⟨rfl, HB5.out⟩
      · clear hor2
        go_wp2_with fail
        go_loopw [8, 9, 10] (fun v nv i wi => ∃ (q n : Nat) (O : Str), q ≤ own.length ∧ n ≤ q ∧ i = .int .i64 q ∧ nv = .int .i64 n ∧ wi.ownsRow W2.heap.size 5 1 v O.length (bytesV O) ∧ Odd own O q ∧ Below W2.heap.size W2 wi) (fun _ _ i _ => own.length - (intOf i).toNat)
        case atStart => exact ⟨0, 0, [], Nat.zero_le _, Nat.zero_le _, rfl, rfl, World.ownsRow_nil _ _ _ _, Odd.start _, Below.refl _ _⟩
        case round =>
          obtain ⟨q, n, O, hq, hnq, rfl, rfl, ho, hod, hbi⟩ := hrel
          have HO := Lib.hid ho
          have HD := Lib.hid hod
          have HBi := Lib.hid hbi
          have HZi := Lib.hid hbi.size
          have hol := hod.len
          clear ho hod hbi
          by_cases hql : q < own.length
          · obtain ⟨b, o, rfl, hbw, c0⟩ := byte_cells (HAT.out.below HBi.out) hql
            by_cases h10 : own[q] = 10
            · have hcT : ((own[q].toNat : Int) != 10) = false := by rw [h10]; decide
              have HD1 := Lib.hid (HD.out.one hql HNO.out h10)
              have HD2 := Lib.hid (HD.out.two hql HNO.out h10)
              have HD3 := Lib.hid (fun hn => HD.out.back hql HNO.out h10 hn)
              have b1 : O.length + 1 ≤ maxLen := by unfold maxLen; omega
              have b2 : (O.length + 1) * 1 ≤ 140737488355328 := by omega
              clear h10
              by_cases hl0 : l.length = 0
              · have hl1 : ¬ (0 : Int) < (l.length : Int) := by omega
                clear hl0
                have HQ := Lib.hid (HO.out.alloc (.cells #[.int .u8 10] 5))
                have HZ2 := Lib.hid (show W2.heap.size ≤ (wr.alloc (.cells #[.int .u8 10] 5)).heap.size from by have := HZi.out; simp; omega)
                go_wp2_with (at_builtin; go_must (refine wpList_append_slice _ rfl _ _ 44 rfl W2.heap.size 5 i0 _ 1 1 Try.underlying44 hi hz0 hz1 hz2 rfl (by decide) _ O.length (bytesV O) rfl HQ.out (some ⟨wr.heap.size, 0, none⟩) 1 1 (bytesV [10]) rfl rfl (fun h => by cases h) (at_alloc rfl rfl) (bytesV_one' _) b1 b2 HZ2.out ?_; intro v3 w3 hown3 hgr3; have HO3 := Lib.hid hown3; have HG3 := Lib.hid hgr3; clear hown3 hgr3))
                go_roundw
                case rel => exact ⟨q + 1, n + 1, O ++ [10], by omega, by omega, by go_num, by go_num, by rw [bytesV_app, List.length_append]; exact HO3.out, HD1.out, (HBi.out.alloc HZi.out _).grown HG3.out HZ2.out (own_base_ge HQ.out)⟩
                case measure => simp [intOf]; omega
              · have hl1 : (0 : Int) < (l.length : Int) := by omega
                have hj : n % l.length < l.length := Nat.mod_lt _ (by omega)
                obtain ⟨b', o', rfl, hbw', c1⟩ := int_cells (HA2.out.below HBi.out) hj
                obtain ⟨z, hz3, hzz⟩ := bits_le (l[n % l.length]) 3 3 (by decide) (by decide)
                rcases (show z = 0 ∨ z = 1 ∨ z = 2 ∨ z = 3 by omega) with rfl | rfl | rfl | rfl
                · have HQ := Lib.hid (HO.out.alloc (.cells #[.int .u8 10] 5))
                  have HZ2 := Lib.hid (show W2.heap.size ≤ (wr.alloc (.cells #[.int .u8 10] 5)).heap.size from by have := HZi.out; simp; omega)
                  go_wp2_with (at_builtin; go_must (refine wpList_append_slice _ rfl _ _ 44 rfl W2.heap.size 5 i0 _ 1 1 Try.underlying44 hi hz0 hz1 hz2 rfl (by decide) _ O.length (bytesV O) rfl HQ.out (some ⟨wr.heap.size, 0, none⟩) 1 1 (bytesV [10]) rfl rfl (fun h => by cases h) (at_alloc rfl rfl) (bytesV_one' _) b1 b2 HZ2.out ?_; intro v3 w3 hown3 hgr3; have HO3 := Lib.hid hown3; have HG3 := Lib.hid hgr3; clear hown3 hgr3))
                  go_roundw
                  case rel => exact ⟨q + 1, n + 1, O ++ [10], by omega, by omega, by go_num, by go_num, by rw [bytesV_app, List.length_append]; exact HO3.out, HD1.out, (HBi.out.alloc HZi.out _).grown HG3.out HZ2.out (own_base_ge HQ.out)⟩
                  case measure => simp [intOf]; omega
                · have b1 : O.length + 2 ≤ maxLen := by unfold maxLen; omega
                  have b2 : (O.length + 2) * 1 ≤ 140737488355328 := by omega
                  have HQ := Lib.hid (HO.out.alloc (.cells #[.int .u8 13, .int .u8 10] 5))
                  have HZ2 := Lib.hid (show W2.heap.size ≤ (wr.alloc (.cells #[.int .u8 13, .int .u8 10] 5)).heap.size from by have := HZi.out; simp; omega)
                  go_wp2_with (at_builtin; go_must (refine wpList_append_slice _ rfl _ _ 44 rfl W2.heap.size 5 i0 _ 1 1 Try.underlying44 hi hz0 hz1 hz2 rfl (by decide) _ O.length (bytesV O) rfl HQ.out (some ⟨wr.heap.size, 0, none⟩) 2 2 (bytesV [13, 10]) rfl rfl (fun h => by cases h) (at_alloc rfl rfl) (bytesV_one' _) b1 b2 HZ2.out ?_; intro v3 w3 hown3 hgr3; have HO3 := Lib.hid hown3; have HG3 := Lib.hid hgr3; clear hown3 hgr3))
                  go_roundw
                  case rel => exact ⟨q + 1, n + 1, O ++ [13, 10], by omega, by omega, by go_num, by go_num, by rw [bytesV_app, List.length_append]; exact HO3.out, HD2.out, (HBi.out.alloc HZi.out _).grown HG3.out HZ2.out (own_base_ge HQ.out)⟩
                  case measure => simp [intOf]; omega
                · by_cases hend : q + 1 = own.length
                  · have hend1 : (q : Int) + 1 = (own.length : Int) := by omega
                    have HD3' := Lib.hid (HD3.out (fun c hc => by rw [List.getElem?_eq_none (by omega)] at hc; cases hc))
                    have HQ := Lib.hid (HO.out.alloc (.cells #[.int .u8 13] 5))
                    have HZ2 := Lib.hid (show W2.heap.size ≤ (wr.alloc (.cells #[.int .u8 13] 5)).heap.size from by have := HZi.out; simp; omega)
                    go_wp2_with (at_builtin; go_must (refine wpList_append_slice _ rfl _ _ 44 rfl W2.heap.size 5 i0 _ 1 1 Try.underlying44 hi hz0 hz1 hz2 rfl (by decide) _ O.length (bytesV O) rfl HQ.out (some ⟨wr.heap.size, 0, none⟩) 1 1 (bytesV [13]) rfl rfl (fun h => by cases h) (at_alloc rfl rfl) (bytesV_one' _) b1 b2 HZ2.out ?_; intro v3 w3 hown3 hgr3; have HO3 := Lib.hid hown3; have HG3 := Lib.hid hgr3; clear hown3 hgr3))
                    go_roundw
                    case rel => exact ⟨q + 1, n + 1, O ++ [13], by omega, by omega, by go_num, by go_num, by rw [bytesV_app, List.length_append]; exact HO3.out, HD3'.out, (HBi.out.alloc HZi.out _).grown HG3.out HZ2.out (own_base_ge HQ.out)⟩
                    case measure => simp [intOf]; omega
                  · have hqn : q + 1 < own.length := by omega
                    have hend1 : ¬ (q : Int) + 1 = (own.length : Int) := by omega
                    obtain ⟨b'', o'', hbe, hbw'', c2⟩ := byte_cells (HAT.out.below HBi.out) hqn
                    cases hbe
                    by_cases h11 : own[q + 1] = 10
                    · have hcU : ((own[q + 1].toNat : Int) != 10) = false := by rw [h11]; decide
                      have HQ := Lib.hid (HO.out.alloc (.cells #[.int .u8 10] 5))
                      have HZ2 := Lib.hid (show W2.heap.size ≤ (wr.alloc (.cells #[.int .u8 10] 5)).heap.size from by have := HZi.out; simp; omega)
                      go_wp2_with (at_builtin; go_must (refine wpList_append_slice _ rfl _ _ 44 rfl W2.heap.size 5 i0 _ 1 1 Try.underlying44 hi hz0 hz1 hz2 rfl (by decide) _ O.length (bytesV O) rfl HQ.out (some ⟨wr.heap.size, 0, none⟩) 1 1 (bytesV [10]) rfl rfl (fun h => by cases h) (at_alloc rfl rfl) (bytesV_one' _) b1 b2 HZ2.out ?_; intro v3 w3 hown3 hgr3; have HO3 := Lib.hid hown3; have HG3 := Lib.hid hgr3; clear hown3 hgr3))
                      go_roundw
                      case rel => exact ⟨q + 1, n + 1, O ++ [10], by omega, by omega, by go_num, by go_num, by rw [bytesV_app, List.length_append]; exact HO3.out, HD1.out, (HBi.out.alloc HZi.out _).grown HG3.out HZ2.out (own_base_ge HQ.out)⟩
                      case measure => simp [intOf]; omega
                    · have hcU : ((own[q + 1].toNat : Int) != 10) = true := by
                        have : ((own[q + 1].toNat : Int) == 10) = false := byte_ne (c := 10) h11
                        rw [bne, this]; rfl
                      have HD3' := Lib.hid (HD3.out (fun c hc => by rw [List.getElem?_eq_getElem hqn] at hc; cases hc; exact h11))
                      have HQ := Lib.hid (HO.out.alloc (.cells #[.int .u8 13] 5))
                      have HZ2 := Lib.hid (show W2.heap.size ≤ (wr.alloc (.cells #[.int .u8 13] 5)).heap.size from by have := HZi.out; simp; omega)
                      go_wp2_with (at_builtin; go_must (refine wpList_append_slice _ rfl _ _ 44 rfl W2.heap.size 5 i0 _ 1 1 Try.underlying44 hi hz0 hz1 hz2 rfl (by decide) _ O.length (bytesV O) rfl HQ.out (some ⟨wr.heap.size, 0, none⟩) 1 1 (bytesV [13]) rfl rfl (fun h => by cases h) (at_alloc rfl rfl) (bytesV_one' _) b1 b2 HZ2.out ?_; intro v3 w3 hown3 hgr3; have HO3 := Lib.hid hown3; have HG3 := Lib.hid hgr3; clear hown3 hgr3))
                      go_roundw
                      case rel => exact ⟨q + 1, n + 1, O ++ [13], by omega, by omega, by go_num, by go_num, by rw [bytesV_app, List.length_append]; exact HO3.out, HD3'.out, (HBi.out.alloc HZi.out _).grown HG3.out HZ2.out (own_base_ge HQ.out)⟩
                      case measure => simp [intOf]; omega
                · have HQ := Lib.hid (HO.out.alloc (.cells #[.int .u8 10] 5))
                  have HZ2 := Lib.hid (show W2.heap.size ≤ (wr.alloc (.cells #[.int .u8 10] 5)).heap.size from by have := HZi.out; simp; omega)
                  go_wp2_with (at_builtin; go_must (refine wpList_append_slice _ rfl _ _ 44 rfl W2.heap.size 5 i0 _ 1 1 Try.underlying44 hi hz0 hz1 hz2 rfl (by decide) _ O.length (bytesV O) rfl HQ.out (some ⟨wr.heap.size, 0, none⟩) 1 1 (bytesV [10]) rfl rfl (fun h => by cases h) (at_alloc rfl rfl) (bytesV_one' _) b1 b2 HZ2.out ?_; intro v3 w3 hown3 hgr3; have HO3 := Lib.hid hown3; have HG3 := Lib.hid hgr3; clear hown3 hgr3))
                  go_roundw
                  case rel => exact ⟨q + 1, n + 1, O ++ [10], by omega, by omega, by go_num, by go_num, by rw [bytesV_app, List.length_append]; exact HO3.out, HD1.out, (HBi.out.alloc HZi.out _).grown HG3.out HZ2.out (own_base_ge HQ.out)⟩
                  case measure => simp [intOf]; omega
            · have hcT : ((own[q].toNat : Int) != 10) = true := by
                have : ((own[q].toNat : Int) == 10) = false := byte_ne (c := 10) h10
                rw [bne, this]; rfl
              have HD2 := Lib.hid (HD.out.plain hql HNO.out h10)
              have b1 : O.length + 1 ≤ maxLen := by unfold maxLen; omega
              have b2 : (O.length + 1) * 1 ≤ 140737488355328 := by omega
              generalize own[q] = x at *
              have HQ := Lib.hid (HO.out.alloc (.cells #[.int .u8 (x.toNat : Nat)] 5))
              have HZ2 := Lib.hid (show W2.heap.size ≤ (wr.alloc (.cells #[.int .u8 (x.toNat : Nat)] 5)).heap.size from by have := HZi.out; simp; omega)
              clear h10
              go_wp2_with (at_builtin; go_must (refine wpList_append_slice _ rfl _ _ 44 rfl W2.heap.size 5 i0 _ 1 1 Try.underlying44 hi hz0 hz1 hz2 rfl (by decide) _ O.length (bytesV O) rfl HQ.out (some ⟨wr.heap.size, 0, none⟩) 1 1 (bytesV [x]) rfl rfl (fun h => by cases h) (at_alloc rfl rfl) (bytesV_one' _) b1 b2 HZ2.out ?_; intro v3 w3 hown3 hgr3; have HO3 := Lib.hid hown3; have HG3 := Lib.hid hgr3; clear hown3 hgr3))
              go_roundw
              case rel => exact ⟨q + 1, n, O ++ [x], by omega, by omega, by go_num, rfl, by rw [bytesV_app, List.length_append]; exact HO3.out, HD2.out, (HBi.out.alloc HZi.out _).grown HG3.out HZ2.out (own_base_ge HQ.out)⟩
              case measure => simp [intOf]; omega
          · obtain rfl : q = own.length := by omega
            have HO1 := Lib.hid (own_below HOW.out HBi.out)
            have HMi := Lib.hid (max_below HM2.out HBi.out)
            have HBj := Lib.hid (HB2.out.trans (HBi.out.mono HB2.out.size))
            have hback := text_own (P := Try.prog) Try.underlying44 Try.underlying5 Try.underlying9 HO1.out
            have hsz : (strB own).size ≤ 100000000 := by rw [strB_size]; omega
            have hA := Marks_all (strB own) y wr HMi.out hsz
            rw [toList_strB] at hA
            have HAL := Lib.hid hA
            have hsz2 : (strB O).size ≤ 100000000 := by rw [strB_size]; omega
            have HDD := Lib.hid HD.out.done
            clear hA hq
            go_wp2_with fail
            refine HAL.out.mono ?_
            rintro r W3 ⟨hr, hb3⟩
            have HB3 := Lib.hid (belowCall HBj.out hb3)
            have HM3 := Lib.hid (max_below HMi.out hb3)
            have HO3 := Lib.hid (own_below HO.out hb3)
            have hback2 := text_own (P := Try.prog) Try.underlying44 Try.underlying5 Try.underlying9 HO3.out
            have hA := Marks_all (strB O) y W3 HM3.out hsz2
            rw [toList_strB, HDD.out] at hA
            have HAL2 := Lib.hid hA
            have hff := (marksF_ok own).2.1
            obtain ⟨p, hp⟩ : ∃ p, p = marksF own := ⟨_, rfl⟩
            have hml := marksF_len own
            rw [← hp] at hr HAL2 hff hml
            have HLEN : Hid (p.1.length ≤ 1000000) := by show _ ≤ _; omega
            clear hml
            have HFF := Lib.hid hff
            clear hA hp HAL HDD hff hback
            obtain ⟨aa, ca, La, hra, hla, hata, hatsa⟩ := marks_slice hr HFF.out
            have HLA := Lib.hid hla
            have HATa := Lib.hid hata
            have HATSa := Lib.hid hatsa
            have HB34 := Lib.hid hb3
            clear hr hb3 hla hata hatsa
            subst hra
            dsimp only
            go_wp2_with fail
            refine HAL2.out.mono ?_
            rintro r W4 ⟨hr, hb4⟩
            obtain ⟨ab, cb, Lb, hrb, hlb, hatb, hatsb⟩ := marks_slice hr HFF.out
            have HB4 := Lib.hid (belowCall HB3.out hb4)
            have HATa4 := Lib.hid (HATa.out.below hb4)
            have HATSa4 := Lib.hid (HATSa.out.below hb4)
            have HLE := Lib.hid (HLA.out.trans hlb.symm)
            have HATb := Lib.hid hatb
            have HATSb := Lib.hid hatsb
            clear hr hb4 hlb hatb hatsb
            subst hrb
            have hlen : La.length ≤ 10000000000 := by
              have h1 := congrArg List.length HLA.out
              rw [List.length_map] at h1
              have := HLEN.out
              omega
            dsimp only
            go_wp2_with fail
            refine (Same_true HLE.out aa ab ca cb W4 HATa4.out HATSa4.out HATb.out HATSb.out hlen).mono ?_
            rintro r W5 ⟨rfl, hb5⟩
            have HB5 := Lib.hid (belowCall HB4.out hb5)
            clear hb5
            dsimp only
            go_wp2_with fail
            go_ret
            exact ⟨rfl, HB5.out⟩
end Go.Proofs.Ytbabcohidpcjjaa
