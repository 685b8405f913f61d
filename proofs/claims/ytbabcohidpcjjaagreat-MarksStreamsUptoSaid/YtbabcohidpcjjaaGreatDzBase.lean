import Derived.Test.YtbabcohidpcjjaaGreatZMkBase
import Derived.Test.YtbabcohidpcjjaaGreatZPl
/-
  Contracts: the document's reader's small functions: Small, Space, letter, stands, first. (Seat 4's '.Z'.)
-/
namespace Go.Proofs.YtbabcohidpcjjaaGreat
open Go.RowKit Mem

theorem dSpace_any (c : UInt8) (w : World) : Calls Tryz.prog 44 #[.int .u8 c.toNat] w fun e w' => e = .returned (.bool (spaceB c)) ∧ w = w' := by
  have HS := Lib.hid (spaceB_nat c)
  have hc := c.toNat_lt
  generalize c.toNat = n at *
  go_enter Tryz.func44, Tryz.ntmps44
  go_wp2
  all_goals go_ret
  all_goals exact ⟨ret_bool (by rw [HS.out]; first | done | simp [*]), rfl⟩
theorem ret_int {k : IntKind} {a b : Int} (h : a = b) : Ending.returned (.int k a) = Ending.returned (.int k b) := by rw [h]
theorem Small09_any (c : UInt8) (w : World) : Calls Tryz.prog 55 #[.int .u8 c.toNat] w fun e w' => e = .returned (.int .u8 (lowB c).toNat) ∧ w = w' := by
  have HL := Lib.hid (lowB_nat c)
  have hc := c.toNat_lt
  generalize ((lowB c).toNat : Int) = k at *
  generalize c.toNat = n at *
  go_enter Tryz.func55, Tryz.ntmps55
  go_wp2
  all_goals go_ret
  all_goals exact ⟨ret_int (by rw [HL.out]; first | (rw [if_pos (by omega)]; omega) | (rw [if_neg (by omega)])), rfl⟩
/-- a letter at a place -/
def letterP (s : Str) (i : Nat) : Bool := match s[i]? with
  | none => false
  | some c => letterB c
theorem low_letterB (c : UInt8) : (decide (97 ≤ ((lowB c).toNat : Int)) && decide (((lowB c).toNat : Int) ≤ 122)) = letterB c := by
  rw [letterB_nat, Bool.eq_iff_iff, lowB_nat]
  simp only [Bool.and_eq_true, decide_eq_true_eq]
  split <;> omega
theorem raw_byte {T : ByteArray} {k : Nat} (h : k < T.size) : T.toList[k]? = some T[k] := by
  have hd := drop_byte T k h
  have h0 : (T.toList.drop k)[0]? = some T[k] := by rw [hd]; rfl
  rw [List.getElem?_drop] at h0
  exact h0
theorem dletter_any (s : ByteArray) (i : Nat) (w : World) (_ : s.size ≤ 4294967296) (_ : i ≤ 4294967300) : Calls Tryz.prog 45 #[.string s, .int .i64 i] w fun e w' => e = .returned (.bool (letterP s.toList i)) ∧ w = w' := by
  by_cases h : i < s.size
  · have HV : Hid (letterP s.toList i = letterB s[i]) := by show _ = _; unfold letterP; rw [raw_byte h]
    have HL := Lib.hid (low_letterB s[i])
    have HS := Lib.hid (fun u => Small09_any s[i] u)
    have hiz : ¬ (s.size : Int) ≤ (i : Int) := by omega
    go_enter Tryz.func45, Tryz.ntmps45
    go_wp2_with fail
    refine (HS.out _).mono ?_
    rintro e w1 ⟨rfl, rfl⟩
    rw [← HL.out] at HV
    generalize (lowB s[i]).toNat = k at *
    dsimp only
    go_wp2_with fail
    all_goals go_ret
    all_goals exact ⟨ret_bool (by rw [HV.out, ← Bool.decide_and]; first | exact (decide_eq_true (by omega)).symm | exact (decide_eq_false (by omega)).symm | exact decide_eq_decide.2 (by omega)), rfl⟩
  · have HV : Hid (letterP s.toList i = false) := by show _ = _; unfold letterP; rw [List.getElem?_eq_none (by rw [size_toList]; omega)]
    have hiz : (s.size : Int) ≤ (i : Int) := by omega
    go_enter Tryz.func45, Tryz.ntmps45
    go_wp2_with fail
    go_ret
    exact ⟨ret_bool HV.out.symm, rfl⟩
/-- a word at the front, small: capital letters taken for small ones -/
def standP (small : Bool) (w s : Str) : Bool := w.isPrefixOf (if small then lowS s else s)
def lowIf (small : Bool) (c : UInt8) : UInt8 := if small then lowB c else c
theorem lowIf_get (small : Bool) (s : Str) (k : Nat) : (if small then lowS s else s)[k]? = s[k]?.map (lowIf small) := by
  cases small
  · unfold lowIf; simp
  · unfold lowIf lowS; simp
theorem stand_len {small : Bool} {w s : Str} (h : s.length < w.length) : standP small w s = false := by
  rw [Bool.eq_false_iff]
  intro hp
  have := (List.isPrefixOf_iff_prefix.1 hp).length_le
  cases small
  · simp only [Bool.false_eq_true, if_false] at this; omega
  · simp only [if_true, lowS, List.length_map] at this; omega
theorem stand_all {small : Bool} {w s : Str} (h : ∀ k, k < w.length → s[k]?.map (lowIf small) = w[k]?) : standP small w s = true := by
  unfold standP
  rw [List.isPrefixOf_iff_prefix, List.prefix_iff_getElem?]
  intro k hk
  rw [lowIf_get, h k hk, List.getElem?_eq_getElem hk]
theorem stand_miss {small : Bool} {w s : Str} {k : Nat} {a b : UInt8} (ha : s[k]? = some a) (hb : w[k]? = some b) (hne : lowIf small a ≠ b) : standP small w s = false := by
  rw [Bool.eq_false_iff]
  intro hp
  obtain ⟨hk, hb⟩ := List.getElem?_eq_some_iff.1 hb
  have := List.prefix_iff_getElem?.1 (List.isPrefixOf_iff_prefix.1 hp) k hk
  rw [lowIf_get, ha, hb] at this
  exact hne (Option.some.inj this)
set_option maxHeartbeats 2000000 in
theorem stands_any (s : ByteArray) (i : Nat) (word : ByteArray) (small : Bool) (w : World) (hs : s.size ≤ 4294967296) (hw : word.size ≤ 4294967296) (hi : i ≤ s.size) :
    Calls Tryz.prog 43 #[.string s, .int .i64 i, .string word, .bool small] w fun e w' => e = .returned (.bool (standP small word.toList (s.toList.drop i))) ∧ w = w' := by
  obtain ⟨v, hv⟩ : ∃ v, v = standP small word.toList (s.toList.drop i) := ⟨_, rfl⟩
  rw [← hv]
  have HV := Lib.hid hv
  clear hv
  by_cases hlen : s.size - i < word.size
  · have hli : (s.size : Int) - (i : Int) < (word.size : Int) := by omega
    go_enter Tryz.func43, Tryz.ntmps43
    go_wp2_with fail
    go_ret
    exact ⟨ret_bool (by rw [HV.out, stand_len (by rw [List.length_drop, size_toList, size_toList]; exact hlen)]), rfl⟩
  · have hli : ¬ (s.size : Int) - (i : Int) < (word.size : Int) := by omega
    go_enter Tryz.func43, Tryz.ntmps43
    go_wp2_with fail
    go_loopw [9] (fun kv wr => ∃ k : Nat, k ≤ word.size ∧ kv = .int .i64 k ∧ (∀ j, j < k → (s.toList.drop i)[j]?.map (lowIf small) = word.toList[j]?) ∧ w = wr) (fun kv _ => word.size - (intOf kv).toNat)
    case atStart => exact ⟨0, Nat.zero_le _, rfl, fun j hj => absurd hj (Nat.not_lt_zero j), rfl⟩
    case round =>
      obtain ⟨k, hk, rfl, hall, rfl⟩ := hrel
      have HALL := Lib.hid hall
      clear hall
      by_cases hkw : k < word.size
      · have hik : i + k < s.size := by omega
        have hikl : (i : Int) + (k : Int) < (s.size : Int) := by omega
        have HA : Hid ((s.toList.drop i)[k]? = some s[i + k]) := by show _ = _; rw [List.getElem?_drop]; exact raw_byte hik
        have HB := Lib.hid (raw_byte hkw)
        have HS := Lib.hid (fun u => Small09_any s[i + k] u)
        by_cases heq : lowIf small s[i + k] = word[k]
        · have hc : (((lowIf small s[i + k]).toNat : Int) != (word[k].toNat : Int)) = false := by rw [heq]; simp
          have HN : Hid (∀ j, j < k + 1 → (s.toList.drop i)[j]?.map (lowIf small) = word.toList[j]?) := fun j hj => by
            rcases Nat.lt_or_ge j k with h | h
            · exact HALL.out j h
            · obtain rfl : j = k := by omega
              rw [HA.out, HB.out, Option.map_some, heq]
          clear heq
          cases small
          · have hc' : ((s[i + k].toNat : Int) != (word[k].toNat : Int)) = _ := hc
            clear hc
            go_wp2_with fail
            go_roundw
            case rel => exact ⟨k + 1, by omega, by go_num, HN.out, by first | rfl | trivial⟩
            case measure => simp [intOf]; omega
          · have hc' : (((lowB s[i + k]).toNat : Int) != (word[k].toNat : Int)) = _ := hc
            clear hc
            go_wp2_with fail
            refine (HS.out _).mono ?_
            rintro e w1 ⟨rfl, rfl⟩
            dsimp only
            go_wp2_with fail
            go_roundw
            case rel => exact ⟨k + 1, by omega, by go_num, HN.out, by first | rfl | trivial⟩
            case measure => simp [intOf]; omega
        · have hc : (((lowIf small s[i + k]).toNat : Int) != (word[k].toNat : Int)) = true := by
            have : lowIf small s[i + k] ≠ word[k] := heq
            rw [bne_iff_ne]
            intro e
            exact this (UInt8.toNat_inj.1 (by omega))
          have HF := Lib.hid (stand_miss HA.out HB.out heq)
          clear heq
          cases small
          · have hc' : ((s[i + k].toNat : Int) != (word[k].toNat : Int)) = _ := hc
            clear hc
            go_wp2_with fail
            go_ret
            exact ⟨ret_bool (by rw [HV.out, HF.out]), rfl⟩
          · have hc' : (((lowB s[i + k]).toNat : Int) != (word[k].toNat : Int)) = _ := hc
            clear hc
            go_wp2_with fail
            refine (HS.out _).mono ?_
            rintro e w1 ⟨rfl, rfl⟩
            dsimp only
            go_wp2_with fail
            go_ret
            exact ⟨ret_bool (by rw [HV.out, HF.out]), rfl⟩
      · obtain rfl : k = word.size := by omega
        go_wp2_with fail
        go_ret
        exact ⟨ret_bool (by rw [HV.out, stand_all (fun j hj => HALL.out j (by rw [size_toList] at hj; exact hj))]), rfl⟩
end Go.Proofs.YtbabcohidpcjjaaGreat

/-
  Contract: the document's first: the first place of a word. (Seat 4's '.Z'.)
-/
namespace Go.Proofs.YtbabcohidpcjjaaGreat
open Go.RowKit Mem

/-- how many bytes lie ahead of a word's first place (all, if there is none) -/
def firstN (w : Str) : Str → Nat
  | [] => 0
  | c :: r => if w.isPrefixOf (c :: r) then 0 else firstN w r + 1
theorem firstN_le (w : Str) : ∀ s, firstN w s ≤ s.length
  | [] => Nat.le_refl _
  | c :: r => by
    have := firstN_le w r
    rw [firstN, List.length_cons]
    split <;> omega
theorem firstN_hit {w s : Str} (h : w.isPrefixOf s = true) (hs : s ≠ []) : firstN w s = 0 := by
  match s, hs with
  | c :: r, _ => rw [firstN, if_pos h]
theorem firstN_next {w : Str} {s : ByteArray} {k : Nat} (hk : k < s.size) (h : w.isPrefixOf (s.toList.drop k) = false) : firstN w (s.toList.drop k) = firstN w (s.toList.drop (k + 1)) + 1 := by
  have hd := drop_byte s k hk
  rw [hd] at h ⊢
  rw [firstN, h]
  rfl
set_option maxHeartbeats 2000000 in
theorem first_any (s : ByteArray) (i : Nat) (word : ByteArray) (w : World) (hs : s.size ≤ 4294967296) (hw : word.size ≤ 4294967296) (hi : i ≤ s.size) :
    Calls Tryz.prog 33 #[.string s, .int .i64 i, .string word] w fun e w' => e = .returned (.int .i64 ((i + firstN word.toList (s.toList.drop i) : Nat) : Int)) ∧ w = w' := by
  obtain ⟨v, hv⟩ : ∃ v, v = i + firstN word.toList (s.toList.drop i) := ⟨_, rfl⟩
  rw [← hv]
  have HV := Lib.hid hv
  clear hv
  go_enter Tryz.func33, Tryz.ntmps33
  go_wp2_with fail
  go_loopw [1] (fun iv wr => ∃ k : Nat, k ≤ s.size ∧ iv = .int .i64 k ∧ k + firstN word.toList (s.toList.drop k) = v ∧ w = wr) (fun iv _ => s.size - (intOf iv).toNat)
  case atStart => exact ⟨i, hi, rfl, HV.out.symm, rfl⟩
  case round =>
    obtain ⟨k, hk, rfl, hkv, rfl⟩ := hrel
    have HK := Lib.hid hkv
    clear hkv
    by_cases hks : k < s.size
    · have hS := fun u => stands_any s k word false u hs hw hk
      rw [show standP false word.toList (s.toList.drop k) = word.toList.isPrefixOf (s.toList.drop k) from rfl] at hS
      have hne : s.toList.drop k ≠ [] := fun e => by rw [drop_byte s k hks] at e; cases e
      cases hp : word.toList.isPrefixOf (s.toList.drop k)
      · have HN := Lib.hid (firstN_next hks hp)
        rw [hp] at hS
        have HS := Lib.hid hS
        clear hS hp hne
        go_wp2_with fail
        refine (HS.out _).mono ?_
        rintro e w1 ⟨rfl, rfl⟩
        dsimp only
        go_wp2_with fail
        go_roundw
        case rel => exact ⟨k + 1, by omega, by go_num, by have := HN.out; have := HK.out; omega, by first | rfl | trivial⟩
        case measure => simp [intOf]; omega
      · have HN := Lib.hid (firstN_hit hp hne)
        rw [hp] at hS
        have HS := Lib.hid hS
        have hmin : min (k : Int) (s.size : Int) = (k : Int) := by omega
        clear hS hp hne
        go_wp2_with fail
        refine (HS.out _).mono ?_
        rintro e w1 ⟨rfl, rfl⟩
        dsimp only
        go_wp2_with fail
        go_ret
        exact ⟨ret_int (by have := HN.out; have := HK.out; omega), by first | rfl | trivial⟩
    · have hmin : min (k : Int) (s.size : Int) = (k : Int) := by omega
      have HN : Hid (firstN word.toList (s.toList.drop k) = 0) := by
        show _ = _
        rw [List.drop_of_length_le (by rw [size_toList]; omega)]
        rfl
      go_wp2_with fail
      go_ret
      exact ⟨ret_int (by have := HN.out; have := HK.out; omega), by first | rfl | trivial⟩
end Go.Proofs.YtbabcohidpcjjaaGreat

/-
  Contract: the document's Lower: a text in small letters. (Seat 4's '.Z'.)
-/
namespace Go.Proofs.YtbabcohidpcjjaaGreat
open Go.RowKit Mem

set_option maxHeartbeats 400000 in
theorem Lower_any (s : ByteArray) (w : World) (hs : s.size ≤ maxLen) :
    Calls Tryz.prog 60 #[.string s] w fun e w' => e = .returned (.string ⟨(lowS s.toList).toArray⟩) ∧ Below w.heap.size w w' := by
  obtain ⟨c, W, hconv, hb, hsz, hrow, hcc⟩ := run_bytes_of (P := Tryz.prog) w 9 74 5 s Tryz.underlying9 Tryz.underlying74 Tryz.underlying5
  have hsl := size_toList s
  unfold maxLen at hs
  have HB := Lib.hid hb
  have HR := Lib.hid hrow
  have HZ := Lib.hid hsz
  have HL := Lib.hid hsl
  clear hb hrow hsz hsl
  go_enter Tryz.func60, Tryz.ntmps60
  go_wp2
  go_loopw [4] (fun i wr => ∃ k : Nat, k ≤ s.size ∧ i = .int .i64 k ∧ Below w.heap.size w wr ∧ w.heap.size < wr.heap.size ∧ Row wr w.heap.size (bytesV (mixS k s.toList))) (fun i _ => s.size - (intOf i).toNat)
  case atStart => exact ⟨0, Nat.zero_le _, rfl, HB.out, by rw [HZ.out]; omega, by rw [mixS_zero]; exact HR.out⟩
  case round =>
    obtain ⟨k, hk, rfl, hb, hz, hr⟩ := hrel
    clear hconv HB HR HZ
    by_cases hlt : k < s.size
    · have hkl : k < s.toList.length := by rw [HL.out]; exact hlt
      obtain ⟨x, hx⟩ : ∃ x : Nat, x = s.toList[k].toNat := ⟨_, rfl⟩
      have hx255 : x ≤ 255 := by have := s.toList[k].toNat_lt; omega
      have hcell : wr.cell? ⟨w.heap.size, k, none⟩ = some (.int .u8 x) := by rw [hx]; exact hr.cell (bytesV_mix_get k _ hkl)
      have hfz : wr.frozen? ⟨w.heap.size, k, none⟩ = false := hr.frozen (by rw [bytesV_length, mixS_length]; exact hkl)
      have hl := lowB_nat s.toList[k]
      rw [← hx] at hl
      have HX : Hid (((lowB s.toList[k]).toNat : Int) = smallI x) := hl
      have HX2 := Lib.hid hx
      have HB := Lib.hid hb
      have HR := Lib.hid hr
      clear hl hx hb hr
      go_wp2_with (go_at_call 55; refine (Small_any _ _ (by omega) (by omega)).mono ?_; rintro e w' ⟨rfl, rfl⟩)
      go_roundw
      case rel =>
        exact ⟨k + 1, by omega, by go_num, HB.out.setCell (Nat.le_refl _) _, by rw [World.size_setCell]; exact hz, by
          rw [← bytesV_mix_succ k _ hkl (.int .u8 (smallI x)) (by rw [HX.out])]
          exact HR.out.set k _⟩
      case measure => simp [intOf]; omega
    · obtain rfl : k = s.size := by omega
      have hback := run_string_of (P := Tryz.prog) wr 74 9 5 w.heap.size c (mixS s.size s.toList) s.size (by rw [mixS_length, HL.out]) Tryz.underlying74 Tryz.underlying5 Tryz.underlying9 hr
      have HB := Lib.hid hb
      clear hb hr
      go_wp2
      go_ret
      refine ⟨ret_string ?_, HB.out⟩
      rw [← HL.out, mixS_all]
end Go.Proofs.YtbabcohidpcjjaaGreat

/-
  The document's reader in memory; contract: Set: the mode. (Seat 4's '.Z'.)
-/
namespace Go.Proofs.YtbabcohidpcjjaaGreat
open Go.RowKit Mem

/-- the document's reader -/
structure DocD where
  text : ByteArray
  pos : Nat
  mode : Int
  name : Str
  cdata : Bool
  err : Int
def docV (d : DocD) : List Value := [.string d.text, .int .i64 d.pos, .int .i64 d.mode, .string (strB d.name), .bool d.cdata, .int .i64 d.err]
theorem doc_row {w : World} {b : Nat} {d : DocD} (h : Row w b (docV d)) : w.cell? ⟨b, 0, none⟩ = some (.string d.text) ∧ w.cell? ⟨b, 1, none⟩ = some (.int .i64 d.pos) ∧ w.cell? ⟨b, 2, none⟩ = some (.int .i64 d.mode) ∧ w.cell? ⟨b, 3, none⟩ = some (.string (strB d.name)) ∧ w.cell? ⟨b, 4, none⟩ = some (.bool d.cdata) ∧ w.cell? ⟨b, 5, none⟩ = some (.int .i64 d.err) :=
  ⟨h.cell rfl, h.cell rfl, h.cell rfl, h.cell rfl, h.cell rfl, h.cell rfl⟩
theorem doc_free {w : World} {b : Nat} {d : DocD} (h : Row w b (docV d)) : ∀ j, j < 6 → w.frozen? ⟨b, j, none⟩ = false := fun _ hj => h.frozen hj
/-- a byte that may stand in a mode's name at a place -/
def okC (i : Nat) (c : UInt8) : Bool := (decide (97 ≤ c) && decide (c ≤ 122)) || (decide (0 < i) && (decide (48 ≤ c) && decide (c ≤ 57)))
def goodFrom : Nat → Str → Bool
  | _, [] => true
  | i, c :: r => okC i c && goodFrom (i + 1) r
def setDoc (d : DocD) (mode : Int) (s : Str) : DocD := if goodFrom 0 s = true ∧ s ≠ [] ∧ (mode = 1 ∨ mode = 2) then { d with mode := mode, name := s } else { d with mode := 0, name := [] }
theorem okC_nat (i : Nat) (c : UInt8) : okC i c = decide ((97 ≤ (c.toNat : Int) ∧ (c.toNat : Int) ≤ 122) ∨ (0 < (i : Int) ∧ 48 ≤ (c.toNat : Int) ∧ (c.toNat : Int) ≤ 57)) := by
  unfold okC
  rw [ule, ule, ule, ule, Bool.eq_iff_iff]
  simp only [Bool.or_eq_true, Bool.and_eq_true, decide_eq_true_eq]
  have : (0 < i) ↔ 0 < (i : Int) := by omega
  rw [this]
  exact Iff.rfl
set_option maxRecDepth 100000 in
set_option maxHeartbeats 4000000 in
theorem Set_any (d : DocD) (b : Nat) (mode : Int) (s : ByteArray) (w : World) (hr : Row w b (docV d)) (hs : s.size ≤ 4294967296) :
    Calls Tryz.prog 22 #[.pointer (some ⟨b, 0, none⟩), .int .i64 mode, .string s] w fun r w' => r = .returned (.tuple #[]) ∧ Row w' b (docV (setDoc d mode s.toList)) ∧ Keeps (Only b) w w' := by
  obtain ⟨o, ho⟩ : ∃ o, o = setDoc d mode s.toList := ⟨_, rfl⟩
  rw [← ho]
  have HO := Lib.hid ho
  clear ho
  obtain ⟨-, -, c2, c3, -⟩ := doc_row hr
  have f2 := doc_free hr 2 (by decide)
  have f3 := doc_free hr 3 (by decide)
  obtain ⟨W, hW⟩ : ∃ W, W = (w.setCell ⟨b, 2, none⟩ (.int .i64 0)).setCell ⟨b, 3, none⟩ (.string ⟨#[]⟩) := ⟨_, rfl⟩
  have HR2 : Hid (Row W b (docV { d with mode := 0, name := [] })) := by show Row _ _ _; rw [hW]; exact (hr.set 2 _).set 3 _
  have HK2 : Hid (Keeps (Only b) w W) := by show Keeps _ _ _; rw [hW]; exact keep_set (keep_set (Keeps.refl _ _) _) _
  have HW := Lib.hid hW
  clear hr hW
  go_enter Tryz.func22, Tryz.ntmps22
  go_wp2_with fail
  go_loopw [6] (fun iv wr => ∃ k : Nat, k ≤ s.size ∧ iv = .int .i64 k ∧ goodFrom k (s.toList.drop k) = goodFrom 0 s.toList ∧ W = wr) (fun iv _ => s.size - (intOf iv).toNat)
  case atStart => exact ⟨0, Nat.zero_le _, rfl, rfl, HW.out⟩
  case round =>
    obtain ⟨k, hk, rfl, hkv, rfl⟩ := hrel
    have HK := Lib.hid hkv
    clear hkv
    obtain ⟨-, -, e2, e3, -⟩ := doc_row HR2.out
    have g2 := doc_free HR2.out 2 (by decide)
    have g3 := doc_free HR2.out 3 (by decide)
    clear c2 c3 f2 f3
    by_cases hks : k < s.size
    · have hd := drop_byte s k hks
      have hst : goodFrom k (s.toList.drop k) = (okC k s[k] && goodFrom (k + 1) (s.toList.drop (k + 1))) := by rw [hd]; rfl
      have HST := Lib.hid hst
      have HOK := Lib.hid (okC_nat k s[k])
      have h256 := s[k].toNat_lt
      clear hst hd
      cases hok : okC k s[k]
      · have HF : Hid (o = { d with mode := 0, name := [] }) := by
          show _ = _
          rw [HO.out]
          unfold setDoc
          rw [if_neg]
          intro h
          rw [← HK.out, HST.out, hok] at h
          exact absurd h.1 (by simp)
        have hno := of_decide_eq_false (HOK.out.symm.trans hok)
        rw [not_or] at hno
        obtain ⟨q1, q2⟩ := hno
        clear hok
        rcases (show (s[k].toNat : Int) < 97 ∨ (97 ≤ (s[k].toNat : Int) ∧ ¬ (s[k].toNat : Int) ≤ 122) by omega) with y1 | ⟨y0, y1⟩
        all_goals rcases (show ¬ (0 : Int) < (k : Int) ∨ ((0 : Int) < (k : Int) ∧ (s[k].toNat : Int) < 48) ∨ ((0 : Int) < (k : Int) ∧ 48 ≤ (s[k].toNat : Int) ∧ ¬ (s[k].toNat : Int) ≤ 57) by omega) with y2 | ⟨y2, y3⟩ | ⟨y2, y3, y4⟩
        all_goals clear q1 q2
        all_goals go_wp2_with fail
        all_goals first
          | (exfalso; omega)
          | (refine bodyPost_ret (results_none rfl _ _ _) rfl ?_
             exact ⟨by first | rfl | trivial, by rw [HF.out]; exact HR2.out, HK2.out⟩)
      · have hyes := of_decide_eq_true (HOK.out.symm.trans hok)
        have HN : Hid (goodFrom (k + 1) (s.toList.drop (k + 1)) = goodFrom 0 s.toList) := by
          show _ = _
          rw [← HK.out, HST.out, hok, Bool.true_and]
        clear hok
        rcases hyes with ⟨y1, y2⟩ | ⟨y1, y2, y3⟩
        all_goals go_wp2_with fail
        all_goals first
          | (exfalso; omega)
          | (go_roundw
             case rel => exact ⟨k + 1, by omega, by go_num, HN.out, by first | rfl | trivial⟩
             case measure => simp [intOf]; omega)
    · obtain rfl : k = s.size := by omega
      have HG : Hid (goodFrom 0 s.toList = true) := by
        show _ = _
        rw [← HK.out, List.drop_of_length_le (by rw [size_toList]; omega)]
        rfl
      by_cases hm : (mode = 1 ∨ mode = 2) ∧ 0 < s.size
      · have hne : s.toList ≠ [] := fun e => by have := size_toList s; rw [e] at this; simp at this; omega
        have HF : Hid (o = { d with mode := mode, name := s.toList }) := by
          show _ = _
          rw [HO.out]
          unfold setDoc
          rw [if_pos ⟨HG.out, hne, hm.1⟩]
        have h0 : (0 : Int) < (s.size : Int) := by omega
        have hmm : (mode == 1) = true ∨ ((mode == 1) = false ∧ (mode == 2) = true) := by
          rcases hm.1 with h | h
          · exact .inl (beq_iff_eq.2 h)
          · exact .inr ⟨by rw [h]; rfl, beq_iff_eq.2 h⟩
        have HR3 : Hid (Row ((W.setCell ⟨b, 2, none⟩ (.int .i64 mode)).setCell ⟨b, 3, none⟩ (.string s)) b (docV { d with mode := mode, name := s.toList })) := by
          have h := (HR2.out.set 2 (.int .i64 mode)).set 3 (.string s)
          have e5 : docV { d with mode := mode, name := s.toList } = ((docV { d with mode := 0, name := [] }).set 2 (.int .i64 mode)).set 3 (.string s) := by
            show _ = [_, _, _, Value.string s, _, _]
            unfold docV
            rw [strB_mem]
          rw [← e5] at h
          exact h
        clear hm hne
        rcases hmm with h1 | ⟨h1, h2⟩
        all_goals
          go_wp2_with fail
          go_end0
          exact ⟨by first | rfl | trivial, by rw [HF.out]; exact HR3.out, keep_set (keep_set HK2.out _) _⟩
      · have HF : Hid (o = { d with mode := 0, name := [] }) := by
          show _ = _
          rw [HO.out]
          unfold setDoc
          rw [if_neg]
          rintro ⟨-, h2, h3⟩
          refine hm ⟨h3, ?_⟩
          have := List.length_pos_iff.2 h2
          rwa [size_toList] at this
        have hmm : ((mode == 1) = false ∧ (mode == 2) = false) ∨ ¬ (0 : Int) < (s.size : Int) := by
          by_cases h : mode = 1 ∨ mode = 2
          · exact .inr (fun h0 => hm ⟨h, by omega⟩)
          · rw [not_or] at h
            exact .inl ⟨beq_eq_false_iff_ne.2 h.1, beq_eq_false_iff_ne.2 h.2⟩
        clear hm
        rcases hmm with ⟨h1, h2⟩ | h0
        all_goals go_wp2_with fail
        all_goals go_end0
        all_goals exact ⟨by first | rfl | trivial, by rw [HF.out]; exact HR2.out, HK2.out⟩
end Go.Proofs.YtbabcohidpcjjaaGreat

/-
  What stands at a <, and how far a text goes, as the document has it; the machine reads so when nothing more comes: plain Lean, no Go.
-/
namespace Go.Proofs.YtbabcohidpcjjaaGreat
open Mem

/-- a word stands at the front, capital letters taken for small ones -/
def standS (w s : Str) : Bool := w.isPrefixOf (lowS s)
theorem folds_stand (s w : Str) : (foldsF s w).1 = standS w s := by
  unfold foldsF standS
  rw [Bool.eq_iff_iff, List.isPrefixOf_iff_prefix, List.prefix_iff_eq_take]
  by_cases h : lowS (s.take (min s.length w.length)) ≠ w.take (min s.length w.length)
  · rw [if_pos h]
    refine ⟨fun e => (by cases e), fun e => absurd ?_ h⟩
    have hl : w.length ≤ s.length := by
      have := congrArg List.length e
      unfold lowS at this
      rw [List.length_take, List.length_map] at this
      omega
    rw [Nat.min_eq_right hl, List.take_length]
    conv => rhs; rw [e]
    unfold lowS
    rw [List.map_take]
  · rw [if_neg h]
    have h' : lowS (s.take (min s.length w.length)) = w.take (min s.length w.length) := Classical.byContradiction h
    simp only [beq_iff_eq]
    constructor
    · intro e
      rw [e, List.take_length] at h'
      conv => lhs; rw [← h']
      unfold lowS
      rw [List.map_take]
    · intro e
      have hl : w.length ≤ s.length := by
        have := congrArg List.length e
        unfold lowS at this
        rw [List.length_take, List.length_map] at this
        omega
      omega
theorem low_fix {c x : UInt8} (hx : letterB x = false) : lowB c = x ↔ c = x := by
  have h : ∀ n : Fin 256, (lowB (UInt8.ofNat n.val) = UInt8.ofNat n.val) ∨ letterB (lowB (UInt8.ofNat n.val)) = true := by decide +kernel
  have h2 : ∀ n : Fin 256, letterB (UInt8.ofNat n.val) = false → lowB (UInt8.ofNat n.val) = UInt8.ofNat n.val := by decide +kernel
  have hc := h ⟨c.toNat, c.toNat_lt⟩
  have hd := h2 ⟨c.toNat, c.toNat_lt⟩
  simp only [UInt8.ofNat_toNat] at hc hd
  constructor
  · intro e
    rcases hc with hc | hc
    · rw [← hc]; exact e
    · rw [e, hx] at hc; cases hc
  · intro e
    rw [hd (by rw [e]; exact hx), e]
theorem stand_fix : ∀ (w s : Str), (∀ x ∈ w, letterB x = false) → standS w s = w.isPrefixOf s
  | [], _, _ => by unfold standS; rfl
  | _ :: _, [], _ => rfl
  | x :: w, c :: s, h => by
    have ih := stand_fix w s fun y hy => h y (List.mem_cons_of_mem _ hy)
    unfold standS at ih ⊢
    show ((x == lowB c) && w.isPrefixOf (lowS s)) = ((x == c) && w.isPrefixOf s)
    rw [ih]
    have : (x == lowB c) = (x == c) := by
      rw [Bool.eq_iff_iff, beq_iff_eq, beq_iff_eq]
      exact ⟨fun e => ((low_fix (h x List.mem_cons_self)).1 e.symm).symm, fun e => ((low_fix (h x List.mem_cons_self)).2 e.symm).symm⟩
    rw [this]
/-- a letter at a place -/
def letterAt (s : Str) (i : Nat) : Bool := match s[i]? with
  | none => false
  | some c => letterB c
/-- what stands at the front of what is left, as the document has it -/
def whatF (mode : Int) (name : Str) (cdata : Bool) (s : Str) : Int :=
  if s.head? ≠ some 60 then 0
  else if mode ≠ 0 then
    (if standS ([60, 47] ++ name) s = true ∧ name.length + 2 < s.length ∧ (gapB (s.getD (name.length + 2) 0) || s.getD (name.length + 2) 0 == 62) = true then 3 else 0)
  else if letterAt s 1 = true then 2
  else if ([60, 47] : Str).isPrefixOf s = true ∧ letterAt s 2 = true then 3
  else if ([60, 47, 62] : Str).isPrefixOf s = true then 4
  else if (([60, 47] : Str).isPrefixOf s = true ∧ 2 < s.length) ∨ ([60, 63] : Str).isPrefixOf s = true then 8
  else if comW.isPrefixOf s = true then 5
  else if standS docW s = true then 6
  else if cdataW.isPrefixOf s = true ∧ cdata = true then 7
  else if ([60, 33] : Str).isPrefixOf s = true then 8
  else 0
theorem two_pre (a b c : UInt8) (r : Str) : ([a, b] : Str).isPrefixOf (a :: c :: r) = (c == b) := by
  show ((a == a) && ((b == c) && true)) = (c == b)
  rw [beq_self_eq_true, Bool.true_and, Bool.and_true, Bool.eq_iff_iff, beq_iff_eq, beq_iff_eq]
  exact eq_comm
theorem three_pre (a b c d : UInt8) (r : Str) : ([a, b, c] : Str).isPrefixOf (a :: b :: d :: r) = (d == c) := by
  show ((a == a) && ((b == b) && ((c == d) && true))) = (d == c)
  rw [beq_self_eq_true, beq_self_eq_true, Bool.true_and, Bool.true_and, Bool.and_true, Bool.eq_iff_iff, beq_iff_eq, beq_iff_eq]
  exact eq_comm
theorem look_what {m : MkM} (hc : m.closed = true) (r : Str) : lookF m (60 :: r) = whatF m.mode m.name m.cdata (60 :: r) := by
  have hu : ∀ k, unlessF m.closed k = k := fun k => by rw [hc]; rfl
  have hw : ¬ ((60 :: r : Str).head? ≠ some 60) := fun h => h rfl
  unfold lookF whatF
  rw [if_neg hw]
  by_cases hm : m.mode ≠ 0
  · rw [if_pos hm, if_pos hm]
    unfold endsF
    rw [folds_stand, hu]
    by_cases hs : standS ([60, 47] ++ m.name) (60 :: r) = true
    · have hl : ([60, 47] ++ m.name : Str).length ≤ (60 :: r : Str).length := foldsF_long (by rw [folds_stand]; exact hs)
      have h2 : (foldsF (60 :: r) ([60, 47] ++ m.name)).2 = false := by
        rw [Bool.eq_false_iff]; intro h; have := foldsF_short h; omega
      rw [h2, hs]
      simp only [List.length_append, List.length_cons, List.length_nil] at hl
      by_cases he : (60 :: r : Str).length = m.name.length + 2
      · rw [if_pos (.inr ⟨rfl, he⟩), if_neg (fun h => by omega)]
      · rw [if_neg (by rintro (h | h); cases h; exact he h.2)]
        have hlt : m.name.length + 2 < (60 :: r : Str).length := by simp only [List.length_cons] at he ⊢; omega
        by_cases hg : (gapB ((60 :: r : Str).getD (m.name.length + 2) 0) || (60 :: r : Str).getD (m.name.length + 2) 0 == 62) = true
        · rw [if_pos ⟨rfl, hg⟩, if_pos ⟨rfl, hlt, hg⟩]
        · rw [if_neg (fun h => hg h.2), if_neg (fun h => hg h.2.2)]
    · have hs' : standS ([60, 47] ++ m.name) (60 :: r) = false := by simpa using hs
      rw [hs', if_neg (fun h => by cases h.1 : ¬ (false = true ∧ _))]
      split
      · rfl
      · rw [if_neg (fun h => by cases h.1)]
  · rw [if_neg hm, if_neg hm]
    match r with
    | [] => exact hu 0
    | c :: r =>
      have l1 : letterAt (60 :: c :: r) 1 = letterB c := rfl
      rw [l1]
      dsimp only
      by_cases h1 : letterB c = true
      · rw [if_pos h1, if_pos h1]
      · rw [if_neg h1, if_neg h1]
        have p2 : ([60, 47] : Str).isPrefixOf (60 :: c :: r) = (c == 47) := two_pre 60 47 c r
        have p3 : ([60, 63] : Str).isPrefixOf (60 :: c :: r) = (c == 63) := two_pre 60 63 c r
        have p4 : ([60, 33] : Str).isPrefixOf (60 :: c :: r) = (c == 33) := two_pre 60 33 c r
        have pc : ∀ w, (33 :: w : Str).isPrefixOf (c :: r) = true → c = 33 := fun w h => by
          have : ((33 : UInt8) == c && w.isPrefixOf r) = true := h
          rw [Bool.and_eq_true, beq_iff_eq] at this
          exact this.1.symm
        rw [p2, p3, p4]
        by_cases h63 : c = 63
        · subst h63
          rw [if_pos rfl, if_neg (fun h => absurd h.1 (by decide)), if_neg, if_pos (.inr rfl)]
          intro h
          have : ((60 : UInt8) == 60 && ((47 : UInt8) == 63 && ([62] : Str).isPrefixOf r)) = true := h
          simp at this
        · rw [if_neg h63]
          by_cases h33 : c = 33
          · subst h33
            rw [if_pos rfl, if_neg (fun h => absurd h.1 (by decide)), if_neg, if_neg]
            · unfold declF
              rw [folds_stand, folds_stand, stand_fix comW _ (by decide)]
              by_cases c1 : comW.isPrefixOf (60 :: 33 :: r) = true
              · rw [if_pos c1, if_pos c1]
              · rw [if_neg c1, if_neg c1]
                by_cases c2 : standS docW (60 :: 33 :: r) = true
                · rw [if_pos c2, if_pos c2]
                · rw [if_neg c2, if_neg c2]
                  by_cases c3 : cdataW.isPrefixOf (60 :: 33 :: r) = true ∧ m.cdata = true
                  · rw [if_pos c3, if_pos c3]
                  · rw [if_neg c3, if_neg c3, if_pos (show ((33 : UInt8) == 33) = true from rfl), hu]
                    split <;> rfl
            · rintro (h | h)
              · exact absurd h.1 (by decide)
              · exact absurd h (by decide)
            · intro h
              have : ((60 : UInt8) == 60 && ((47 : UInt8) == 33 && ([62] : Str).isPrefixOf r)) = true := h
              simp at this
          · rw [if_neg h33]
            by_cases h47 : c ≠ 47
            · have hc47 : (c == 47) = false := beq_eq_false_iff_ne.2 h47
              have hc63 : (c == 63) = false := beq_eq_false_iff_ne.2 h63
              have hc33 : (c == 33) = false := beq_eq_false_iff_ne.2 h33
              have q1 : ([60, 47, 62] : Str).isPrefixOf (60 :: c :: r) = false := by
                rw [Bool.eq_false_iff]; intro h
                have h : ((60 : UInt8) == 60 && ((47 : UInt8) == c && ([62] : Str).isPrefixOf r)) = true := h
                simp only [Bool.and_eq_true, beq_iff_eq] at h
                exact h47 h.2.1.symm
              have q2 : comW.isPrefixOf (60 :: c :: r) = false := by
                rw [Bool.eq_false_iff]; intro h
                exact h33 (pc [45, 45] (by have h : ((60 : UInt8) == 60 && (33 :: [45, 45] : Str).isPrefixOf (c :: r)) = true := h; simpa using h))
              have q3 : standS docW (60 :: c :: r) = false := by
                rw [Bool.eq_false_iff]; intro h
                have h : ((60 : UInt8) == lowB 60 && ((33 : UInt8) == lowB c && (docW.drop 2).isPrefixOf (lowS r))) = true := h
                simp only [Bool.and_eq_true, beq_iff_eq] at h
                exact h33 ((low_fix (by decide)).1 h.2.1.symm)
              have q4 : cdataW.isPrefixOf (60 :: c :: r) = false := by
                rw [Bool.eq_false_iff]; intro h
                have h : ((60 : UInt8) == 60 && ((33 : UInt8) == c && (cdataW.drop 2).isPrefixOf r)) = true := h
                simp only [Bool.and_eq_true, beq_iff_eq] at h
                exact h33 h.2.1.symm
              rw [if_pos h47, hc47, hc63, hc33, q1, q2, q3, q4]
              simp
            · have h47' : c = 47 := Classical.byContradiction h47
              subst h47'
              rw [if_neg (fun h => h rfl)]
              match r with
              | [] => exact hu 0
              | d :: r =>
                have l2 : letterAt (60 :: 47 :: d :: r) 2 = letterB d := rfl
                have q1 : ([60, 47, 62] : Str).isPrefixOf (60 :: 47 :: d :: r) = (d == 62) := three_pre 60 47 62 d r
                rw [l2, q1]
                dsimp only
                by_cases hd : letterB d = true
                · rw [if_pos hd, if_pos ⟨rfl, hd⟩]
                · have hcnd : ¬ (((47 : UInt8) == 47) = true ∧ letterB d = true) := fun h => hd h.2
                  rw [if_neg hd, if_neg hcnd]
                  by_cases h62 : d = 62
                  · rw [if_pos h62, if_pos (beq_iff_eq.2 h62)]
                  · have hl : ((47 : UInt8) == 47) = true ∧ 2 < (60 :: 47 :: d :: r : Str).length := ⟨rfl, by simp only [List.length_cons]; omega⟩
                    rw [if_neg h62, if_neg (by simpa using h62), if_pos (.inl hl)]

/-! how far a text goes -/
/-- the bytes up to what is no text, and what is left -/
def runF (m : MkM) : Str → Str × Str
  | [] => ([], [])
  | c :: r => if c = 60 ∧ lookF m (c :: r) ≠ 0 then ([], c :: r) else (c :: (runF m r).1, (runF m r).2)
theorem runF_parts (m : MkM) : ∀ s : Str, s = (runF m s).1 ++ (runF m s).2 ∧ ((runF m s).2 = [] ∨ ∃ y, (runF m s).2 = 60 :: y ∧ lookF m (60 :: y) ≠ 0)
  | [] => ⟨rfl, .inl rfl⟩
  | c :: r => by
    rw [runF]
    by_cases h : c = 60 ∧ lookF m (c :: r) ≠ 0
    · rw [if_pos h]
      exact ⟨rfl, .inr ⟨r, by rw [h.1], by rw [← h.1]; exact h.2⟩⟩
    · rw [if_neg h]
      obtain ⟨h1, h2⟩ := runF_parts m r
      exact ⟨by rw [List.cons_append, ← h1], h2⟩
theorem runF_drop (m : MkM) : ∀ (j : Nat) (r : Str), j ≤ r.length → (∀ c ∈ r.take j, c ≠ 60) → runF m r = (r.take j ++ (runF m (r.drop j)).1, (runF m (r.drop j)).2)
  | 0, r, _, _ => by simp
  | j + 1, [], h, _ => by simp at h
  | j + 1, c :: r, h, h60 => by
    have hc : c ≠ 60 := h60 c (by simp)
    have ih := runF_drop m j r (by simpa using h) fun x hx => h60 x (by rw [List.take_succ_cons]; exact List.mem_cons_of_mem _ hx)
    rw [runF, if_neg (fun e => hc e.1), ih]
    simp
theorem takeF_run {m : MkM} (c : UInt8) (r : Str) : takeF (c :: r) false = takeF (c :: (runF m r).1) false := by
  obtain ⟨h1, h2⟩ := runF_parts m r
  rcases h2 with h2 | ⟨y, h2, -⟩
  · rw [h2, List.append_nil] at h1
    rw [← h1]
  · rw [h2] at h1
    conv => lhs; rw [h1]
    exact takeF_stop (c :: (runF m r).1) y false
/-- a reference holds no < -/
theorem takeF_no60 (s : Str) : ∀ c ∈ s.take (takeF s false).2, c ≠ 60 := by
  intro c hc e
  subst e
  obtain ⟨i, hi, hget⟩ := List.getElem_of_mem hc
  rw [List.length_take] at hi
  rw [List.getElem_take] at hget
  have hs : s = s.take i ++ 60 :: s.drop (i + 1) := by
    conv => lhs; rw [← List.take_append_drop i s]
    rw [List.drop_eq_getElem_cons (by omega), hget]
  have h1 := takeF_stop (s.take i) (s.drop (i + 1)) false
  rw [← hs] at h1
  have h2 := takeF_le (s.take i) false
  rw [← h1, List.length_take] at h2
  omega
theorem textF_run {m : MkM} (hc : m.closed = true) : ∀ (n : Nat) (s : Str), s.length ≤ n →
    textF m s = (if m.mode = 2 then (runF m s).1 else allS (runF m s).1 false, (runF m s).2, if (runF m s).2 = [] then 1 else lookF m (runF m s).2) := by
  intro n
  induction n with
  | zero =>
    intro s hs
    obtain rfl : s = [] := List.eq_nil_of_length_eq_zero (by omega)
    rw [textF, runF]
    simp [allS_nil]
  | succ n ih =>
    intro s hs
    cases s with
    | nil =>
      rw [textF, runF]
      simp [allS_nil]
    | cons c r =>
      simp only [List.length_cons] at hs
      have i1 := ih r (by omega)
      rw [textF.eq_2]
      by_cases h60 : c = 60
      · rw [if_pos h60]
        by_cases hl : lookF m (c :: r) = 0
        · have hrun : runF m (c :: r) = (c :: (runF m r).1, (runF m r).2) := by
            rw [runF, if_neg (fun e : c = 60 ∧ lookF m (c :: r) ≠ 0 => e.2 hl)]
          rw [if_pos hl, hrun, i1]
          simp only
          rw [allS_other (show c ≠ 38 by rw [h60]; decide), h60]
          split <;> rfl
        · have hrun : runF m (c :: r) = ([], c :: r) := by rw [runF, if_pos ⟨h60, hl⟩]
          rw [if_neg hl, hrun]
          simp [allS_nil]
      · have hrun : runF m (c :: r) = (c :: (runF m r).1, (runF m r).2) := by rw [runF, if_neg (fun e => h60 e.1)]
        rw [if_neg h60, hrun]
        by_cases h38 : c = 38 ∧ m.mode ≠ 2
        · rw [if_pos h38, if_neg (by rw [hc]; simp), if_neg h38.2]
          have ht := takeF_run (m := m) c r
          have hle := takeF_le (c :: r) false
          have hno := takeF_no60 (c :: r)
          simp only [List.length_cons] at hle
          simp only
          rw [allS_cons, ← ht]
          by_cases h0 : (takeF (c :: r) false).2 = 0
          · rw [if_pos h0, h0, if_neg (fun e => e.2 rfl)]
            simp only [Nat.zero_sub, List.drop_zero]
            rw [i1, if_neg h38.2, h38.1]
            rfl
          · obtain ⟨j, hj⟩ : ∃ j, (takeF (c :: r) false).2 = j + 1 := ⟨(takeF (c :: r) false).2 - 1, by omega⟩
            rw [hj] at hle hno
            have hjr : j ≤ r.length := by omega
            have hd := runF_drop m j r hjr fun x hx => hno x (by rw [List.take_succ_cons]; exact List.mem_cons_of_mem _ hx)
            rw [if_neg h0, if_pos ⟨h38.1, h0⟩, hj, Nat.add_sub_cancel, List.drop_succ_cons, ih (r.drop j) (by rw [List.length_drop]; omega), if_neg h38.2, hd]
            simp only
            rw [List.drop_left' (by rw [List.length_take]; omega)]
        · rw [if_neg h38, i1]
          simp only
          by_cases hm : m.mode = 2
          · rw [if_pos hm, if_pos hm]
          · have hc38 : c ≠ 38 := fun e => h38 ⟨e, hm⟩
            rw [if_neg hm, if_neg hm, allS_other hc38]
end Go.Proofs.YtbabcohidpcjjaaGreat

/-
  What is behind a tag's end changes nothing: plain Lean, no Go.
-/
namespace Go.Proofs.YtbabcohidpcjjaaGreat
open Mem

/-! what is behind a tag's end changes nothing -/
theorem suffix_split {y r w : Str} (h : y <:+ r ++ w) (hl : w.length ≤ y.length) : ∃ x, y = x ++ w := by
  obtain ⟨a, ha⟩ := h
  have hla := congrArg List.length ha
  rw [List.length_append, List.length_append] at hla
  refine ⟨y.take (y.length - w.length), ?_⟩
  have h2 := congrArg (List.drop (a.length + (y.length - w.length))) ha
  rw [← List.drop_drop, List.drop_left, show a.length + (y.length - w.length) = r.length from by omega, List.drop_left] at h2
  conv => lhs; rw [← List.take_append_drop (y.length - w.length) y, h2]
theorem while_less {p : UInt8 → Bool} : ∀ {s v x : Str}, (s ++ v).dropWhile p = x ++ v → x ≠ [] → s.dropWhile p = x ∧ s.takeWhile p = (s ++ v).takeWhile p
  | [], v, x, h, hx => by
    exfalso
    have := dropWhile_len p v
    rw [List.nil_append] at h
    rw [h, List.length_append] at this
    have := List.length_pos_iff.2 hx
    omega
  | c :: s, v, x, h, hx => by
    rw [List.cons_append, List.dropWhile_cons] at h
    rw [List.cons_append, List.dropWhile_cons, List.takeWhile_cons, List.takeWhile_cons]
    by_cases hc : p c = true
    · rw [if_pos hc] at h
      obtain ⟨h1, h2⟩ := while_less h hx
      rw [if_pos hc, if_pos hc, if_pos hc, h1, h2]
      exact ⟨rfl, rfl⟩
    · rw [if_neg hc, ← List.cons_append] at h
      rw [if_neg hc, if_neg hc, if_neg hc]
      exact ⟨List.append_cancel_right h, rfl⟩
theorem untilF_less {sg s v t x : Str} (h : untilF sg (s ++ v) = some (t, x ++ v)) (hx : x ≠ []) : untilF sg s = some (t, x) := by
  obtain ⟨h1, h2, -⟩ := untilF_eq h
  obtain ⟨q1, q2⟩ := while_less h2.symm hx
  unfold untilF
  rw [q1, if_neg hx, q2, ← h1]
theorem valueF_less {r w v t : Str} (h : valueF (r ++ w) = some (v, t ++ w)) (ht : t ≠ []) : valueF r = some (v, t) := by
  have h0 := valueF_len h
  unfold valueF at h ⊢
  cases hd : (r ++ w).dropWhile spaceB with
  | nil => rw [hd] at h; cases h
  | cons q r1 =>
    rw [hd] at h
    simp only at h
    have hsuf : (q :: r1) <:+ r ++ w := by rw [← hd]; exact List.dropWhile_suffix _
    by_cases hq : q = 34 ∨ q = 39
    · rw [if_pos hq] at h
      cases hu : untilF [q] r1 with
      | none => rw [hu] at h; cases h
      | some p =>
        obtain ⟨a, b⟩ := p
        obtain ⟨hl1, hl2⟩ := untilF_len hu
        rw [hu] at h
        simp only [Option.map_some, Option.some.injEq, Prod.mk.injEq] at h
        obtain ⟨d, hb⟩ : ∃ d, b = d :: (t ++ w) := by
          match b, hl2 with
          | d :: b, _ => exact ⟨d, by rw [← h.2]; rfl⟩
        rw [hb] at hl1 hu
        simp only [List.length_cons, List.length_append] at hl1
        obtain ⟨x, hx⟩ := suffix_split hsuf (by simp only [List.length_cons]; omega)
        match x, hx with
        | [], hx =>
          have := congrArg List.length hx
          simp only [List.nil_append, List.length_cons] at this
          omega
        | q' :: x, hx =>
          rw [List.cons_append, List.cons.injEq] at hx
          obtain ⟨rfl, rfl⟩ := hx
          rw [(while_less (x := q :: x) hd (List.cons_ne_nil _ _)).1]
          simp only
          rw [if_pos hq, untilF_less (x := d :: t) hu (List.cons_ne_nil _ _), ← h.1]
          rfl
    · rw [if_neg hq] at h
      obtain ⟨hl1, hl2⟩ := untilF_len h
      rw [List.length_append] at hl1
      have htl := List.length_pos_iff.2 ht
      obtain ⟨x, hx⟩ := suffix_split hsuf (by omega)
      match x, hx with
      | [], hx =>
        have := congrArg List.length hx
        simp only [List.nil_append] at this
        omega
      | q' :: x, hx =>
        have hx' := hx
        rw [List.cons_append, List.cons.injEq] at hx
        obtain ⟨rfl, rfl⟩ := hx
        rw [(while_less (x := q :: x) hd (List.cons_ne_nil _ _)).1]
        simp only
        rw [if_neg hq]
        exact untilF_less (s := q :: x) (by rw [List.cons_append]; exact h) ht
theorem attrF_less {s w r : Str} {a : Str × Str} (h : attrF (s ++ w) = some (a, r ++ w)) (hr : r ≠ []) (hs : w.length < (s ++ w).length) : attrF s = some (a, r) := by
  match s, hs with
  | [], hs => rw [List.nil_append] at hs; omega
  | c :: s, _ =>
    simp only [attrF, List.cons_append] at h ⊢
    cases hu : untilF signA (s ++ w) with
    | none => rw [hu] at h; cases h
    | some p =>
      obtain ⟨t, r2⟩ := p
      obtain ⟨hl1, -⟩ := untilF_len hu
      have hsu := (untilF_suffix hu).1
      rw [hu] at h
      simp only at h
      cases hd : r2.dropWhile spaceB with
      | nil => rw [hd] at h; cases h
      | cons d r4 =>
        have hsuf : (d :: r4) <:+ s ++ w := by rw [← hd]; exact (List.dropWhile_suffix _).trans hsu
        have hrl := List.length_pos_iff.2 hr
        have hd2 := dropWhile_len spaceB r2
        rw [hd] at h hd2
        simp only at h
        have hlen : w.length < (d :: r4 : Str).length := by
          by_cases h61 : d = 61
          · rw [if_pos h61] at h
            cases hv : valueF r4 with
            | none => rw [hv] at h; cases h
            | some p =>
              rw [hv] at h
              simp only [Option.map_some, Option.some.injEq, Prod.mk.injEq] at h
              have := valueF_len (v := p.1) (t := p.2) hv
              rw [h.2, List.length_append] at this
              simp only [List.length_cons]
              omega
          · rw [if_neg h61] at h
            simp only [Option.some.injEq, Prod.mk.injEq] at h
            rw [h.2, List.length_append]
            omega
        obtain ⟨y, hy⟩ := suffix_split hsu (by omega)
        obtain ⟨x, hx⟩ := suffix_split hsuf (by omega)
        subst hy
        have hyn : y ≠ [] := fun e => by
          subst e
          rw [List.nil_append] at hd2
          omega
        match x, hx with
        | [], hx =>
          have := congrArg List.length hx
          simp only [List.nil_append] at this
          omega
        | d' :: x, hx =>
          rw [List.cons_append, List.cons.injEq] at hx
          obtain ⟨rfl, rfl⟩ := hx
          rw [untilF_less hu hyn]
          simp only
          rw [(while_less (x := d :: x) hd (List.cons_ne_nil _ _)).1]
          simp only
          by_cases h61 : d = 61
          · rw [if_pos h61] at h ⊢
            cases hv : valueF (x ++ w) with
            | none => rw [hv] at h; cases h
            | some p =>
              obtain ⟨v, t'⟩ := p
              rw [hv] at h
              simp only [Option.map_some, Option.some.injEq, Prod.mk.injEq] at h
              rw [h.2] at hv
              rw [valueF_less hv hr]
              simp only [Option.map_some, Option.some.injEq, Prod.mk.injEq]
              exact ⟨h.1, trivial⟩
          · rw [if_neg h61] at h ⊢
            simp only [Option.some.injEq, Prod.mk.injEq] at h ⊢
            refine ⟨h.1, ?_⟩
            have := h.2
            rw [← List.cons_append] at this
            exact List.append_cancel_right this
theorem tagsF_less : ∀ (n : Nat) (al : List (Str × Str)) (s w : Str), s.length ≤ n → ∀ al' sl r', tagsF al (s ++ w) = some (al', sl, r' ++ w) → tagsF al s = some (al', sl, r') := by
  intro n
  induction n with
  | zero =>
    intro al s w hn al' sl r' h
    obtain rfl : s = [] := List.eq_nil_of_length_eq_zero (by omega)
    exfalso
    rw [List.nil_append, tagsF] at h
    have h0 := dropWhile_len gapB w
    split at h
    · cases h
    · rename_i c r1 he
      rw [he] at h0
      simp only [List.length_cons] at h0
      split at h
      · simp only [Option.some.injEq, Prod.mk.injEq] at h
        have := congrArg List.length h.2.2
        rw [List.length_append] at this
        omega
      · split at h
        · cases h
        · rename_i a r2 ha
          have hl := attrF_len ha
          simp only [List.length_cons] at hl
          split at h
          · have := tagsF_good_len _ _ r2 (Nat.le_refl _) _ _ _ h
            rw [List.length_append] at this
            omega
          · cases h
  | succ n ih =>
    intro al s w hn al' sl r' h
    rw [tagsF] at h ⊢
    cases hd : (s ++ w).dropWhile gapB with
    | nil => rw [hd] at h; cases h
    | cons c r1 =>
      rw [hd] at h
      simp only at h
      have hsuf : (c :: r1) <:+ s ++ w := by rw [← hd]; exact List.dropWhile_suffix _
      have hlen : w.length < (c :: r1 : Str).length := by
        by_cases h62 : c = 62
        · rw [if_pos h62] at h
          simp only [Option.some.injEq, Prod.mk.injEq] at h
          rw [h.2.2, List.length_cons, List.length_append]
          omega
        · rw [if_neg h62] at h
          cases ha : attrF (c :: r1) with
          | none => rw [ha] at h; cases h
          | some p =>
            obtain ⟨a, r2⟩ := p
            have hl := attrF_len ha
            rw [ha] at h
            simp only at h
            split at h
            · have := tagsF_good_len _ _ r2 (Nat.le_refl _) _ _ _ h
              rw [List.length_append] at this
              omega
            · cases h
      obtain ⟨x, hx⟩ := suffix_split hsuf (by omega)
      match x, hx with
      | [], hx =>
        have := congrArg List.length hx
        simp only [List.nil_append] at this
        omega
      | c' :: x, hx =>
        rw [List.cons_append, List.cons.injEq] at hx
        obtain ⟨rfl, rfl⟩ := hx
        obtain ⟨q1, q2⟩ := while_less (x := c :: x) hd (List.cons_ne_nil _ _)
        rw [q1, q2]
        simp only
        by_cases h62 : c = 62
        · rw [if_pos h62] at h ⊢
          simp only [Option.some.injEq, Prod.mk.injEq] at h ⊢
          exact ⟨h.1, h.2.1, List.append_cancel_right h.2.2⟩
        · rw [if_neg h62] at h ⊢
          cases ha : attrF (c :: (x ++ w)) with
          | none => rw [ha] at h; cases h
          | some p =>
            obtain ⟨a, r2⟩ := p
            have hal := attrF_len ha
            have hg := attrF_good2 ha
            rw [ha] at h
            simp only at h
            split at h
            · rename_i hlt
              have h2len : w.length < r2.length := by
                rw [tagsF] at h
                have h0 := dropWhile_len gapB r2
                split at h
                · cases h
                · rename_i c2 r3 he
                  rw [he] at h0
                  simp only [List.length_cons] at h0
                  split at h
                  · simp only [Option.some.injEq, Prod.mk.injEq] at h
                    have := congrArg List.length h.2.2
                    rw [List.length_append] at this
                    omega
                  · split at h
                    · cases h
                    · rename_i a3 r4 ha3
                      have hl := attrF_len ha3
                      simp only [List.length_cons] at hl
                      split at h
                      · have := tagsF_good_len _ _ r4 (Nat.le_refl _) _ _ _ h
                        rw [List.length_append] at this
                        omega
                      · cases h
              obtain ⟨y, hy⟩ := suffix_split (y := r2) (r := c :: x) (w := w) (by rw [List.cons_append]; exact hg) (by omega)
              subst hy
              have hyn : y ≠ [] := fun e => by
                subst e
                rw [List.nil_append] at h2len
                omega
              have hsl := hsuf.length_le
              rw [attrF_less (s := c :: x) (by rw [List.cons_append]; exact ha) hyn (by rw [List.length_append]; simp only [List.length_cons]; omega)]
              simp only
              simp only [List.length_cons, List.length_append] at hal hlt hsl
              rw [if_pos (by omega)]
              exact ih _ y w (by omega) _ _ _ h
            · cases h
theorem tags_suffix : ∀ (n : Nat) (al : List (Str × Str)) (r : Str), r.length ≤ n → ∀ al' sl r', tagsF al r = some (al', sl, r') → r' <:+ r := by
  intro n
  induction n with
  | zero =>
    intro al r hn al' sl r' h
    obtain rfl : r = [] := List.eq_nil_of_length_eq_zero (by omega)
    rw [tagsF] at h
    cases h
  | succ n ih =>
    intro al r hn al' sl r' h
    rw [tagsF] at h
    have hs : r.dropWhile gapB <:+ r := List.dropWhile_suffix _
    cases hd : r.dropWhile gapB with
    | nil => rw [hd] at h; cases h
    | cons c r1 =>
      rw [hd] at h hs
      simp only at h
      by_cases h62 : c = 62
      · rw [if_pos h62] at h
        simp only [Option.some.injEq, Prod.mk.injEq] at h
        rw [← h.2.2]
        exact (List.suffix_cons c r1).trans hs
      · rw [if_neg h62] at h
        cases ha : attrF (c :: r1) with
        | none => rw [ha] at h; cases h
        | some p =>
          obtain ⟨a, r2⟩ := p
          rw [ha] at h
          simp only at h
          by_cases hl : r2.length < r.length
          · rw [if_pos hl] at h
            exact (ih _ r2 (by omega) _ _ _ h).trans ((attrF_good2 ha).trans hs)
          · rw [if_neg hl] at h; cases h
theorem parseF_less {s v : Str} {e : Bool} (h0 : 0 ≤ (parseF (s ++ v) e).2.1) (h1 : (parseF (s ++ v) e).2.1 ≤ s.length) : parseF s e = parseF (s ++ v) e := by
  obtain ⟨k, hk⟩ : ∃ k, k = if e = true then 2 else 1 := ⟨_, rfl⟩
  unfold parseF at h0 h1 ⊢
  rw [← hk] at h0 h1 ⊢
  cases hu : untilF signT ((s ++ v).drop k) with
  | none => rw [hu] at h0; exact absurd h0 (show ¬ (0 : Int) ≤ -1 by decide)
  | some p =>
    obtain ⟨nm, r⟩ := p
    obtain ⟨hl1, hl2⟩ := untilF_len hu
    have hsu := (untilF_suffix hu).1
    rw [hu] at h0 h1
    simp only at h0 h1
    cases ht : tagsF [] r with
    | none => rw [ht] at h0; exact absurd h0 (show ¬ (0 : Int) ≤ -1 by decide)
    | some q =>
      obtain ⟨al, sl, r2⟩ := q
      have htl := tagsF_good_len _ [] r (Nat.le_refl _) _ _ _ ht
      have hts := tags_suffix _ [] r (Nat.le_refl _) _ _ _ ht
      rw [ht] at h0 h1
      simp only at h0 h1
      have hn : ((s ++ v).length : Int) - r2.length ≤ s.length := by
        split at h1
        · exact h1
        · split at h1
          · exact h1
          · exact h1
      rw [List.length_append] at hn
      have hvr : v.length ≤ r2.length := by omega
      have hlt : r2.length < r.length := by
        rw [tagsF] at ht
        have h0 := dropWhile_len gapB r
        split at ht
        · cases ht
        · rename_i c2 r3 he
          rw [he] at h0
          simp only [List.length_cons] at h0
          split at ht
          · simp only [Option.some.injEq, Prod.mk.injEq] at ht
            rw [← ht.2.2]
            omega
          · split at ht
            · cases ht
            · rename_i a3 r4 ha3
              have hl := attrF_len ha3
              simp only [List.length_cons] at hl
              split at ht
              · have := tagsF_good_len _ _ r4 (Nat.le_refl _) _ _ _ ht
                omega
              · cases ht
      have hks : k ≤ s.length := by
        rw [List.length_drop, List.length_append] at hl1
        omega
      rw [drop_more hks] at hu hsu
      obtain ⟨x, rfl⟩ := suffix_split hsu (by omega)
      have hxn : x ≠ [] := fun e => by
        subst e
        rw [List.nil_append] at hlt
        omega
      rw [untilF_less hu hxn]
      simp only
      obtain ⟨z, rfl⟩ := suffix_split hts hvr
      rw [tagsF_less _ [] x v (Nat.le_refl _) _ _ _ ht, ht]
      have e1 : (((s ++ v).length : Nat) : Int) - ((z ++ v).length : Nat) = (s.length : Int) - z.length := by rw [List.length_append, List.length_append]; omega
      simp only [e1]
/-- a tag of the first 2048 bytes -/
theorem parse_cut (s : Str) (e : Bool) :
    (0 ≤ (parseF (s.take 2048) e).2.1 → parseF (s.take 2049) e = parseF (s.take 2048) e ∧ (parseF (s.take 2048) e).2.1 ≤ 2048) ∧
    ((parseF (s.take 2048) e).2.1 < 0 → (parseF (s.take 2049) e).2.1 < 0 ∨ 2048 < (parseF (s.take 2049) e).2.1) := by
  have hst : s.take 2049 = s.take 2048 ++ (s.drop 2048).take 1 := by
    rw [show 2049 = 2048 + 1 from rfl, List.take_add]
  have hl : (s.take 2048).length = min 2048 s.length := List.length_take
  constructor
  · intro h
    obtain ⟨h1, h2⟩ := parseF_more h ((s.drop 2048).take 1)
    rw [hst]
    exact ⟨h1, by omega⟩
  · intro h
    by_cases h0 : 0 ≤ (parseF (s.take 2049) e).2.1 ∧ (parseF (s.take 2049) e).2.1 ≤ 2048
    · exfalso
      rcases Nat.lt_or_ge s.length 2048 with hs | hs
      · rw [List.take_of_length_le (show s.length ≤ 2049 by omega)] at h0
        rw [List.take_of_length_le (show s.length ≤ 2048 by omega)] at h
        omega
      · rw [hst] at h0
        have := parseF_less h0.1 (by omega)
        rw [← this] at h0
        omega
    · omega
end Go.Proofs.YtbabcohidpcjjaaGreat

/-
  What a reader tells when nothing more comes, case by case, in the document's words: plain Lean, no Go.
-/
namespace Go.Proofs.YtbabcohidpcjjaaGreat
open Mem

theorem allS_some {c : UInt8} {r : Str} {a : Bool} : allS (c :: r) a ≠ [] := by
  rw [allS_cons]
  split
  · rename_i h
    intro e
    exact takeF_some h.2 (List.append_eq_nil_iff.1 e).1
  · exact List.cons_ne_nil _ _
/-- a machine between two marks, nothing more coming -/
structure Rest (m : MkM) : Prop where
  closed : m.closed = true
  pass : m.pass = 0
  err : m.err = 0
theorem Rest.buf {m : MkM} (h : Rest m) (s : Str) : Rest { m with buf := s } := ⟨h.closed, h.pass, h.err⟩
theorem rest_step {m : MkM} (h : Rest m) : oneF m = stepF m := step_one h.pass
theorem read_none {m : MkM} (h : Rest m) (hb : m.buf = []) : readF m = (none, m) := by
  have ht : textF m m.buf = ([], [], 1) := by rw [hb, textF]
  have e : oneF m = (noM, false, true, m) := by
    rw [rest_step h]
    unfold stepF
    rw [ht]
    simp only [ne_eq, not_true_eq_false, if_false]
    have : ({ m with buf := [] } : MkM) = m := by rw [← hb]
    rw [this]
    rfl
  rw [readF_stop h.err (by rw [e]) (by rw [e]), e]
/-- a text -/
theorem read_text {m : MkM} (h : Rest m) {c : UInt8} {r : Str} (hb : m.buf = c :: r) (hw : ¬ (c = 60 ∧ lookF m (c :: r) ≠ 0)) :
    readF m = (some (textM (if m.mode = 2 then (runF m m.buf).1 else allS (runF m m.buf).1 false)), { m with buf := (runF m m.buf).2 }) := by
  have ht := textF_run h.closed _ m.buf (Nat.le_refl _)
  have hrun : (runF m m.buf).1 = c :: (runF m r).1 := by rw [hb, runF, if_neg hw]
  have hne : (if m.mode = 2 then (runF m m.buf).1 else allS (runF m m.buf).1 false) ≠ [] := by
    rw [hrun]
    split
    · exact List.cons_ne_nil _ _
    · exact allS_some
  have e : oneF m = (textM (if m.mode = 2 then (runF m m.buf).1 else allS (runF m m.buf).1 false), true, false, { m with buf := (runF m m.buf).2 }) := by
    rw [rest_step h]
    unfold stepF
    rw [ht]
    simp only
    rw [if_pos hne]
  rw [readF_told h.err (by rw [e]), e]
/-- the step at a < that is none of a text -/
theorem rest_look {m : MkM} {r : Str} {k : Int} (_ : Rest m) (hb : m.buf = 60 :: r) (hk : lookF m (60 :: r) = k) (h0 : k ≠ 0) : textF m m.buf = ([], m.buf, k) := by
  rw [hb]
  exact textF_ltk hk h0
theorem read_nothing {m : MkM} {r : Str} (h : Rest m) (hb : m.buf = 60 :: r) (hk : lookF m (60 :: r) = 4) : readF m = readF { m with buf := m.buf.drop 3 } := by
  have e : oneF m = (noM, false, false, { m with buf := m.buf.drop 3 }) := by
    rw [rest_step h]
    unfold stepF
    rw [rest_look h hb hk (by decide)]
    rfl
  rw [readF_go h.err (by rw [e]) (by rw [e]), e]
/-- behind the first > -/
def angleF (s : Str) : Str := (s.dropWhile (fun c => c != 62)).drop 1
theorem angle_index : ∀ s : Str, (if 0 ≤ Lib.indexByte s 62 then s.drop ((Lib.indexByte s 62).toNat + 1) else s.drop s.length) = angleF s
  | [] => rfl
  | c :: s => by
    have ih := angle_index s
    have hge := Lib.indexByte_ge s 62
    unfold angleF at ih ⊢
    rw [Lib.indexByte]
    by_cases hc : c = 62
    · subst hc
      rw [List.dropWhile_cons_of_neg (by decide)]
      rfl
    · have hcb : (c == 62) = false := beq_eq_false_iff_ne.2 hc
      rw [hcb, List.dropWhile_cons_of_pos (by simpa using hc), ← ih]
      simp only [Bool.false_eq_true, if_false]
      by_cases h0 : 0 ≤ Lib.indexByte s 62
      · have hn : ¬ (Lib.indexByte s 62 == -1) = true := by simp; omega
        rw [if_pos h0, if_neg hn, if_pos (by omega)]
        rw [show (Lib.indexByte s 62 + 1).toNat + 1 = ((Lib.indexByte s 62).toNat + 1) + 1 from by omega, List.drop_succ_cons]
      · have hn : (Lib.indexByte s 62 == -1) = true := by simp; omega
        rw [if_neg h0, if_pos hn, if_neg (by decide), List.length_cons, List.drop_succ_cons]
theorem pass_angle {m : MkM} (hc : m.closed = true) (he : m.err = 0) (hp : m.pass = 2) : readF m = (some (bareM m.kind), { m with buf := angleF m.buf, pass := 0 }) := by
  have e : oneF m = (bareM m.kind, true, false, { m with buf := angleF m.buf, pass := 0 }) := by
    unfold oneF
    rw [if_neg (by rw [hp]; decide)]
    unfold passF
    rw [if_neg (by rw [hp]; decide), if_pos hp, ← angle_index]
    split
    · rfl
    · first | rfl | (rw [if_pos hc]; rfl)
  rw [readF_told he (by rw [e]), e]
theorem read_angle {m : MkM} {r : Str} {k j : Int} (h : Rest m) (hb : m.buf = 60 :: r) (hk : lookF m (60 :: r) = k) (hkj : (k = 6 ∧ j = 5) ∨ (k = 8 ∧ j = 4)) :
    readF m = (some (bareM j), { m with kind := j, buf := angleF m.buf, pass := 0 }) := by
  have e : oneF m = (noM, false, false, { m with pass := 2, kind := j }) := by
    rw [rest_step h]
    unfold stepF
    rcases hkj with ⟨rfl, rfl⟩ | ⟨rfl, rfl⟩
    · rw [rest_look h hb hk (by decide)]; rfl
    · rw [rest_look h hb hk (by decide)]; rfl
  rw [readF_go h.err (by rw [e]) (by rw [e]), e]
  exact pass_angle (m := { m with pass := 2, kind := j }) h.closed h.err rfl
/-- behind a comment whose characters begin here -/
def closeG : Str → Str
  | [] => []
  | c :: r => if comEnd.isPrefixOf (c :: r) then (c :: r).drop 3 else if comEnd2.isPrefixOf (c :: r) then (c :: r).drop 4 else closeG r
def closeF (s : Str) : Str := if ([62] : Str).isPrefixOf s then s.drop 1 else if ([45, 62] : Str).isPrefixOf s then s.drop 2 else closeG s
theorem close_index : ∀ s : Str, (if 0 ≤ Lib.index s comEnd ∧ (Lib.index s comEnd2 < 0 ∨ Lib.index s comEnd < Lib.index s comEnd2) then s.drop ((Lib.index s comEnd).toNat + 3) else if 0 ≤ Lib.index s comEnd2 then s.drop ((Lib.index s comEnd2).toNat + 4) else s.drop s.length) = closeG s
  | [] => rfl
  | c :: s => by
    have ih := close_index s
    have ga := Lib.index_ge s comEnd
    have gb := Lib.index_ge s comEnd2
    rw [closeG, Lib.index, Lib.index]
    by_cases h1 : comEnd.isPrefixOf (c :: s) = true
    · have h2 : comEnd2.isPrefixOf (c :: s) = false := no_both (s := c :: s) (i := 0) h1
      rw [if_pos h1, if_pos h1, h2]
      simp only [Bool.false_eq_true, if_false]
      rw [if_pos]
      · rfl
      · refine ⟨by decide, ?_⟩
        split
        · exact .inl (by decide)
        · rename_i h
          simp only [beq_iff_eq] at h
          exact .inr (by omega)
    · rw [if_neg h1, if_neg h1]
      by_cases h2 : comEnd2.isPrefixOf (c :: s) = true
      · rw [if_pos h2, if_pos h2, if_neg, if_pos (by decide)]
        · rfl
        · rintro ⟨q1, q2⟩
          rcases q2 with q2 | q2
          · exact absurd q2 (by decide)
          · omega
      · rw [if_neg h2, if_neg h2, ← ih]
        generalize Lib.index s comEnd = a at *
        generalize Lib.index s comEnd2 = b at *
        have ea : (if (a == -1) = true then (-1 : Int) else a + 1) = if 0 ≤ a then a + 1 else -1 := by
          by_cases h : 0 ≤ a
          · rw [if_pos h, if_neg (by simp; omega)]
          · rw [if_neg h, if_pos (by simp; omega)]
        have eb : (if (b == -1) = true then (-1 : Int) else b + 1) = if 0 ≤ b then b + 1 else -1 := by
          by_cases h : 0 ≤ b
          · rw [if_pos h, if_neg (by simp; omega)]
          · rw [if_neg h, if_pos (by simp; omega)]
        rw [ea, eb]
        by_cases pa : 0 ≤ a
        · rw [if_pos pa]
          by_cases pb : 0 ≤ b
          · rw [if_pos pb]
            by_cases hab : a < b
            · rw [if_pos ⟨by omega, .inr (by omega)⟩, if_pos ⟨pa, .inr hab⟩, show (a + 1).toNat + 3 = (a.toNat + 3) + 1 from by omega, List.drop_succ_cons]
            · rw [if_neg (by omega), if_pos (by omega), if_neg (by omega), if_pos pb, show (b + 1).toNat + 4 = (b.toNat + 4) + 1 from by omega, List.drop_succ_cons]
          · rw [if_neg pb, if_pos ⟨by omega, .inl (by decide)⟩, if_pos ⟨pa, .inl (by omega)⟩, show (a + 1).toNat + 3 = (a.toNat + 3) + 1 from by omega, List.drop_succ_cons]
        · rw [if_neg pa]
          by_cases pb : 0 ≤ b
          · rw [if_pos pb, if_neg (by omega), if_pos (by omega), if_neg (by omega), if_pos pb, show (b + 1).toNat + 4 = (b.toNat + 4) + 1 from by omega, List.drop_succ_cons]
          · rw [if_neg pb, if_neg (by omega), if_neg (by omega), if_neg (by omega), if_neg pb, List.length_cons, List.drop_succ_cons]
theorem later_close (m : MkM) (hc : m.closed = true) : comLater m = (bareM m.kind, true, false, { m with buf := closeG m.buf, pass := 0 }) := by
  unfold comLater
  simp only
  rw [← close_index]
  split
  · rfl
  · split
    · rfl
    · first | rfl | (rw [if_pos hc]; rfl)
theorem read_comment {m : MkM} {r : Str} (h : Rest m) (hb : m.buf = 60 :: r) (hk : lookF m (60 :: r) = 5) :
    ∃ fr, readF m = (some (bareM 4), { m with kind := 4, fresh := fr, buf := closeF (m.buf.drop 4), pass := 0 }) := by
  have e : oneF m = (noM, false, false, { m with pass := 1, kind := 4, fresh := true, buf := m.buf.drop 4 }) := by
    rw [rest_step h]
    unfold stepF
    rw [rest_look h hb hk (by decide)]
    rfl
  rw [readF_go h.err (by rw [e]) (by rw [e]), e]
  obtain ⟨M, hM⟩ : ∃ M : MkM, M = { m with pass := 1, kind := 4, fresh := true, buf := m.buf.drop 4 } := ⟨_, rfl⟩
  have hME : M.err = 0 := by rw [hM]; exact h.err
  have hMC : M.closed = true := by rw [hM]; exact h.closed
  have one : oneF M = comF M := by
    unfold oneF
    rw [if_neg (by rw [hM]; show ¬ (1 : Int) = 0; decide)]
    unfold passF
    rw [if_pos (by rw [hM])]
  unfold comF at one
  rw [if_pos (show M.fresh = true by rw [hM])] at one
  have hMb : M.buf = m.buf.drop 4 := by rw [hM]
  show ∃ fr, readF _ = _
  rw [← hM]
  unfold closeF
  rw [← hMb]
  by_cases h1 : ([62] : Str).isPrefixOf M.buf = true
  · rw [if_pos h1] at one ⊢
    refine ⟨true, ?_⟩
    rw [readF_told hME (by rw [one]; rfl), one, hM]
    rfl
  · rw [if_neg h1] at one ⊢
    by_cases h2 : ([45, 62] : Str).isPrefixOf M.buf = true
    · rw [if_pos h2] at one ⊢
      refine ⟨true, ?_⟩
      rw [readF_told hME (by rw [one]; rfl), one, hM]
      rfl
    · rw [if_neg h2] at one ⊢
      rw [if_neg (by rw [hMC]; simp), later_close { M with fresh := false } hMC] at one
      refine ⟨false, ?_⟩
      rw [readF_told hME (by rw [one]), one, hM]
/-- a CDATA whose characters begin here: its text, what is behind it -/
def cdD : Str → Str × Str
  | [] => ([], [])
  | c :: r => if cdEnd.isPrefixOf (c :: r) then ([], (c :: r).drop 3) else (c :: (cdD r).1, (cdD r).2)
theorem cd_index : ∀ s : Str, (if 0 ≤ Lib.index s cdEnd then (s.take (Lib.index s cdEnd).toNat, s.drop ((Lib.index s cdEnd).toNat + 3)) else (s, [])) = cdD s
  | [] => rfl
  | c :: s => by
    have ih := cd_index s
    have ga := Lib.index_ge s cdEnd
    rw [cdD, Lib.index]
    by_cases h1 : cdEnd.isPrefixOf (c :: s) = true
    · rw [if_pos h1, if_pos h1, if_pos (by decide)]
      rfl
    · rw [if_neg h1, if_neg h1, ← ih]
      generalize Lib.index s cdEnd = a at *
      by_cases pa : 0 ≤ a
      · have hn : ¬ (a == -1) = true := by simp; omega
        rw [if_neg hn, if_pos (by omega), if_pos pa, show (a + 1).toNat = a.toNat + 1 from by omega, List.take_succ_cons, show a.toNat + 1 + 3 = (a.toNat + 3) + 1 from by omega, List.drop_succ_cons]
      · have hn : (a == -1) = true := by simp; omega
        rw [if_pos hn, if_neg (by decide), if_neg pa]
theorem read_cdata {m : MkM} {r : Str} (h : Rest m) (hb : m.buf = 60 :: r) (hk : lookF m (60 :: r) = 7) :
    readF m = if (cdD (m.buf.drop 9)).1 ≠ [] then (some (textM (cdD (m.buf.drop 9)).1), { m with buf := (cdD (m.buf.drop 9)).2, pass := 0 }) else readF { m with buf := (cdD (m.buf.drop 9)).2, pass := 0 } := by
  have e : oneF m = (noM, false, false, { m with pass := 3, buf := m.buf.drop 9 }) := by
    rw [rest_step h]
    unfold stepF
    rw [rest_look h hb hk (by decide)]
    rfl
  rw [readF_go h.err (by rw [e]) (by rw [e]), e]
  obtain ⟨M, hM⟩ : ∃ M : MkM, M = { m with pass := 3, buf := m.buf.drop 9 } := ⟨_, rfl⟩
  have hME : M.err = 0 := by rw [hM]; exact h.err
  have hMC : M.closed = true := by rw [hM]; exact h.closed
  have hMb : M.buf = m.buf.drop 9 := by rw [hM]
  have one : oneF M = (textM (cdD M.buf).1, decide ((cdD M.buf).1 ≠ []), false, { M with buf := (cdD M.buf).2, pass := 0 }) := by
    unfold oneF
    rw [if_neg (by rw [hM]; show ¬ (3 : Int) = 0; decide)]
    unfold passF
    rw [if_neg (by rw [hM]; show ¬ (3 : Int) = 1; decide), if_neg (by rw [hM]; show ¬ (3 : Int) = 2; decide)]
    unfold cdF
    simp only
    rw [← cd_index]
    by_cases hn : 0 ≤ Lib.index M.buf cdEnd
    · simp only [if_pos hn]
    · simp only [if_neg hn, hMC, if_true]
  show readF { m with pass := 3, buf := m.buf.drop 9 } = _
  rw [← hM, ← hMb]
  by_cases ht : (cdD M.buf).1 ≠ []
  · rw [if_pos ht, readF_told hME (by rw [one]; exact decide_eq_true ht), one, hM]
  · rw [if_neg ht, readF_go hME (by rw [one]; exact decide_eq_false ht) (by rw [one]), one, hM]
/-- a tag: as the document has it, of the first 2048 bytes -/
theorem read_tag {m : MkM} {r : Str} {e : Bool} (h : Rest m) (hb : m.buf = 60 :: r) (hk : lookF m (60 :: r) = if e then 3 else 2) :
    (0 ≤ (parseF (m.buf.take 2048) e).2.1 → (parseF (m.buf.take 2048) e).2.2 = 0 → readF m = (some (parseF (m.buf.take 2048) e).1, { m with buf := m.buf.drop (parseF (m.buf.take 2048) e).2.1.toNat, mode := if e then 0 else m.mode })) ∧
    (0 ≤ (parseF (m.buf.take 2048) e).2.1 → (parseF (m.buf.take 2048) e).2.2 ≠ 0 → readF m = (none, { m with err := (parseF (m.buf.take 2048) e).2.2, buf := [] })) ∧
    ((parseF (m.buf.take 2048) e).2.1 < 0 → 2048 < m.buf.length → readF m = (none, { m with err := 41, buf := [] })) ∧
    ((parseF (m.buf.take 2048) e).2.1 < 0 → m.buf.length ≤ 2048 → readF m = (none, { m with buf := [] })) := by
  have hk' : textF m m.buf = ([], m.buf, if e then 3 else 2) := rest_look h hb hk (by cases e <;> decide)
  have h1 := one_tag h.pass hk'
  obtain ⟨c1, c2⟩ := parse_cut m.buf e
  have hlt : (m.buf.take 2049).length = min 2049 m.buf.length := List.length_take
  have hl0 : ∀ s : Str, (parseF s e).2.1 < 0 → (parseF s e).2.2 = 0 := fun s hs => by
    unfold parseF at hs ⊢
    split
    · rfl
    · rename_i nm r hu
      split
      · rfl
      · rename_i al sl r2 ht
        exfalso
        rw [hu] at hs
        simp only [ht] at hs
        have h1 := (untilF_len hu).1
        have h2 := tagsF_good_len _ [] r (Nat.le_refl _) _ _ _ ht
        rw [List.length_drop] at h1
        split at hs
        · have hs : (s.length : Int) - r2.length < 0 := hs; omega
        · split at hs
          · have hs : (s.length : Int) - r2.length < 0 := hs; omega
          · have hs : (s.length : Int) - r2.length < 0 := hs; omega
  unfold tagF at h1
  simp only [hlt] at h1
  refine ⟨fun a b => ?_, fun a b => ?_, fun a b => ?_, fun a b => ?_⟩
  · obtain ⟨d1, d2⟩ := c1 a
    rw [d1] at h1
    generalize parseF (m.buf.take 2048) e = p at *
    have hcnd : ¬ (p.2.1 > 2048 ∨ (p.2.1 < 0 ∧ 2048 < min 2049 m.buf.length)) := by omega
    rw [if_neg hcnd, b, if_neg (fun h => h rfl), if_neg (by omega)] at h1
    rw [readF_told h.err (by rw [h1]), h1]
    cases e <;> rfl
  · obtain ⟨d1, d2⟩ := c1 a
    rw [d1] at h1
    generalize parseF (m.buf.take 2048) e = p at *
    have hcnd : ¬ (p.2.1 > 2048 ∨ (p.2.1 < 0 ∧ 2048 < min 2049 m.buf.length)) := by omega
    rw [if_neg hcnd, if_pos b] at h1
    rw [readF_stop h.err (by rw [h1]) (by rw [h1]), h1]
  · have d := c2 a
    have hcnd : (parseF (m.buf.take 2049) e).2.1 > 2048 ∨ ((parseF (m.buf.take 2049) e).2.1 < 0 ∧ 2048 < min 2049 m.buf.length) := by omega
    rw [if_pos hcnd, if_pos (by decide)] at h1
    rw [readF_stop h.err (by rw [h1]) (by rw [h1]), h1]
  · have ht : m.buf.take 2048 = m.buf := List.take_of_length_le b
    have ht2 : m.buf.take 2049 = m.buf := List.take_of_length_le (by omega)
    rw [ht] at a
    have h00 := hl0 _ a
    rw [ht2] at h1
    generalize parseF m.buf e = p at *
    have hcnd : ¬ (p.2.1 > 2048 ∨ (p.2.1 < 0 ∧ 2048 < min 2049 m.buf.length)) := by omega
    rw [if_neg hcnd, h00, if_neg (fun h => h rfl), if_pos a, if_pos h.closed] at h1
    rw [readF_stop h.err (by rw [h1]) (by rw [h1]), h1]
end Go.Proofs.YtbabcohidpcjjaaGreat

/-
  A tag, read in the document's way: plain Lean. (Seat 4's '.Z'.)
-/
namespace Go.Proofs.YtbabcohidpcjjaaGreat
open Mem

def nameG : Str → Str
  | [] => []
  | c :: r => c :: r.takeWhile (fun c => !signA.contains c)
def restG : Str → Str
  | [] => []
  | _ :: r => r.dropWhile (fun c => !signA.contains c)
def valG (r : Str) : Option (Str × Str) := match r.dropWhile spaceB with
  | [] => some ([], [])
  | q :: r1 => if q = 34 ∨ q = 39 then (untilF [q] r1).map fun p => (p.1, p.2.drop 1) else some ((q :: r1).takeWhile (fun c => !signV.contains c), (q :: r1).dropWhile (fun c => !signV.contains c))
def attrG (l : Str) : Option ((Str × Str) × Str) := match (restG l).dropWhile spaceB with
  | [] => some ((lowS (nameG l), []), [])
  | d :: r4 => if d = 61 then (valG r4).map fun p => ((lowS (nameG l), allS p.1 true), p.2) else some ((lowS (nameG l), []), d :: r4)
theorem tagsN {al : List (Str × Str)} {r : Str} (h : r.dropWhile gapB = []) : tagsF al r = none := by
  rw [tagsF]
  split
  · rfl
  · rename_i c r1 he
    rw [h] at he; cases he
theorem tagsN0 (al : List (Str × Str)) : tagsF al [] = none := tagsN rfl
theorem tagsB {al : List (Str × Str)} {r r1 : Str} {c : UInt8} (h : r.dropWhile gapB = c :: r1) (hc : c ≠ 62) (ha : attrF (c :: r1) = none) : tagsF al r = none := by
  rw [tagsF]
  split
  · rfl
  · rename_i d r2 he
    rw [h] at he
    cases he
    rw [if_neg hc, ha]
theorem tagsX {al : List (Str × Str)} {r r1 r2 : Str} {c : UInt8} {a : Str × Str} (h : r.dropWhile gapB = c :: r1) (hc : c ≠ 62) (ha : attrF (c :: r1) = some (a, r2)) : tagsF al r = tagsF (if hasA al a.1 then al else al ++ [a]) r2 := by
  have hl := attrF_len ha
  have hl2 := dropWhile_len gapB r
  rw [h] at hl2
  rw [tagsF]
  split
  · rename_i he
    rw [h] at he; cases he
  · rename_i d r3 he
    rw [h] at he
    cases he
    rw [if_neg hc, ha]
    simp only
    rw [if_pos (by omega)]
/-- one attribute of the document's way is one of the program's, or there is no end -/
theorem attr_step (c : UInt8) (r1 : Str) : (attrF (c :: r1) = attrG (c :: r1)) ∨ (attrF (c :: r1) = none ∧ ∃ a, attrG (c :: r1) = some (a, [])) := by
  unfold attrG
  simp only [attrF, nameG, restG]
  by_cases hd : r1.dropWhile (fun c => !signA.contains c) = []
  · right
    rw [untilF, if_pos hd, hd]
    exact ⟨rfl, _, rfl⟩
  · rw [untilF, if_neg hd]
    simp only
    cases hs : (r1.dropWhile (fun c => !signA.contains c)).dropWhile spaceB with
    | nil => exact .inr ⟨rfl, _, rfl⟩
    | cons d r4 =>
      simp only
      by_cases h61 : d = 61
      · rw [if_pos h61, if_pos h61]
        unfold valueF valG
        cases hv : r4.dropWhile spaceB with
        | nil => exact .inr ⟨rfl, _, rfl⟩
        | cons q r5 =>
          simp only
          by_cases hq : q = 34 ∨ q = 39
          · rw [if_pos hq, if_pos hq]
            left
            cases untilF [q] r5 <;> rfl
          · rw [if_neg hq, if_neg hq, untilF]
            by_cases he : (q :: r5).dropWhile (fun c => !signV.contains c) = []
            · rw [if_pos he, he]
              exact .inr ⟨rfl, _, rfl⟩
            · rw [if_neg he]
              exact .inl rfl
      · rw [if_neg h61, if_neg h61]
        exact .inl rfl
/-- a round of the document's tag -/
theorem tagsG (al : List (Str × Str)) (r : Str) (h : ∀ r1, r.dropWhile gapB ≠ 62 :: r1) : tagsF al r = match attrG (r.dropWhile gapB) with
    | none => none
    | some (a, r2) => tagsF (if hasA al a.1 then al else al ++ [a]) r2 := by
  cases hl : r.dropWhile gapB with
  | nil =>
    rw [tagsN hl]
    show none = tagsF _ []
    rw [tagsN0]
  | cons c r1 =>
    have hc : c ≠ 62 := fun e => h r1 (by rw [hl, e])
    rcases attr_step c r1 with h1 | ⟨h1, a, h2⟩
    · cases ha : attrF (c :: r1) with
      | none => rw [← h1, ha, tagsB hl hc ha]
      | some p =>
        obtain ⟨a, r2⟩ := p
        rw [← h1, ha, tagsX hl hc ha]
    · rw [h2, tagsB hl hc h1]
      simp only
      rw [tagsN0]
/-- what the document's tag reads at a text -/
def tagG (s : Str) : Option (Str × List (Str × Str) × Bool × Str) := match untilF signT s with
  | none => none
  | some (nm, r) => (tagsF [] r).map fun t => (lowS nm, t)
theorem tagG_eq (s : Str) : tagG s = (tagsF [] (s.dropWhile (fun c => !signT.contains c))).map fun t => (lowS (s.takeWhile (fun c => !signT.contains c)), t) := by
  unfold tagG untilF
  by_cases h : s.dropWhile (fun c => !signT.contains c) = []
  · rw [if_pos h, h, tagsN0]
    rfl
  · rw [if_neg h]
theorem parseF_tagG (s : Str) (e : Bool) : parseF s e = match tagG (s.drop (if e then 2 else 1)) with
    | none => (bareM 0, -1, 0)
    | some (nm, al, sl, r2) => if e then (⟨3, nm, [], false, []⟩, (s.length : Int) - r2.length, 0) else if 8 < al.length then (bareM 0, (s.length : Int) - r2.length, 42) else (⟨2, nm, al, sl, []⟩, (s.length : Int) - r2.length, 0) := by
  unfold parseF tagG
  cases untilF signT (s.drop (if e then 2 else 1)) with
  | none => rfl
  | some p =>
    obtain ⟨nm, r⟩ := p
    simp only
    cases tagsF [] r with
    | none => rfl
    | some q => rfl
/-! how long what is read is -/
theorem nameG_split (l : Str) : nameG l ++ restG l = l := by
  cases l with
  | nil => rfl
  | cons c r => simp only [nameG, restG, List.cons_append, List.takeWhile_append_dropWhile]
end Go.Proofs.YtbabcohidpcjjaaGreat

/-
  Contract: the document's reader's close: behind a comment. (Seat 4's '.Z'.)
-/
namespace Go.Proofs.YtbabcohidpcjjaaGreat
open Go.RowKit Mem

theorem closeG_len : ∀ s : Str, (closeG s).length ≤ s.length
  | [] => Nat.le_refl _
  | c :: r => by
    have := closeG_len r
    rw [closeG]
    split
    · rw [List.length_drop]; omega
    · split
      · rw [List.length_drop]; omega
      · rw [List.length_cons]; omega
theorem closeG_at {T : ByteArray} {k : Nat} (hk : k < T.size) : closeG (T.toList.drop k) = if comEnd.isPrefixOf (T.toList.drop k) then T.toList.drop (k + 3) else if comEnd2.isPrefixOf (T.toList.drop k) then T.toList.drop (k + 4) else closeG (T.toList.drop (k + 1)) := by
  have hd := drop_byte T k hk
  have h3 : (T.toList.drop k).drop 3 = T.toList.drop (k + 3) := List.drop_drop
  have h4 : (T.toList.drop k).drop 4 = T.toList.drop (k + 4) := List.drop_drop
  rw [← h3, ← h4, hd]
  rw [closeG]
theorem pre_room {w : Str} {T : ByteArray} {k : Nat} (h : w.isPrefixOf (T.toList.drop k) = true) : w.length ≤ T.size - k := by
  have := (List.isPrefixOf_iff_prefix.1 h).length_le
  rw [List.length_drop, size_toList] at this
  exact this
theorem bl (l : Str) : (⟨l.toArray⟩ : ByteArray).toList = l := toList_strB l
set_option maxRecDepth 100000 in
set_option maxHeartbeats 4000000 in
theorem close_any (T : ByteArray) (b i : Nat) (w : World) (hT : w.cell? ⟨b, 0, none⟩ = some (.string T)) (hs : T.size ≤ 4294967296) (hi : i ≤ T.size) :
    Calls Tryz.prog 32 #[.pointer (some ⟨b, 0, none⟩), .int .i64 i] w fun e w' => e = .returned (.int .i64 ((T.size - (closeF (T.toList.drop i)).length : Nat) : Int)) ∧ w = w' := by
  obtain ⟨v, hv⟩ : ∃ v, v = T.size - (closeF (T.toList.drop i)).length := ⟨_, rfl⟩
  rw [← hv]
  have HS := Lib.hid (fun (l : Str) (hl : l.length ≤ 10) k hk u => stands_any T k ⟨l.toArray⟩ false u hs (by rw [← size_toList, bl]; omega) hk)
  have h1 := HS.out [62] (by decide) i hi
  have h2 := HS.out [45, 62] (by decide) i hi
  rw [bl, show standP false [62] (T.toList.drop i) = ([62] : Str).isPrefixOf (T.toList.drop i) from rfl] at h1
  rw [bl, show standP false [45, 62] (T.toList.drop i) = ([45, 62] : Str).isPrefixOf (T.toList.drop i) from rfl] at h2
  unfold closeF at hv
  go_enter Tryz.func32, Tryz.ntmps32
  cases p1 : ([62] : Str).isPrefixOf (T.toList.drop i)
  · rw [p1] at h1 hv
    rw [if_neg (by decide)] at hv
    have H1 := Lib.hid h1
    clear h1
    cases p2 : ([45, 62] : Str).isPrefixOf (T.toList.drop i)
    · rw [p2] at h2 hv
      rw [if_neg (by decide)] at hv
      have H2 := Lib.hid h2
      have HV := Lib.hid hv
      clear h2 hv p1 p2
      go_wp2_with fail
      refine (H1.out _).mono ?_
      rintro e w1 ⟨rfl, rfl⟩
      dsimp only
      go_wp2_with fail
      refine (H2.out _).mono ?_
      rintro e w1 ⟨rfl, rfl⟩
      dsimp only
      go_wp2_with fail
      go_loopw [1] (fun iv wr => ∃ k : Nat, k ≤ T.size ∧ iv = .int .i64 k ∧ closeG (T.toList.drop k) = closeG (T.toList.drop i) ∧ w = wr) (fun iv _ => T.size - (intOf iv).toNat)
      case atStart => exact ⟨i, hi, rfl, rfl, rfl⟩
      case round =>
        obtain ⟨k, hk, rfl, hkv, rfl⟩ := hrel
        have HK := Lib.hid hkv
        clear hkv
        by_cases hks : k < T.size
        · have h3 := HS.out comEnd (by decide) k hk
          have h4 := HS.out comEnd2 (by decide) k hk
          rw [bl, show standP false comEnd (T.toList.drop k) = comEnd.isPrefixOf (T.toList.drop k) from rfl] at h3
          rw [bl, show standP false comEnd2 (T.toList.drop k) = comEnd2.isPrefixOf (T.toList.drop k) from rfl] at h4
          have hcl := closeG_at hks
          cases p3 : comEnd.isPrefixOf (T.toList.drop k)
          · rw [p3] at h3 hcl
            rw [if_neg (by decide)] at hcl
            have H3 := Lib.hid h3
            clear h3
            cases p4 : comEnd2.isPrefixOf (T.toList.drop k)
            · rw [p4] at h4 hcl
              rw [if_neg (by decide)] at hcl
              have H4 := Lib.hid h4
              have HC := Lib.hid hcl
              clear h4 hcl p3 p4
              go_wp2_with fail
              refine (H3.out _).mono ?_
              rintro e w1 ⟨rfl, rfl⟩
              dsimp only
              go_wp2_with fail
              refine (H4.out _).mono ?_
              rintro e w1 ⟨rfl, rfl⟩
              dsimp only
              go_wp2_with fail
              go_roundw
              case rel => exact ⟨k + 1, by omega, by go_num, HC.out.symm.trans HK.out, by first | rfl | trivial⟩
              case measure => simp [intOf]; omega
            · have hr := pre_room p4
              rw [p4, if_pos rfl] at hcl
              rw [p4] at h4
              have H4 := Lib.hid h4
              have HR : Hid (v = k + 4) := by
                show _ = _
                rw [HV.out, ← HK.out, hcl, List.length_drop, size_toList]
                have : comEnd2.length = 4 := rfl
                omega
              clear h4 hcl p3 p4
              go_wp2_with fail
              refine (H3.out _).mono ?_
              rintro e w1 ⟨rfl, rfl⟩
              dsimp only
              go_wp2_with fail
              refine (H4.out _).mono ?_
              rintro e w1 ⟨rfl, rfl⟩
              dsimp only
              go_wp2_with fail
              go_ret
              exact ⟨ret_int (by have := HR.out; omega), by first | rfl | trivial⟩
          · have hr := pre_room p3
            rw [p3, if_pos rfl] at hcl
            rw [p3] at h3
            have H3 := Lib.hid h3
            have HR : Hid (v = k + 3) := by
              show _ = _
              rw [HV.out, ← HK.out, hcl, List.length_drop, size_toList]
              have : comEnd.length = 3 := rfl
              omega
            clear h3 h4 hcl p3
            go_wp2_with fail
            refine (H3.out _).mono ?_
            rintro e w1 ⟨rfl, rfl⟩
            dsimp only
            go_wp2_with fail
            go_ret
            exact ⟨ret_int (by have := HR.out; omega), by first | rfl | trivial⟩
        · have HR : Hid (v = T.size) := by
            show _ = _
            have hd : T.toList.drop k = [] := List.drop_of_length_le (by rw [size_toList]; omega)
            rw [HV.out, ← HK.out, hd]
            rfl
          go_wp2_with fail
          go_ret
          exact ⟨ret_int (by have := HR.out; omega), by first | rfl | trivial⟩
    · have hr := pre_room p2
      rw [p2] at h2 hv
      rw [if_pos rfl, List.drop_drop, List.length_drop, size_toList] at hv
      have H2 := Lib.hid h2
      have hr2 : ([45, 62] : Str).length = 2 := rfl
      have HR : Hid (v = i + 2) := by show _ = _; omega
      clear h2 hv p1 p2
      go_wp2_with fail
      refine (H1.out _).mono ?_
      rintro e w1 ⟨rfl, rfl⟩
      dsimp only
      go_wp2_with fail
      refine (H2.out _).mono ?_
      rintro e w1 ⟨rfl, rfl⟩
      dsimp only
      go_wp2_with fail
      go_ret
      exact ⟨ret_int (by have := HR.out; omega), by first | rfl | trivial⟩
  · have hr := pre_room p1
    rw [p1] at h1 hv
    rw [if_pos rfl, List.drop_drop, List.length_drop, size_toList] at hv
    have H1 := Lib.hid h1
    have hr2 : ([62] : Str).length = 1 := rfl
    have HR : Hid (v = i + 1) := by show _ = _; omega
    clear h1 h2 hv p1
    go_wp2_with fail
    refine (H1.out _).mono ?_
    rintro e w1 ⟨rfl, rfl⟩
    dsimp only
    go_wp2_with fail
    go_ret
    exact ⟨ret_int (by have := HR.out; omega), by first | rfl | trivial⟩
end Go.Proofs.YtbabcohidpcjjaaGreat

/-
  The document's reader beside the machine: what its next step is: plain Lean. (Seat 4's '.Z'.)
-/
namespace Go.Proofs.YtbabcohidpcjjaaGreat
open Mem

theorem first_one (q c : UInt8) (r : Str) : firstN [q] (c :: r) = if c = q then 0 else firstN [q] r + 1 := by
  rw [firstN]
  have e : ([q] : Str).isPrefixOf (c :: r) = (q == c) := by
    show (q == c && ([] : Str).isPrefixOf r) = _
    rw [show ([] : Str).isPrefixOf r = true from by cases r <;> rfl, Bool.and_true]
  rw [e]
  by_cases h : c = q
  · rw [if_pos h, if_pos (beq_iff_eq.2 h.symm)]
  · rw [if_neg h, if_neg (fun h2 => h (beq_iff_eq.1 h2).symm)]
theorem angle_first : ∀ s : Str, angleF s = s.drop (firstN [62] s + 1)
  | [] => rfl
  | c :: r => by
    have ih := angle_first r
    unfold angleF at ih ⊢
    rw [first_one, List.dropWhile_cons]
    by_cases h : c = 62
    · rw [if_neg (by rw [h]; simp), if_pos h]
    · rw [if_pos (by simpa using h), if_neg h, ih, List.drop_succ_cons]
theorem cd_first : ∀ s : Str, cdD s = (s.take (firstN cdEnd s), s.drop (firstN cdEnd s + 3))
  | [] => rfl
  | c :: r => by
    rw [cdD, firstN, cd_first r]
    split
    · rfl
    · rw [show firstN cdEnd r + 1 + 3 = (firstN cdEnd r + 3) + 1 from by omega, List.take_succ_cons, List.drop_succ_cons]
theorem quote_first (q : UInt8) : ∀ r : Str, untilF [q] r = if firstN [q] r = r.length then none else some (r.take (firstN [q] r), r.drop (firstN [q] r))
  | [] => rfl
  | c :: r => by
    have ih := quote_first q r
    have hle := firstN_le [q] r
    unfold untilF at ih ⊢
    rw [first_one, List.dropWhile_cons, List.takeWhile_cons]
    by_cases h : c = q
    · have hc : (!([q] : Str).contains c) = false := by rw [h]; simp
      simp only [hc, if_pos h, Bool.false_eq_true, if_false]
      rw [if_neg (List.cons_ne_nil _ _), if_neg (by simp)]
      rfl
    · have hc : (!([q] : Str).contains c) = true := by simpa using h
      simp only [hc, if_neg h, if_true, List.length_cons, List.take_succ_cons, List.drop_succ_cons]
      by_cases hd : r.dropWhile (fun c => !([q] : Str).contains c) = []
      · rw [if_pos hd] at ih ⊢
        by_cases hl : firstN [q] r = r.length
        · rw [if_pos (by omega)]
        · rw [if_neg hl] at ih; cases ih
      · rw [if_neg hd] at ih ⊢
        by_cases hl : firstN [q] r = r.length
        · rw [if_pos hl] at ih; cases ih
        · rw [if_neg hl] at ih
          rw [if_neg (by omega)]
          have e1 := congrArg (fun o => (o.map Prod.fst).getD []) ih
          have e2 := congrArg (fun o => (o.map Prod.snd).getD []) ih
          simp only [Option.map_some, Option.getD_some] at e1 e2
          rw [e1, e2]
theorem closeG_suffix : ∀ s : Str, closeG s <:+ s
  | [] => List.suffix_refl _
  | c :: r => by
    rw [closeG]
    split
    · exact List.drop_suffix _ _
    · split
      · exact List.drop_suffix _ _
      · exact (closeG_suffix r).trans (List.suffix_cons c r)
theorem closeF_suffix (s : Str) : closeF s <:+ s := by
  unfold closeF
  split
  · exact List.drop_suffix _ _
  · split
    · exact List.drop_suffix _ _
    · exact closeG_suffix s
theorem suffix_drop {s : ByteArray} {r : Str} {i : Nat} (h : r <:+ s.toList.drop i) : r = s.toList.drop (s.size - r.length) := by
  have h2 : r <:+ s.toList := h.trans (List.drop_suffix _ _)
  obtain ⟨t, ht⟩ := h2
  have hl : t.length + r.length = s.size := by rw [← size_toList, ← ht, List.length_append]
  rw [show s.size - r.length = t.length from by omega, ← ht, List.drop_left]

/-- the document's reader stands as the machine does -/
structure DocR (d : DocD) (m : MkM) : Prop where
  err : m.err = d.err
  rest : d.err = 0 → m.closed = true ∧ m.pass = 0 ∧ m.buf = d.text.toList.drop d.pos ∧ d.pos ≤ d.text.size
  mode : m.mode = d.mode
  name : d.mode ≠ 0 → m.name = d.name
  cdata : m.cdata = d.cdata
theorem what_same {mode : Int} {n n' : Str} {cd : Bool} {s : Str} (h : mode ≠ 0 → n = n') : whatF mode n cd s = whatF mode n' cd s := by
  by_cases hm : mode = 0
  · subst hm
    rfl
  · rw [h hm]
/-- what stands at the front of what is left -/
def whatM (m : MkM) (s : Str) : Int := whatF m.mode m.name m.cdata s
theorem DocR.what {d : DocD} {m : MkM} (h : DocR d m) (s : Str) : whatF d.mode d.name d.cdata s = whatM m s := by
  unfold whatM
  rw [h.mode, h.cdata]
  exact what_same fun hm => (h.name hm).symm
theorem what_angle {m : MkM} {s : Str} (h : whatM m s ≠ 0) : ∃ r, s = 60 :: r := by
  cases s with
  | nil => exact absurd rfl h
  | cons c r =>
    by_cases hc : c = 60
    · exact ⟨r, by rw [hc]⟩
    · refine absurd ?_ h
      unfold whatM whatF
      rw [if_pos (show (c :: r).head? ≠ some 60 from fun e => hc (Option.some.inj e))]
theorem what_zero {m : MkM} (hm : m.closed = true) {c : UInt8} {r : Str} : whatM m (c :: r) = 0 ↔ ¬ (c = 60 ∧ lookF m (c :: r) ≠ 0) := by
  by_cases hc : c = 60
  · subst hc
    rw [look_what hm]
    show _ ↔ ¬ (_ ∧ whatM m (60 :: r) ≠ 0)
    simp
  · have e : whatM m (c :: r) = 0 := by
      unfold whatM whatF
      rw [if_pos (show (c :: r).head? ≠ some 60 from fun e => hc (Option.some.inj e))]
    simp [e, hc]
/-- a text's run: n bytes, at each of which a text stands -/
theorem run_split {m : MkM} (hm : m.closed = true) : ∀ s : Str, ∃ n, n ≤ s.length ∧ runF m s = (s.take n, s.drop n) ∧ (∀ q, q < n → whatM m (s.drop q) = 0) ∧ (n < s.length → whatM m (s.drop n) ≠ 0)
  | [] => ⟨0, Nat.le_refl _, rfl, fun q h => by omega, fun h => by simp at h⟩
  | c :: r => by
    by_cases h0 : whatM m (c :: r) = 0
    · obtain ⟨n, h1, h2, h3, h4⟩ := run_split hm r
      refine ⟨n + 1, by simp only [List.length_cons]; omega, ?_, fun q hq => ?_, fun hn => ?_⟩
      · rw [runF, if_neg ((what_zero hm).1 h0), h2]
        rfl
      · cases q with
        | zero => exact h0
        | succ q => exact h3 q (by omega)
      · exact h4 (by simp only [List.length_cons] at hn; omega)
    · refine ⟨0, Nat.zero_le _, ?_, fun q h => by omega, fun _ => h0⟩
      rw [runF, if_pos (Classical.byContradiction fun h => h0 ((what_zero hm).2 h))]
      rfl
theorem what_range (m : MkM) (s : Str) : whatM m s = 0 ∨ whatM m s = 2 ∨ whatM m s = 3 ∨ whatM m s = 4 ∨ whatM m s = 5 ∨ whatM m s = 6 ∨ whatM m s = 7 ∨ whatM m s = 8 := by
  unfold whatM whatF
  repeat' split
  all_goals simp
end Go.Proofs.YtbabcohidpcjjaaGreat

/-
  The document's reader beside the machine: what a mark leaves behind: plain Lean. (Seat 4's '.Z'.)
-/
namespace Go.Proofs.YtbabcohidpcjjaaGreat
open Mem

theorem pre_len {w s : Str} (h : w.isPrefixOf s = true) : w.length ≤ s.length := (List.isPrefixOf_iff_prefix.1 h).length_le
theorem letterAt_len {s : Str} {i : Nat} (h : letterAt s i = true) : i < s.length := by
  unfold letterAt at h
  by_cases hi : i < s.length
  · exact hi
  · rw [List.getElem?_eq_none (by omega)] at h
    cases h
/-- how much stands there at the least -/
theorem what_len (m : MkM) (s : Str) : (whatM m s = 2 → 2 ≤ s.length) ∧ (whatM m s = 3 → 2 ≤ s.length) ∧ (whatM m s = 4 → 3 ≤ s.length) ∧ (whatM m s = 5 → 4 ≤ s.length) ∧ (whatM m s = 7 → 9 ≤ s.length) := by
  unfold whatM whatF
  by_cases h0 : s.head? ≠ some 60
  · rw [if_pos h0]; simp
  rw [if_neg h0]
  by_cases h1 : m.mode ≠ 0
  · rw [if_pos h1]
    by_cases h2 : standS ([60, 47] ++ m.name) s = true ∧ m.name.length + 2 < s.length ∧ (gapB (s.getD (m.name.length + 2) 0) || s.getD (m.name.length + 2) 0 == 62) = true
    · rw [if_pos h2]
      refine ⟨fun h => absurd h (by decide), fun _ => by have := h2.2.1; omega, fun h => absurd h (by decide), fun h => absurd h (by decide), fun h => absurd h (by decide)⟩
    · rw [if_neg h2]; simp
  rw [if_neg h1]
  by_cases h2 : letterAt s 1 = true
  · rw [if_pos h2]
    refine ⟨fun _ => by have := letterAt_len h2; omega, fun h => absurd h (by decide), fun h => absurd h (by decide), fun h => absurd h (by decide), fun h => absurd h (by decide)⟩
  rw [if_neg h2]
  by_cases h3 : ([60, 47] : Str).isPrefixOf s = true ∧ letterAt s 2 = true
  · rw [if_pos h3]
    refine ⟨fun h => absurd h (by decide), fun _ => by have := letterAt_len h3.2; omega, fun h => absurd h (by decide), fun h => absurd h (by decide), fun h => absurd h (by decide)⟩
  rw [if_neg h3]
  by_cases h4 : ([60, 47, 62] : Str).isPrefixOf s = true
  · rw [if_pos h4]
    refine ⟨fun h => absurd h (by decide), fun h => absurd h (by decide), fun _ => pre_len h4, fun h => absurd h (by decide), fun h => absurd h (by decide)⟩
  rw [if_neg h4]
  by_cases h5 : (([60, 47] : Str).isPrefixOf s = true ∧ 2 < s.length) ∨ ([60, 63] : Str).isPrefixOf s = true
  · rw [if_pos h5]; simp
  rw [if_neg h5]
  by_cases h6 : comW.isPrefixOf s = true
  · rw [if_pos h6]
    refine ⟨fun h => absurd h (by decide), fun h => absurd h (by decide), fun h => absurd h (by decide), fun _ => pre_len h6, fun h => absurd h (by decide)⟩
  rw [if_neg h6]
  by_cases h7 : standS docW s = true
  · rw [if_pos h7]; simp
  rw [if_neg h7]
  by_cases h8 : cdataW.isPrefixOf s = true ∧ m.cdata = true
  · rw [if_pos h8]
    refine ⟨fun h => absurd h (by decide), fun h => absurd h (by decide), fun h => absurd h (by decide), fun h => absurd h (by decide), fun _ => pre_len h8.1⟩
  rw [if_neg h8]
  split <;> simp
theorem read_err {m : MkM} (h : m.err ≠ 0) : readF m = (none, m) := by
  rw [readF, if_pos h]
theorem DocR.machine {d : DocD} {m : MkM} (h : DocR d m) (he : d.err = 0) : Rest m := ⟨(h.rest he).1, (h.rest he).2.1, h.err.trans he⟩
/-- the reader goes on to a place, the machine to what is left there -/
theorem DocR.go {d : DocD} {m m' : MkM} (h : DocR d m) (he : d.err = 0) {q : Nat} (hq : q ≤ d.text.size) (hb : m'.buf = d.text.toList.drop q) (hc : m'.closed = m.closed) (hp : m'.pass = 0) (h1 : m'.err = m.err) (h2 : m'.mode = m.mode) (h3 : m'.name = m.name) (h4 : m'.cdata = m.cdata) : DocR { d with pos := q } m' :=
  ⟨h1.trans h.err, fun _ => ⟨hc.trans (h.rest he).1, hp, hb, hq⟩, h2.trans h.mode, fun hm => h3.trans (h.name hm), h4.trans h.cdata⟩
theorem DocR.bad {d : DocD} {m : MkM} (h : DocR d m) (z : Int) (hz : z ≠ 0) : DocR { d with err := z } { m with err := z, buf := [] } :=
  ⟨rfl, fun e => absurd e hz, h.mode, h.name, h.cdata⟩
theorem DocR.ended {d : DocD} {m : MkM} (h : DocR d m) (he : d.err = 0) {q : Nat} (hq : q ≤ d.text.size) (s : Str) (hb : s = d.text.toList.drop q) (e : Bool) : DocR { d with pos := q, mode := if e then 0 else d.mode, name := if e then [] else d.name } { m with buf := s, mode := if e then 0 else m.mode } := by
  refine ⟨h.err, fun _ => ⟨(h.rest he).1, (h.rest he).2.1, hb, hq⟩, ?_, ?_, h.cdata⟩
  · cases e
    · exact h.mode
    · rfl
  · cases e
    · exact h.name
    · intro hm; exact absurd rfl hm
theorem drop_min (T : ByteArray) (q : Nat) : T.toList.drop q = T.toList.drop (min q T.size) := by
  by_cases h : q ≤ T.size
  · rw [Nat.min_eq_left h]
  · rw [Nat.min_eq_right (by omega), List.drop_of_length_le (by rw [size_toList]; omega), List.drop_of_length_le (by rw [size_toList]; omega)]
end Go.Proofs.YtbabcohidpcjjaaGreat

/-
  Contract: the document's reader's what: what stands at a place. (Seat 4's '.Z'.)
-/
namespace Go.Proofs.YtbabcohidpcjjaaGreat
open Go.RowKit Mem

/-- the document's number of what stands -/
def codeF (k : Int) : Int := if k = 0 then 0 else k - 1
theorem letter_at (T : ByteArray) (i j : Nat) : letterAt (T.toList.drop i) j = letterP T.toList (i + j) := by
  unfold letterAt letterP
  first
    | (rw [List.getElem?_drop]; cases T.toList[i + j]? <;> rfl)
    | rw [List.getElem?_drop]
theorem bk (l : Str) : (⟨l.toArray⟩ : ByteArray).toList = l := toList_strB l
set_option maxRecDepth 100000 in
set_option maxHeartbeats 8000000 in
theorem what_any (d : DocD) (b i : Nat) (w : World) (hr : Row w b (docV d)) (hs : d.text.size ≤ 4294967280) (hi : i < d.text.size) (hn : d.name.length ≤ 4294967270) :
    Calls Tryz.prog 30 #[.pointer (some ⟨b, 0, none⟩), .int .i64 i] w fun e w' => e = .returned (.int .i64 (codeF (whatF d.mode d.name d.cdata (d.text.toList.drop i)))) ∧ w = w' := by
  obtain ⟨c0, -, c2, c3, c4, -⟩ := doc_row hr
  clear hr
  obtain ⟨T, p, mode, name, cdata, er⟩ := d
  simp only at *
  obtain ⟨o, ho⟩ : ∃ o, o = codeF (whatF mode name cdata (T.toList.drop i)) := ⟨_, rfl⟩
  rw [← ho]
  have hd := drop_byte T i hi
  have hL : (T.toList.drop i).length = T.size - i := by rw [List.length_drop, size_toList]
  by_cases h60 : T[i] = 60
  · have hcT : ((T[i].toNat : Int) != 60) = false := by rw [h60]; rfl
    have hh : ¬ ((T.toList.drop i).head? ≠ some 60) := by rw [hd, h60]; simp
    unfold whatF at ho
    rw [if_neg hh] at ho
    by_cases hm : mode = 0
    · rw [if_neg (fun h => h hm), letter_at, letter_at, hL] at ho
      have hmT : (mode != 0) = false := by rw [hm]; rfl
      have l1 := fun u => dletter_any T (i + 1) u (by omega) (by omega)
      have l2 := fun u => dletter_any T (i + 2) u (by omega) (by omega)
      have hS := fun (l : Str) (sm : Bool) (hl : l.length ≤ 10) u => stands_any T i ⟨l.toArray⟩ sm u (by omega) (by rw [← size_toList, bk]; omega) (by omega)
      have s2 := hS [60, 47] false (by decide)
      have s3 := hS [60, 47, 62] false (by decide)
      have sq := hS [60, 63] false (by decide)
      have sc := hS comW false (by decide)
      have sd := hS docW true (by decide)
      have sx := hS cdataW false (by decide)
      have se := hS [60, 33] false (by decide)
      rw [bk, show standP false [60, 47] (T.toList.drop i) = ([60, 47] : Str).isPrefixOf (T.toList.drop i) from rfl] at s2
      rw [bk, show standP false [60, 47, 62] (T.toList.drop i) = ([60, 47, 62] : Str).isPrefixOf (T.toList.drop i) from rfl] at s3
      rw [bk, show standP false [60, 63] (T.toList.drop i) = ([60, 63] : Str).isPrefixOf (T.toList.drop i) from rfl] at sq
      rw [bk, show standP false comW (T.toList.drop i) = (comW : Str).isPrefixOf (T.toList.drop i) from rfl] at sc
      rw [bk, show standP false cdataW (T.toList.drop i) = (cdataW : Str).isPrefixOf (T.toList.drop i) from rfl] at sx
      rw [bk, show standP false [60, 33] (T.toList.drop i) = ([60, 33] : Str).isPrefixOf (T.toList.drop i) from rfl] at se
      rw [bk, show standP true docW (T.toList.drop i) = standS docW (T.toList.drop i) from rfl] at sd
      generalize letterP T.toList (i + 1) = b1 at *
      generalize letterP T.toList (i + 2) = b2 at *
      generalize ([60, 47] : Str).isPrefixOf (T.toList.drop i) = p2 at *
      generalize ([60, 47, 62] : Str).isPrefixOf (T.toList.drop i) = p3 at *
      generalize ([60, 63] : Str).isPrefixOf (T.toList.drop i) = pq at *
      generalize comW.isPrefixOf (T.toList.drop i) = pc at *
      generalize standS docW (T.toList.drop i) = pd at *
      generalize cdataW.isPrefixOf (T.toList.drop i) = px at *
      generalize ([60, 33] : Str).isPrefixOf (T.toList.drop i) = pe at *
      have L1 : Hid (∀ u, Calls Tryz.prog 45 #[.string T, .int .i64 ((i : Int) + 1)] u fun e w' => e = .returned (.bool b1) ∧ u = w') := l1
      have L2 : Hid (∀ u, Calls Tryz.prog 45 #[.string T, .int .i64 ((i : Int) + 2)] u fun e w' => e = .returned (.bool b2) ∧ u = w') := l2
      have S2 := Lib.hid s2
      have S3 := Lib.hid s3
      have SQ := Lib.hid sq
      have SC := Lib.hid sc
      have SD := Lib.hid sd
      have SX := Lib.hid sx
      have SE := Lib.hid se
      have hlt : (2 < T.size - i) ↔ (i + 2 < T.size) := by omega
      simp only [hlt] at ho
      clear l1 l2 hS s2 s3 sq sc sd sx se hd hL hh hlt h60 hm
      have HO := Lib.hid ho
      clear ho
      go_enter Tryz.func30, Tryz.ntmps30
      go_wp2_with fail
      refine (L1.out _).mono ?_
      rintro e w1 ⟨rfl, rfl⟩
      dsimp only
      cases b1
      · skip
        go_wp2_with fail
        refine (S2.out _).mono ?_
        rintro e w1 ⟨rfl, rfl⟩
        dsimp only
        cases p2
        · skip
          go_wp2_with fail
          refine (S3.out _).mono ?_
          rintro e w1 ⟨rfl, rfl⟩
          dsimp only
          cases p3
          · skip
            go_wp2_with fail
            refine (S2.out _).mono ?_
            rintro e w1 ⟨rfl, rfl⟩
            dsimp only
            go_wp2_with fail
            refine (SQ.out _).mono ?_
            rintro e w1 ⟨rfl, rfl⟩
            dsimp only
            cases pq
            · skip
              go_wp2_with fail
              refine (SC.out _).mono ?_
              rintro e w1 ⟨rfl, rfl⟩
              dsimp only
              cases pc
              · skip
                go_wp2_with fail
                refine (SD.out _).mono ?_
                rintro e w1 ⟨rfl, rfl⟩
                dsimp only
                cases pd
                · skip
                  go_wp2_with fail
                  refine (SX.out _).mono ?_
                  rintro e w1 ⟨rfl, rfl⟩
                  dsimp only
                  cases px
                  · skip
                    go_wp2_with fail
                    refine (SE.out _).mono ?_
                    rintro e w1 ⟨rfl, rfl⟩
                    dsimp only
                    cases pe
                    · skip
                      go_wp2_with fail
                      go_ret
                      exact ⟨ret_int (by rw [HO.out]; simp [*, codeF]; done), rfl⟩
                    · skip
                      go_wp2_with fail
                      go_ret
                      exact ⟨ret_int (by rw [HO.out]; simp [*, codeF]; done), rfl⟩
                  · cases cdata
                    · skip
                      go_wp2_with fail
                      refine (SE.out _).mono ?_
                      rintro e w1 ⟨rfl, rfl⟩
                      dsimp only
                      cases pe
                      · skip
                        go_wp2_with fail
                        go_ret
                        exact ⟨ret_int (by rw [HO.out]; simp [*, codeF]; done), rfl⟩
                      · skip
                        go_wp2_with fail
                        go_ret
                        exact ⟨ret_int (by rw [HO.out]; simp [*, codeF]; done), rfl⟩
                    · skip
                      go_wp2_with fail
                      go_ret
                      exact ⟨ret_int (by rw [HO.out]; simp [*, codeF]; done), rfl⟩
                · skip
                  go_wp2_with fail
                  go_ret
                  exact ⟨ret_int (by rw [HO.out]; simp [*, codeF]; done), rfl⟩
              · skip
                go_wp2_with fail
                go_ret
                exact ⟨ret_int (by rw [HO.out]; simp [*, codeF]; done), rfl⟩
            · skip
              go_wp2_with fail
              go_ret
              exact ⟨ret_int (by rw [HO.out]; simp [*, codeF]; done), rfl⟩
          · skip
            go_wp2_with fail
            go_ret
            exact ⟨ret_int (by rw [HO.out]; simp [*, codeF]; done), rfl⟩
        · skip
          go_wp2_with fail
          refine (L2.out _).mono ?_
          rintro e w1 ⟨rfl, rfl⟩
          dsimp only
          cases b2
          · skip
            go_wp2_with fail
            refine (S3.out _).mono ?_
            rintro e w1 ⟨rfl, rfl⟩
            dsimp only
            cases p3
            · skip
              go_wp2_with fail
              refine (S2.out _).mono ?_
              rintro e w1 ⟨rfl, rfl⟩
              dsimp only
              by_cases hlt : i + 2 < T.size
              · have hlti : (i : Int) + 2 < (T.size : Int) := by omega
                go_wp2_with fail
                go_ret
                exact ⟨ret_int (by rw [HO.out]; simp [*, codeF]; done), rfl⟩
              · have hlti : ¬ (i : Int) + 2 < (T.size : Int) := by omega
                go_wp2_with fail
                refine (SQ.out _).mono ?_
                rintro e w1 ⟨rfl, rfl⟩
                dsimp only
                cases pq
                · skip
                  go_wp2_with fail
                  refine (SC.out _).mono ?_
                  rintro e w1 ⟨rfl, rfl⟩
                  dsimp only
                  cases pc
                  · skip
                    go_wp2_with fail
                    refine (SD.out _).mono ?_
                    rintro e w1 ⟨rfl, rfl⟩
                    dsimp only
                    cases pd
                    · skip
                      go_wp2_with fail
                      refine (SX.out _).mono ?_
                      rintro e w1 ⟨rfl, rfl⟩
                      dsimp only
                      cases px
                      · skip
                        go_wp2_with fail
                        refine (SE.out _).mono ?_
                        rintro e w1 ⟨rfl, rfl⟩
                        dsimp only
                        cases pe
                        · skip
                          go_wp2_with fail
                          go_ret
                          exact ⟨ret_int (by rw [HO.out]; simp [*, codeF]; done), rfl⟩
                        · skip
                          go_wp2_with fail
                          go_ret
                          exact ⟨ret_int (by rw [HO.out]; simp [*, codeF]; done), rfl⟩
                      · cases cdata
                        · skip
                          go_wp2_with fail
                          refine (SE.out _).mono ?_
                          rintro e w1 ⟨rfl, rfl⟩
                          dsimp only
                          cases pe
                          · skip
                            go_wp2_with fail
                            go_ret
                            exact ⟨ret_int (by rw [HO.out]; simp [*, codeF]; done), rfl⟩
                          · skip
                            go_wp2_with fail
                            go_ret
                            exact ⟨ret_int (by rw [HO.out]; simp [*, codeF]; done), rfl⟩
                        · skip
                          go_wp2_with fail
                          go_ret
                          exact ⟨ret_int (by rw [HO.out]; simp [*, codeF]; done), rfl⟩
                    · skip
                      go_wp2_with fail
                      go_ret
                      exact ⟨ret_int (by rw [HO.out]; simp [*, codeF]; done), rfl⟩
                  · skip
                    go_wp2_with fail
                    go_ret
                    exact ⟨ret_int (by rw [HO.out]; simp [*, codeF]; done), rfl⟩
                · skip
                  go_wp2_with fail
                  go_ret
                  exact ⟨ret_int (by rw [HO.out]; simp [*, codeF]; done), rfl⟩
            · skip
              go_wp2_with fail
              go_ret
              exact ⟨ret_int (by rw [HO.out]; simp [*, codeF]; done), rfl⟩
          · skip
            go_wp2_with fail
            go_ret
            exact ⟨ret_int (by rw [HO.out]; simp [*, codeF]; done), rfl⟩
      · skip
        go_wp2_with fail
        go_ret
        exact ⟨ret_int (by rw [HO.out]; simp [*, codeF]; done), rfl⟩
    · rw [if_pos hm, hL] at ho
      have hmT : (mode != 0) = true := bne_iff_ne.2 hm
      obtain ⟨word, hw⟩ : ∃ word : ByteArray, word = (⟨#[60, 47]⟩ : ByteArray) ++ strB name := ⟨_, rfl⟩
      have hwl : word.toList = [60, 47] ++ name := by
        rw [hw, ByteArray.toList_eq, ByteArray.data_append, Array.toList_append]
        rfl
      have hwz : word.size = name.length + 2 := by rw [← size_toList, hwl]; simp
      have hS := fun u => stands_any T i word true u (by omega) (by omega) (by omega)
      rw [hwl, show standP true ([60, 47] ++ name) (T.toList.drop i) = standS ([60, 47] ++ name) (T.toList.drop i) from rfl] at hS
      have HW : Hid ((⟨#[60, 47]⟩ : ByteArray) ++ strB name = word) := hw.symm
      have hcat : ¬ 9223372036854775807 < 2 + (strB name).size := by rw [strB_size]; omega
      have hnz : (strB name).size = name.length := strB_size name
      generalize standS ([60, 47] ++ name) (T.toList.drop i) = e1 at *
      have HS := Lib.hid hS
      clear hS hw hwl hwz
      cases e1
      · have HO : Hid (o = 0) := by show _ = _; rw [ho, if_neg (fun h => by cases h.1)]; rfl
        clear ho hd hL hh h60
        go_enter Tryz.func30, Tryz.ntmps30
        go_wp2_with (go_at_call 43; go_must (rw [HW.out]; refine (HS.out _).mono ?_; rintro e w1 ⟨rfl, rfl⟩))
        go_ret
        exact ⟨ret_int HO.out.symm, rfl⟩
      · by_cases hk : i + 2 + (strB name).size < T.size
        · have hget : (T.toList.drop i).getD (name.length + 2) 0 = T[i + 2 + (strB name).size] := by
            rw [List.getD_eq_getElem?_getD, List.getElem?_drop, show i + (name.length + 2) = i + 2 + (strB name).size from by omega, raw_byte hk]; rfl
          rw [hget] at ho
          have hkI : (i : Int) + 2 + ((strB name).size : Int) < (T.size : Int) := by omega
          have hl2 : name.length + 2 < T.size - i := by omega
          have hsp := fun u => dSpace_any T[i + 2 + (strB name).size] u
          unfold gapB at ho
          rw [ueq T[i + 2 + (strB name).size] 47, ueq T[i + 2 + (strB name).size] 62] at ho
          have h256 := T[i + 2 + (strB name).size].toNat_lt
          generalize spaceB T[i + 2 + (strB name).size] = sp at *
          have ho2 : o = codeF (if (sp || ((T[i + 2 + (strB name).size].toNat : Int) == 47) || ((T[i + 2 + (strB name).size].toNat : Int) == 62)) = true then 3 else 0) := by
            rw [ho]
            simp only [hl2, true_and]
            rfl
          have HO := Lib.hid ho2
          have HSP := Lib.hid hsp
          clear ho ho2 hsp hget hd hL hh h60 hm hnz
          cases sp
          all_goals cases h47 : ((T[i + 2 + (strB name).size].toNat : Int) == 47)
          all_goals cases h62 : ((T[i + 2 + (strB name).size].toNat : Int) == 62)
          all_goals
            go_enter Tryz.func30, Tryz.ntmps30
            go_wp2_with (first
              | (go_at_call 43; go_must (rw [HW.out]; refine (HS.out _).mono ?_; rintro e w1 ⟨rfl, rfl⟩))
              | (go_at_call 44; go_must (refine (HSP.out _).mono ?_; rintro e w2 ⟨rfl, rfl⟩)))
          all_goals go_ret
          all_goals exact ⟨ret_int (by rw [HO.out]; simp [*, codeF]; done), rfl⟩
        · have HO : Hid (o = 0) := by show _ = _; rw [ho, if_neg (fun h => by have := h.2.1; omega)]; rfl
          have hkI : ¬ (i : Int) + 2 + ((strB name).size : Int) < (T.size : Int) := by omega
          clear ho hd hL hh h60
          go_enter Tryz.func30, Tryz.ntmps30
          go_wp2_with (go_at_call 43; go_must (rw [HW.out]; refine (HS.out _).mono ?_; rintro e w1 ⟨rfl, rfl⟩))
          go_ret
          exact ⟨ret_int HO.out.symm, rfl⟩
  · have hcT : ((T[i].toNat : Int) != 60) = true := by rw [bne_iff_ne]; intro h; exact h60 (UInt8.toNat_inj.1 (by have : (60 : UInt8).toNat = 60 := rfl; omega))
    have HO : Hid (o = 0) := by
      show _ = _
      rw [ho]
      unfold whatF
      rw [if_pos (by rw [hd]; simp [h60])]
      rfl
    clear ho hd hL h60
    go_enter Tryz.func30, Tryz.ntmps30
    go_wp2_with fail
    go_ret
    exact ⟨ret_int HO.out.symm, rfl⟩
end Go.Proofs.YtbabcohidpcjjaaGreat
