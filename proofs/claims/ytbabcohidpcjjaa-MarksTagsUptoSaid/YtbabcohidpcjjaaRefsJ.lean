/-
  Contract: refs.number: what the digits behind &# say.
-/
import Derived.Test.YtbabcohidpcjjaaRefsI
import Derived.Test.YtbabcohidpcjjaaRefsLaws
namespace Go.Proofs.Ytbabcohidpcjjaa
open Go.RowKit Mem

theorem int_eq {k : IntKind} {a b : Int} (h : a = b) : Value.int k a = .int k b := by rw [h]
theorem digsF_go {b f v : Nat} {c : UInt8} {r : Str} (h : digV c.toNat < b) : digsF b (f + 1) (c :: r) v = ((digsF b f r (min (v * b + digV c.toNat) 0x110000)).1 + 1, (digsF b f r (min (v * b + digV c.toNat) 0x110000)).2) := by
  have : digF b c = some (digV c.toNat) := by rw [digF, if_pos h]
  rw [digsF, this]
theorem digsF_break {b f v : Nat} {c : UInt8} {r : Str} (h : ¬ digV c.toNat < b) : digsF b (f + 1) (c :: r) v = (0, v) := by
  have : digF b c = none := by rw [digF, if_neg h]
  rw [digsF, this]
theorem digsF_fuel {b v : Nat} {r : Str} : digsF b 0 r v = (0, v) := by rw [digsF]
theorem digsF_nil {b f v : Nat} : digsF b f [] v = (0, v) := by cases f <;> rfl
theorem drop_byte (s : ByteArray) (p : Nat) (h : p < s.size) : s.toList.drop p = s[p] :: s.toList.drop (p + 1) := by
  have h' : p < s.toList.length := by rw [size_toList]; exact h
  rw [List.drop_eq_getElem_cons h']
  congr 1
  simp only [ByteArray.toList_eq]
  rfl
theorem xB_byte (s : ByteArray) (h : 0 < s.size) : xB s.toList = (s[0] == 120 || s[0] == 88) := by
  have := drop_byte s 0 h
  rw [List.drop_zero] at this
  rw [this]; rfl
theorem xB_empty {s : ByteArray} (h : ¬ 0 < s.size) : xB s.toList = false := by
  have : s.toList = [] := List.eq_nil_of_length_eq_zero (by rw [size_toList]; omega)
  rw [this]; rfl
theorem head_x {s : Str} (h : xB s = true) : headN s = 1 ∧ numG s = digsF 16 16 (s.drop 1) 0 := by unfold numG headN baseN; simp [h]
theorem head_n {s : Str} (h : xB s = false) : headN s = 0 ∧ numG s = digsF 10 16 (s.drop 0) 0 := by unfold numG headN baseN; simp [h]
theorem ret_num {s : Str} {p f v : Nat} {b : Bool} (hh : headN s = f) (hg : numG s = ((p - f) + 0, v)) (hp : f ≤ p) (hb : b = decide ((f : Int) < (p : Int))) :
    Ending.returned (.tuple #[.int .i64 p, .int .i64 v, .bool b]) = .returned (.tuple #[.int .i64 (numN s), .int .i64 (numG s).2, .bool (decide (0 < (numG s).1))]) := by
  have h1 : numN s = p := by unfold numN; rw [hh, hg]; show f + (p - f + 0) = p; omega
  have h2 : decide ((f : Int) < (p : Int)) = decide (0 < p - f + 0) := decide_eq_decide.2 (by omega)
  rw [h1, hg, hb, h2]
theorem byte_ne {b c : UInt8} (h : b ≠ c) : ((b.toNat : Int) == (c.toNat : Int)) = false := by
  rw [beq_eq_false_iff_ne]
  intro e
  exact h (UInt8.toNat_inj.1 (by omega))
set_option maxHeartbeats 2000000 in
theorem number_any (s : ByteArray) (w : World) (hs : s.size ≤ 9223372036854775807) : Calls Try.prog 61 #[.string s] w fun e w' => e = .returned (.tuple #[.int .i64 (numN s.toList), .int .i64 (numG s.toList).2, .bool (decide (0 < (numG s.toList).1))]) ∧ w = w' := by
  by_cases h0 : 0 < s.size
  · have hne := ne_empty (s := s) (by intro h; have := size_toList s; rw [h] at this; simp at this; omega)
    have hxB := xB_byte s h0
    by_cases hx : s[0] = 120
    · obtain ⟨hh, hg⟩ := head_x (s := s.toList) (by rw [hxB, hx]; rfl)
      have HH := Lib.hid hh
      have HG := Lib.hid hg
      clear hh hg hxB
      go_enter Try.func61, Try.ntmps61
      go_wp2_with fail
      go_loop [5, 8] (fun i n => ∃ p v : Nat, 1 ≤ p ∧ p ≤ 17 ∧ p ≤ s.size ∧ v ≤ 1114112 ∧ i = .int .i64 p ∧ n = .int .i64 v ∧ numG s.toList = ((p - 1) + (digsF 16 (17 - p) (s.toList.drop p) v).1, (digsF 16 (17 - p) (s.toList.drop p) v).2)) (fun i _ => s.size - (intOf i).toNat)
      case atStart => exact ⟨1, 0, by omega, by omega, by omega, by omega, rfl, rfl, by rw [HG.out, Nat.sub_self, Nat.zero_add]⟩
      case round =>
        obtain ⟨p, v, hp0, hp1, hp2, hv, rfl, rfl, hg⟩ := hrel
        have HR := Lib.hid hg
        clear hg
        by_cases hlt : p < s.size
        · by_cases hlf : p < 17
          · have hu := s[p].toNat_lt
            have hdr := drop_byte s p hlt
            have hfu : 17 - p = (16 - p) + 1 := by omega
            rw [hfu, hdr] at HR
            have hval : Calls Try.prog 80 #[.int .u8 (s[p].toNat : Nat), .int .i64 16] w _ := value_any s[p].toNat 16 (by omega) w
            by_cases hd : digV s[p].toNat < 16
            · have hg := digsF_go (f := 16 - p) (r := s.toList.drop (p + 1)) (v := v) hd
              rw [hg] at HR
              obtain ⟨d, hdd⟩ : ∃ d, d = digV s[p].toNat := ⟨_, rfl⟩
              rw [← hdd] at HR hval hd
              rw [decide_eq_true hd] at hval
              have HV := Lib.hid hval
              clear hval hg hdr hfu hdd
              go_wp2_with (go_at_call 80; go_must (refine HV.out.mono ?_; rintro e w1 ⟨rfl, rfl⟩))
              go_round
              case rel => exact ⟨p + 1, min (v * 16 + d) 1114112, by omega, by omega, by omega, by omega, by go_num, int_eq (by omega), by rw [HR.out, show 17 - (p + 1) = 16 - p from by omega, show p + 1 - 1 = p - 1 + 1 from by omega]; exact Prod.ext (by show _ + (_ + 1) = _ + 1 + _; omega) rfl⟩
              case measure => simp [intOf]; omega
            · have hg := digsF_break (f := 16 - p) (r := s.toList.drop (p + 1)) (v := v) hd
              rw [hg] at HR
              rw [decide_eq_false hd] at hval
              have HV := Lib.hid hval
              clear hval hg hdr hfu hd
              go_wp2_with (go_at_call 80; go_must (refine HV.out.mono ?_; rintro e w1 ⟨rfl, rfl⟩))
              go_ret3
              exact ⟨ret_num HH.out HR.out hp0 (decide_eq_decide.2 (by omega)), rfl⟩
          · have hfu : 17 - p = 0 := by omega
            rw [hfu, digsF_fuel] at HR
            clear hfu
            go_wp2_with fail
            go_ret3
            exact ⟨ret_num HH.out HR.out hp0 (decide_eq_decide.2 (by omega)), rfl⟩
        · have hdr : s.toList.drop p = [] := List.drop_of_length_le (by rw [size_toList]; omega)
          rw [hdr, digsF_nil] at HR
          clear hdr
          go_wp2_with fail
          go_ret3
          exact ⟨ret_num HH.out HR.out hp0 (decide_eq_decide.2 (by omega)), rfl⟩
    · by_cases hX : s[0] = 88
      · obtain ⟨hh, hg⟩ := head_x (s := s.toList) (by rw [hxB, hX]; rfl)
        have HH := Lib.hid hh
        have HG := Lib.hid hg
        clear hh hg hxB hx
        go_enter Try.func61, Try.ntmps61
        go_wp2_with fail
        go_loop [5, 8] (fun i n => ∃ p v : Nat, 1 ≤ p ∧ p ≤ 17 ∧ p ≤ s.size ∧ v ≤ 1114112 ∧ i = .int .i64 p ∧ n = .int .i64 v ∧ numG s.toList = ((p - 1) + (digsF 16 (17 - p) (s.toList.drop p) v).1, (digsF 16 (17 - p) (s.toList.drop p) v).2)) (fun i _ => s.size - (intOf i).toNat)
        case atStart => exact ⟨1, 0, by omega, by omega, by omega, by omega, rfl, rfl, by rw [HG.out, Nat.sub_self, Nat.zero_add]⟩
        case round =>
          obtain ⟨p, v, hp0, hp1, hp2, hv, rfl, rfl, hg⟩ := hrel
          have HR := Lib.hid hg
          clear hg
          by_cases hlt : p < s.size
          · by_cases hlf : p < 17
            · have hu := s[p].toNat_lt
              have hdr := drop_byte s p hlt
              have hfu : 17 - p = (16 - p) + 1 := by omega
              rw [hfu, hdr] at HR
              have hval : Calls Try.prog 80 #[.int .u8 (s[p].toNat : Nat), .int .i64 16] w _ := value_any s[p].toNat 16 (by omega) w
              by_cases hd : digV s[p].toNat < 16
              · have hg := digsF_go (f := 16 - p) (r := s.toList.drop (p + 1)) (v := v) hd
                rw [hg] at HR
                obtain ⟨d, hdd⟩ : ∃ d, d = digV s[p].toNat := ⟨_, rfl⟩
                rw [← hdd] at HR hval hd
                rw [decide_eq_true hd] at hval
                have HV := Lib.hid hval
                clear hval hg hdr hfu hdd
                go_wp2_with (go_at_call 80; go_must (refine HV.out.mono ?_; rintro e w1 ⟨rfl, rfl⟩))
                go_round
                case rel => exact ⟨p + 1, min (v * 16 + d) 1114112, by omega, by omega, by omega, by omega, by go_num, int_eq (by omega), by rw [HR.out, show 17 - (p + 1) = 16 - p from by omega, show p + 1 - 1 = p - 1 + 1 from by omega]; exact Prod.ext (by show _ + (_ + 1) = _ + 1 + _; omega) rfl⟩
                case measure => simp [intOf]; omega
              · have hg := digsF_break (f := 16 - p) (r := s.toList.drop (p + 1)) (v := v) hd
                rw [hg] at HR
                rw [decide_eq_false hd] at hval
                have HV := Lib.hid hval
                clear hval hg hdr hfu hd
                go_wp2_with (go_at_call 80; go_must (refine HV.out.mono ?_; rintro e w1 ⟨rfl, rfl⟩))
                go_ret3
                exact ⟨ret_num HH.out HR.out hp0 (decide_eq_decide.2 (by omega)), rfl⟩
            · have hfu : 17 - p = 0 := by omega
              rw [hfu, digsF_fuel] at HR
              clear hfu
              go_wp2_with fail
              go_ret3
              exact ⟨ret_num HH.out HR.out hp0 (decide_eq_decide.2 (by omega)), rfl⟩
          · have hdr : s.toList.drop p = [] := List.drop_of_length_le (by rw [size_toList]; omega)
            rw [hdr, digsF_nil] at HR
            clear hdr
            go_wp2_with fail
            go_ret3
            exact ⟨ret_num HH.out HR.out hp0 (decide_eq_decide.2 (by omega)), rfl⟩
      · obtain ⟨hh, hg⟩ := head_n (s := s.toList) (by rw [hxB]; simp [hx, hX])
        have HH := Lib.hid hh
        have HG := Lib.hid hg
        have hx' : ((s[0].toNat : Int) == 120) = false := byte_ne hx
        have hX' : ((s[0].toNat : Int) == 88) = false := byte_ne hX
        clear hh hg hxB hx hX
        go_enter Try.func61, Try.ntmps61
        go_wp2_with fail
        go_loop [5, 8] (fun i n => ∃ p v : Nat, 0 ≤ p ∧ p ≤ 16 ∧ p ≤ s.size ∧ v ≤ 1114112 ∧ i = .int .i64 p ∧ n = .int .i64 v ∧ numG s.toList = ((p - 0) + (digsF 10 (16 - p) (s.toList.drop p) v).1, (digsF 10 (16 - p) (s.toList.drop p) v).2)) (fun i _ => s.size - (intOf i).toNat)
        case atStart => exact ⟨0, 0, by omega, by omega, by omega, by omega, rfl, rfl, by rw [HG.out, Nat.sub_self, Nat.zero_add]⟩
        case round =>
          obtain ⟨p, v, hp0, hp1, hp2, hv, rfl, rfl, hg⟩ := hrel
          have HR := Lib.hid hg
          clear hg
          by_cases hlt : p < s.size
          · by_cases hlf : p < 16
            · have hu := s[p].toNat_lt
              have hdr := drop_byte s p hlt
              have hfu : 16 - p = (15 - p) + 1 := by omega
              rw [hfu, hdr] at HR
              have hval : Calls Try.prog 80 #[.int .u8 (s[p].toNat : Nat), .int .i64 10] w _ := value_any s[p].toNat 10 (by omega) w
              by_cases hd : digV s[p].toNat < 10
              · have hg := digsF_go (f := 15 - p) (r := s.toList.drop (p + 1)) (v := v) hd
                rw [hg] at HR
                obtain ⟨d, hdd⟩ : ∃ d, d = digV s[p].toNat := ⟨_, rfl⟩
                rw [← hdd] at HR hval hd
                rw [decide_eq_true hd] at hval
                have HV := Lib.hid hval
                clear hval hg hdr hfu hdd
                go_wp2_with (go_at_call 80; go_must (refine HV.out.mono ?_; rintro e w1 ⟨rfl, rfl⟩))
                go_round
                case rel => exact ⟨p + 1, min (v * 10 + d) 1114112, by omega, by omega, by omega, by omega, by go_num, int_eq (by omega), by rw [HR.out, show 16 - (p + 1) = 15 - p from by omega, show p + 1 - 0 = p - 0 + 1 from by omega]; exact Prod.ext (by show _ + (_ + 1) = _ + 1 + _; omega) rfl⟩
                case measure => simp [intOf]; omega
              · have hg := digsF_break (f := 15 - p) (r := s.toList.drop (p + 1)) (v := v) hd
                rw [hg] at HR
                rw [decide_eq_false hd] at hval
                have HV := Lib.hid hval
                clear hval hg hdr hfu hd
                go_wp2_with (go_at_call 80; go_must (refine HV.out.mono ?_; rintro e w1 ⟨rfl, rfl⟩))
                go_ret3
                exact ⟨ret_num HH.out HR.out hp0 (decide_eq_decide.2 (by omega)), rfl⟩
            · have hfu : 16 - p = 0 := by omega
              rw [hfu, digsF_fuel] at HR
              clear hfu
              go_wp2_with fail
              go_ret3
              exact ⟨ret_num HH.out HR.out hp0 (decide_eq_decide.2 (by omega)), rfl⟩
          · have hdr : s.toList.drop p = [] := List.drop_of_length_le (by rw [size_toList]; omega)
            rw [hdr, digsF_nil] at HR
            clear hdr
            go_wp2_with fail
            go_ret3
            exact ⟨ret_num HH.out HR.out hp0 (decide_eq_decide.2 (by omega)), rfl⟩
  · obtain ⟨hh, hg⟩ := head_n (xB_empty h0)
    have HH := Lib.hid hh
    have HG := Lib.hid hg
    have hem : s.toList.isEmpty = true := is_empty (List.eq_nil_of_length_eq_zero (by rw [size_toList]; omega))
    clear hh hg
    go_enter Try.func61, Try.ntmps61
    go_wp2_with fail
    go_loop [5, 8] (fun i n => ∃ p v : Nat, 0 ≤ p ∧ p ≤ 16 ∧ p ≤ s.size ∧ v ≤ 1114112 ∧ i = .int .i64 p ∧ n = .int .i64 v ∧ numG s.toList = ((p - 0) + (digsF 10 (16 - p) (s.toList.drop p) v).1, (digsF 10 (16 - p) (s.toList.drop p) v).2)) (fun i _ => s.size - (intOf i).toNat)
    case atStart => exact ⟨0, 0, by omega, by omega, by omega, by omega, rfl, rfl, by rw [HG.out, Nat.sub_self, Nat.zero_add]⟩
    case round =>
      obtain ⟨p, v, hp0, hp1, hp2, hv, rfl, rfl, hg⟩ := hrel
      have HR := Lib.hid hg
      clear hg
      have hlt : ¬ p < s.size := by omega
      have hdr : s.toList.drop p = [] := List.drop_of_length_le (by rw [size_toList]; omega)
      rw [hdr, digsF_nil] at HR
      clear hdr
      go_wp2_with fail
      go_ret3
      exact ⟨ret_num HH.out HR.out hp0 (decide_eq_decide.2 (by omega)), rfl⟩
end Go.Proofs.Ytbabcohidpcjjaa
