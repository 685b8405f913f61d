/-
  The law RefsNumbers, walked: true of every number.
-/
import Derived.Test.YtcgkenmgglediaaDoorRefsAB
import Derived.Test.YtcgkenmgglediaaDoorRefsE
namespace Go.Proofs.YtcgkenmgglediaaDoor
open Go.RowKit Mem

theorem of_wf32 {n : Int} (h : (Lit.int .i32 n).wf = true) : -2147483648 ≤ n ∧ n ≤ 2147483647 := by
  simp only [Lit.wf, Bool.and_eq_true, decide_eq_true_eq] at h
  exact h
theorem tdiv_nat (v b : Nat) : (v : Int).tdiv (b : Nat) = ((v / b : Nat) : Int) := Int.ofNat_tdiv v b |>.symm
theorem tmod_nat (v b : Nat) : (v : Int).tmod (b : Nat) = ((v % b : Nat) : Int) := Int.ofNat_tmod v b |>.symm
theorem list2 (s : ByteArray) (l : Str) (h : s = ⟨l.toArray⟩) : s.toList = l := by rw [h]; exact toList_strB l

/-- the reference that the law writes is taken whole -/
theorem law_take (attr : Bool) {b c : Nat} {x : ByteArray} {hd : Str} {pad ten e : ByteArray} (hcase : (b = 10 ∧ hd = []) ∨ (b = 16 ∧ (hd = [120] ∨ hd = [88]))) (hx : x.toList = 38 :: 35 :: hd)
    (hp : ∃ p, p ≤ 7 ∧ pad.toList = List.replicate p 48) (hg : Good b c ten.toList 0) (hc0 : c ≠ 0) (hc : c ≤ 0x10ffff) (he : e.toList = [] ∨ e.toList = [59]) (u : World) :
    Calls Tryd.prog 17 #[.string (x ++ pad ++ ten ++ e ++ ⟨#[122]⟩), .bool attr] u fun e' w' =>
      e' = .returned (.tuple #[.string (strB (numF c)), .int .i64 (x ++ pad ++ ten ++ e).size]) ∧ Below u.heap.size u w' := by
  have hp' := hp
  obtain ⟨p, hp7, hpl⟩ := hp'
  have s1 : pad.size = p := by rw [← size_toList, hpl, List.length_replicate]
  have s2 : ten.size ≤ 7 := by rw [← size_toList]; exact hg.2.2.2
  have s3 : e.size ≤ 1 := by rw [← size_toList]; rcases he with h | h <;> simp [h]
  have s4 : hd.length ≤ 1 := by rcases hcase with ⟨_, rfl⟩ | ⟨_, rfl | rfl⟩ <;> simp
  have s5 : x.size = hd.length + 2 := by rw [← size_toList, hx]; rfl
  have hl : (x ++ pad ++ ten ++ e ++ ⟨#[122]⟩ : ByteArray).toList = 38 :: 35 :: (hd ++ (pad.toList ++ ten.toList ++ (e.toList ++ [122]))) := by
    rw [toList_append, toList_append, toList_append, toList_append, hx, list2 ⟨#[122]⟩ [122] rfl]
    simp
  have hz : (x ++ pad ++ ten ++ e).size = hd.length + (pad.toList.length + ten.toList.length) + e.toList.length + 2 := by
    rw [ByteArray.size_append, ByteArray.size_append, ByteArray.size_append, s5, size_toList, size_toList, size_toList]; omega
  have h := Take_any (x ++ pad ++ ten ++ e ++ ⟨#[122]⟩) attr u (by rw [ByteArray.size_append, hz, size_toList, size_toList, size_toList]; show _ + 1 ≤ _; omega)
  rw [hl, num_take hcase hp hg.1 hg.2.2.2 hg.2.1 hc0 hc he] at h
  rw [hz]
  exact h

set_option maxRecDepth 100000 in
set_option maxHeartbeats 4000000 in
theorem numbers_no (c k : Int) (closed large : Bool) (m : Int) (w : World) (hc : -2147483648 ≤ c ∧ c ≤ 2147483647) (hno : charB c = false ∨ c = 0 ∨ (128 ≤ c ∧ c < 160)) (hm : w.cell? ⟨0, 0, none⟩ = some (.int .i64 m)) :
    Calls Tryd.prog 9 #[.int .i32 c, .int .i64 k, .bool closed, .bool large] w fun e w' => e = .returned (.bool true) ∧ Below w.heap.size w w' := by
  have H0 := Lib.hid (shown_any m w hm)
  have HC := Lib.hid (fun u => Char08_any c u (by omega) (by omega))
  have hwr : IntKind.i64.wrap c = c := by rw [IntKind.wrap_i64]; omega
  cases hcb : charB c
  · have hn := fun u => Number_any c u (by omega) (by omega)
    rw [numF_bad (.inr hcb), show strB (encF 0xfffd) = ⟨#[239, 191, 189]⟩ from rfl] at hn
    have HN := Lib.hid hn
    rw [hcb] at HC
    clear hm hn hno hcb
    go_enter Tryd.func9, Tryd.ntmps9
    go_wp2_with (first
      | (go_at_call 12; go_must (refine H0.out.mono ?_; rintro e w1 ⟨rfl, hb⟩; have HB1 := Lib.hid hb; clear hb))
      | (go_at_call 25; go_must (refine (HC.out _).mono ?_; rintro e w2 ⟨rfl, rfl⟩))
      | (go_at_call 15; go_must (refine (HN.out _).mono ?_; rintro e w3 ⟨rfl, hb⟩; have HB3 := Lib.hid (belowCall HB1.out hb); clear hb)))
    go_ret
    exact ⟨ret_bool (by simp), HB3.out⟩
  · rw [hcb] at HC
    have hno' : c = 0 ∨ (128 ≤ c ∧ c < 160) := by rcases hno with h | h; (rw [hcb] at h; cases h); exact h
    clear hm hno hcb
    rcases hno' with rfl | ⟨h1, h2⟩
    · go_enter Tryd.func9, Tryd.ntmps9
      go_wp2_with (first
        | (go_at_call 12; go_must (refine H0.out.mono ?_; rintro e w1 ⟨rfl, hb⟩; have HB1 := Lib.hid hb; clear hb))
        | (go_at_call 25; go_must (refine (HC.out _).mono ?_; rintro e w2 ⟨rfl, rfl⟩)))
      go_ret
      exact ⟨rfl, HB1.out⟩
    · have h0 : (c == 0) = false := by rw [beq_eq_false_iff_ne]; omega
      go_enter Tryd.func9, Tryd.ntmps9
      go_wp2_with (first
        | (go_at_call 12; go_must (refine H0.out.mono ?_; rintro e w1 ⟨rfl, hb⟩; have HB1 := Lib.hid hb; clear hb))
        | (go_at_call 25; go_must (refine (HC.out _).mono ?_; rintro e w2 ⟨rfl, rfl⟩)))
      go_ret
      exact ⟨rfl, HB1.out⟩

set_option maxRecDepth 100000 in
set_option maxHeartbeats 8000000 in
theorem numbers_cua (c : Nat) (k : Int) (m : Int) (w : World) (hc : c ≤ 1114111) (hcb : charB (c : Int) = true) (hc0 : c ≠ 0) (hlo : c < 128) (hm : w.cell? ⟨0, 0, none⟩ = some (.int .i64 m)) :
    Calls Tryd.prog 9 #[.int .i32 c, .int .i64 k, .bool true, .bool true] w fun e w' => e = .returned (.bool true) ∧ Below w.heap.size w w' := by
  have H0 := Lib.hid (shown_any m w hm)
  have hcc := fun u => Char08_any (c : Int) u (by omega) (by omega)
  rw [hcb] at hcc
  have HC := Lib.hid hcc
  have hwr : IntKind.i64.wrap (c : Int) = (c : Int) := by rw [IntKind.wrap_i64]; omega
  have h0 : ((c : Int) == 0) = false := by rw [beq_eq_false_iff_ne]; omega
  have hno : ¬ (128 ≤ c ∧ c < 160) := by omega
  have hq1 : ¬ ((128 : Int) ≤ (c : Int)) := by omega
  have hq2 : (c : Int) < 160 := by omega
  have hN : numF (c : Int) = encF c := numF_else (by omega) hcb hno
  have hn := fun u => Number_any (c : Int) u (by omega) (by omega)
  rw [hN] at hn
  have HN := Lib.hid hn
  have HBY := Lib.hid (fun u => Bytes_at c hc u)
  obtain ⟨p, hp7, hpb⟩ := and7 k
  have hpl := pad_list p hp7
  obtain ⟨pad, hpad⟩ : ∃ pad, pad = (⟨#[48, 48, 48, 48, 48, 48, 48, 48, 48]⟩ : ByteArray).extract 0 p := ⟨_, rfl⟩
  have hps : pad.size = p := by rw [← size_toList, hpad, hpl, List.length_replicate]
  rw [← hpad] at hpl
  have HT : Hid (∀ (ten : ByteArray) (u : World), Good 10 c ten.toList 0 → _) := Lib.hid fun ten u hg => law_take false (x := ⟨#[38, 35]⟩) (hd := []) (pad := pad) (e := ⟨#[59]⟩) (.inl ⟨rfl, rfl⟩) (list2 _ _ rfl) ⟨p, hp7, hpl⟩ hg hc0 hc (.inr (list2 _ _ rfl)) u
  have HX : Hid (∀ (ten : ByteArray) (u : World), Good 16 c ten.toList 0 → _) := Lib.hid fun ten u hg => law_take true (x := ⟨#[38, 35]⟩ ++ ⟨#[88]⟩) (hd := [88]) (pad := pad) (e := ⟨#[59]⟩) (.inr ⟨rfl, .inr rfl⟩) (by rw [toList_append]; (rw [list2 ⟨#[38, 35]⟩ [38, 35] rfl, list2 ⟨#[88]⟩ [88] rfl]; rfl)) ⟨p, hp7, hpl⟩ hg hc0 hc (.inr (list2 _ _ rfl)) u
  simp only [hN] at HT HX
  have HPP := Lib.hid hpl
  have hpad2 := hpad.symm
  clear hm hcc hcb hno hpl hn hN hpad
  go_enter Tryd.func9, Tryd.ntmps9
  go_wp2_with (first
    | (go_at_call 12; go_must (refine H0.out.mono ?_; rintro e w1 ⟨rfl, hb⟩; have HB1 := Lib.hid hb; clear hb))
    | (go_at_call 25; go_must (refine (HC.out _).mono ?_; rintro e w2 ⟨rfl, rfl⟩)))
  go_loop [12, 13] (fun t i => ∃ (ten : ByteArray) (v : Nat), t = .string ten ∧ i = .int .i64 v ∧ v ≤ c ∧ Good 10 c ten.toList v) (fun _ i => (intOf i).toNat)
  case atStart => exact ⟨⟨#[]⟩, c, rfl, rfl, Nat.le_refl _, by rw [list2 ⟨#[]⟩ [] rfl]; exact Good.start 10 c⟩
  case round =>
    obtain ⟨ten, v, rfl, rfl, hvc, hg⟩ := hrel
    have ht_ten : ten.size ≤ 7 := by rw [← size_toList]; exact hg.2.2.2
    have HG := Lib.hid hg
    clear hg
    by_cases hv : 0 < v
    · obtain ⟨x, hx1, hx2⟩ := piece10 (v % 10) (Nat.mod_lt _ (by decide))
      have HGS := Lib.hid (HG.out.step (by decide) hv hc hx2)
      have hlt : v / 10 < v := Nat.div_lt_self hv (by decide)
      have HX1 : Hid (((⟨#[48, 49, 50, 51, 52, 53, 54, 55, 56, 57]⟩ : ByteArray).extract (v % 10) (v % 10 + 1)).toList = [x]) := Lib.hid hx1
      clear hx1 hx2
      go_wp2_with fail
      go_round
      case rel => exact ⟨(⟨#[48, 49, 50, 51, 52, 53, 54, 55, 56, 57]⟩ : ByteArray).extract (v % 10) (v % 10 + 1) ++ ten, v / 10, rfl, by go_num, by omega, by rw [toList_append, HX1.out]; exact HGS.out⟩
      case measure => simp [intOf]; omega
    · obtain rfl : v = 0 := by omega
      clear hvc hv
      go_wp2_with fail
      go_loop [16, 17] (fun t i => ∃ (hex : ByteArray) (v : Nat), t = .string hex ∧ i = .int .i64 v ∧ v ≤ c ∧ Good 16 c hex.toList v) (fun _ i => (intOf i).toNat)
      case atStart => exact ⟨⟨#[]⟩, c, rfl, rfl, Nat.le_refl _, by rw [list2 ⟨#[]⟩ [] rfl]; exact Good.start 16 c⟩
      case round =>
        obtain ⟨hex, v, rfl, rfl, hvc, hg⟩ := hrel
        have ht_hex : hex.size ≤ 7 := by rw [← size_toList]; exact hg.2.2.2
        have HH := Lib.hid hg
        clear hg
        by_cases hv : 0 < v
        · obtain ⟨x, hx1, hx2⟩ := pieceL (v % 16) (Nat.mod_lt _ (by decide))
          have HGS := Lib.hid (HH.out.step (by decide) hv hc hx2)
          have hlt : v / 16 < v := Nat.div_lt_self hv (by decide)
          have HX1 : Hid (((⟨#[48, 49, 50, 51, 52, 53, 54, 55, 56, 57, 65, 66, 67, 68, 69, 70]⟩ : ByteArray).extract (v % 16) (v % 16 + 1)).toList = [x]) := Lib.hid hx1
          clear hx1 hx2
          go_wp2_with fail
          go_round
          case rel => exact ⟨(⟨#[48, 49, 50, 51, 52, 53, 54, 55, 56, 57, 65, 66, 67, 68, 69, 70]⟩ : ByteArray).extract (v % 16) (v % 16 + 1) ++ hex, v / 16, rfl, by go_num, by omega, by rw [toList_append, HX1.out]; exact HGS.out⟩
          case measure => simp [intOf]; omega
        · obtain rfl : v = 0 := by omega
          clear hvc hv
          go_wp2_with (go_at_call 26; go_must (refine (HBY.out _).mono ?_; rintro e w3 ⟨g, cap, n, rfl, hown, hn, hn4, hb⟩; have HB3 := Lib.hid (belowCall HB1.out hb); have hback := run_string_of (P := Tryd.prog) w3 33 9 5 g cap (encF c) n hn Tryd.underlying33 Tryd.underlying5 Tryd.underlying9 (own_row hown); rw [show (⟨(encF c).toArray⟩ : ByteArray) = strB (encF c) from rfl] at hback; clear hown hn hn4 hb))
          go_wp2_with (go_at_call 17; fail)
          refine (HT.out ten _ HG.out).mono ?_
          rintro e w4 ⟨rfl, hb⟩
          have HB4 := Lib.hid (belowCall HB3.out hb)
          clear hb
          dsimp only
          go_wp2_with (go_at_call 17; fail)
          refine (HX.out hex _ HH.out).mono ?_
          rintro e w5 ⟨rfl, hb⟩
          have HB5 := Lib.hid (belowCall HB4.out hb)
          clear hb
          dsimp only
          go_wp2_with (go_at_call 15; go_must (refine (HN.out _).mono ?_; rintro e w6 ⟨rfl, hb⟩; have HB6 := Lib.hid (belowCall HB5.out hb); clear hb))
          go_ret
          exact ⟨ret_bool (by simp), HB6.out⟩

set_option maxRecDepth 100000 in
set_option maxHeartbeats 8000000 in
theorem numbers_cub (c : Nat) (k : Int) (m : Int) (w : World) (hc : c ≤ 1114111) (hcb : charB (c : Int) = true) (hc0 : c ≠ 0) (hlo : 160 ≤ c) (hm : w.cell? ⟨0, 0, none⟩ = some (.int .i64 m)) :
    Calls Tryd.prog 9 #[.int .i32 c, .int .i64 k, .bool true, .bool true] w fun e w' => e = .returned (.bool true) ∧ Below w.heap.size w w' := by
  have H0 := Lib.hid (shown_any m w hm)
  have hcc := fun u => Char08_any (c : Int) u (by omega) (by omega)
  rw [hcb] at hcc
  have HC := Lib.hid hcc
  have hwr : IntKind.i64.wrap (c : Int) = (c : Int) := by rw [IntKind.wrap_i64]; omega
  have h0 : ((c : Int) == 0) = false := by rw [beq_eq_false_iff_ne]; omega
  have hno : ¬ (128 ≤ c ∧ c < 160) := by omega
  have hq1 : (128 : Int) ≤ (c : Int) := by omega
  have hq2 : ¬ ((c : Int) < 160) := by omega
  have hN : numF (c : Int) = encF c := numF_else (by omega) hcb hno
  have hn := fun u => Number_any (c : Int) u (by omega) (by omega)
  rw [hN] at hn
  have HN := Lib.hid hn
  have HBY := Lib.hid (fun u => Bytes_at c hc u)
  obtain ⟨p, hp7, hpb⟩ := and7 k
  have hpl := pad_list p hp7
  obtain ⟨pad, hpad⟩ : ∃ pad, pad = (⟨#[48, 48, 48, 48, 48, 48, 48, 48, 48]⟩ : ByteArray).extract 0 p := ⟨_, rfl⟩
  have hps : pad.size = p := by rw [← size_toList, hpad, hpl, List.length_replicate]
  rw [← hpad] at hpl
  have HT : Hid (∀ (ten : ByteArray) (u : World), Good 10 c ten.toList 0 → _) := Lib.hid fun ten u hg => law_take false (x := ⟨#[38, 35]⟩) (hd := []) (pad := pad) (e := ⟨#[59]⟩) (.inl ⟨rfl, rfl⟩) (list2 _ _ rfl) ⟨p, hp7, hpl⟩ hg hc0 hc (.inr (list2 _ _ rfl)) u
  have HX : Hid (∀ (ten : ByteArray) (u : World), Good 16 c ten.toList 0 → _) := Lib.hid fun ten u hg => law_take true (x := ⟨#[38, 35]⟩ ++ ⟨#[88]⟩) (hd := [88]) (pad := pad) (e := ⟨#[59]⟩) (.inr ⟨rfl, .inr rfl⟩) (by rw [toList_append]; (rw [list2 ⟨#[38, 35]⟩ [38, 35] rfl, list2 ⟨#[88]⟩ [88] rfl]; rfl)) ⟨p, hp7, hpl⟩ hg hc0 hc (.inr (list2 _ _ rfl)) u
  simp only [hN] at HT HX
  have HPP := Lib.hid hpl
  have hpad2 := hpad.symm
  clear hm hcc hcb hno hpl hn hN hpad
  go_enter Tryd.func9, Tryd.ntmps9
  go_wp2_with (first
    | (go_at_call 12; go_must (refine H0.out.mono ?_; rintro e w1 ⟨rfl, hb⟩; have HB1 := Lib.hid hb; clear hb))
    | (go_at_call 25; go_must (refine (HC.out _).mono ?_; rintro e w2 ⟨rfl, rfl⟩)))
  go_loop [12, 13] (fun t i => ∃ (ten : ByteArray) (v : Nat), t = .string ten ∧ i = .int .i64 v ∧ v ≤ c ∧ Good 10 c ten.toList v) (fun _ i => (intOf i).toNat)
  case atStart => exact ⟨⟨#[]⟩, c, rfl, rfl, Nat.le_refl _, by rw [list2 ⟨#[]⟩ [] rfl]; exact Good.start 10 c⟩
  case round =>
    obtain ⟨ten, v, rfl, rfl, hvc, hg⟩ := hrel
    have ht_ten : ten.size ≤ 7 := by rw [← size_toList]; exact hg.2.2.2
    have HG := Lib.hid hg
    clear hg
    by_cases hv : 0 < v
    · obtain ⟨x, hx1, hx2⟩ := piece10 (v % 10) (Nat.mod_lt _ (by decide))
      have HGS := Lib.hid (HG.out.step (by decide) hv hc hx2)
      have hlt : v / 10 < v := Nat.div_lt_self hv (by decide)
      have HX1 : Hid (((⟨#[48, 49, 50, 51, 52, 53, 54, 55, 56, 57]⟩ : ByteArray).extract (v % 10) (v % 10 + 1)).toList = [x]) := Lib.hid hx1
      clear hx1 hx2
      go_wp2_with fail
      go_round
      case rel => exact ⟨(⟨#[48, 49, 50, 51, 52, 53, 54, 55, 56, 57]⟩ : ByteArray).extract (v % 10) (v % 10 + 1) ++ ten, v / 10, rfl, by go_num, by omega, by rw [toList_append, HX1.out]; exact HGS.out⟩
      case measure => simp [intOf]; omega
    · obtain rfl : v = 0 := by omega
      clear hvc hv
      go_wp2_with fail
      go_loop [16, 17] (fun t i => ∃ (hex : ByteArray) (v : Nat), t = .string hex ∧ i = .int .i64 v ∧ v ≤ c ∧ Good 16 c hex.toList v) (fun _ i => (intOf i).toNat)
      case atStart => exact ⟨⟨#[]⟩, c, rfl, rfl, Nat.le_refl _, by rw [list2 ⟨#[]⟩ [] rfl]; exact Good.start 16 c⟩
      case round =>
        obtain ⟨hex, v, rfl, rfl, hvc, hg⟩ := hrel
        have ht_hex : hex.size ≤ 7 := by rw [← size_toList]; exact hg.2.2.2
        have HH := Lib.hid hg
        clear hg
        by_cases hv : 0 < v
        · obtain ⟨x, hx1, hx2⟩ := pieceL (v % 16) (Nat.mod_lt _ (by decide))
          have HGS := Lib.hid (HH.out.step (by decide) hv hc hx2)
          have hlt : v / 16 < v := Nat.div_lt_self hv (by decide)
          have HX1 : Hid (((⟨#[48, 49, 50, 51, 52, 53, 54, 55, 56, 57, 65, 66, 67, 68, 69, 70]⟩ : ByteArray).extract (v % 16) (v % 16 + 1)).toList = [x]) := Lib.hid hx1
          clear hx1 hx2
          go_wp2_with fail
          go_round
          case rel => exact ⟨(⟨#[48, 49, 50, 51, 52, 53, 54, 55, 56, 57, 65, 66, 67, 68, 69, 70]⟩ : ByteArray).extract (v % 16) (v % 16 + 1) ++ hex, v / 16, rfl, by go_num, by omega, by rw [toList_append, HX1.out]; exact HGS.out⟩
          case measure => simp [intOf]; omega
        · obtain rfl : v = 0 := by omega
          clear hvc hv
          go_wp2_with (go_at_call 26; go_must (refine (HBY.out _).mono ?_; rintro e w3 ⟨g, cap, n, rfl, hown, hn, hn4, hb⟩; have HB3 := Lib.hid (belowCall HB1.out hb); have hback := run_string_of (P := Tryd.prog) w3 33 9 5 g cap (encF c) n hn Tryd.underlying33 Tryd.underlying5 Tryd.underlying9 (own_row hown); rw [show (⟨(encF c).toArray⟩ : ByteArray) = strB (encF c) from rfl] at hback; clear hown hn hn4 hb))
          go_wp2_with (go_at_call 17; fail)
          refine (HT.out ten _ HG.out).mono ?_
          rintro e w4 ⟨rfl, hb⟩
          have HB4 := Lib.hid (belowCall HB3.out hb)
          clear hb
          dsimp only
          go_wp2_with (go_at_call 17; fail)
          refine (HX.out hex _ HH.out).mono ?_
          rintro e w5 ⟨rfl, hb⟩
          have HB5 := Lib.hid (belowCall HB4.out hb)
          clear hb
          dsimp only
          go_wp2_with (go_at_call 15; go_must (refine (HN.out _).mono ?_; rintro e w6 ⟨rfl, hb⟩; have HB6 := Lib.hid (belowCall HB5.out hb); clear hb))
          go_ret
          exact ⟨ret_bool (by simp), HB6.out⟩

set_option maxRecDepth 100000 in
set_option maxHeartbeats 8000000 in
theorem numbers_cla (c : Nat) (k : Int) (m : Int) (w : World) (hc : c ≤ 1114111) (hcb : charB (c : Int) = true) (hc0 : c ≠ 0) (hlo : c < 128) (hm : w.cell? ⟨0, 0, none⟩ = some (.int .i64 m)) :
    Calls Tryd.prog 9 #[.int .i32 c, .int .i64 k, .bool true, .bool false] w fun e w' => e = .returned (.bool true) ∧ Below w.heap.size w w' := by
  have H0 := Lib.hid (shown_any m w hm)
  have hcc := fun u => Char08_any (c : Int) u (by omega) (by omega)
  rw [hcb] at hcc
  have HC := Lib.hid hcc
  have hwr : IntKind.i64.wrap (c : Int) = (c : Int) := by rw [IntKind.wrap_i64]; omega
  have h0 : ((c : Int) == 0) = false := by rw [beq_eq_false_iff_ne]; omega
  have hno : ¬ (128 ≤ c ∧ c < 160) := by omega
  have hq1 : ¬ ((128 : Int) ≤ (c : Int)) := by omega
  have hq2 : (c : Int) < 160 := by omega
  have hN : numF (c : Int) = encF c := numF_else (by omega) hcb hno
  have hn := fun u => Number_any (c : Int) u (by omega) (by omega)
  rw [hN] at hn
  have HN := Lib.hid hn
  have HBY := Lib.hid (fun u => Bytes_at c hc u)
  obtain ⟨p, hp7, hpb⟩ := and7 k
  have hpl := pad_list p hp7
  obtain ⟨pad, hpad⟩ : ∃ pad, pad = (⟨#[48, 48, 48, 48, 48, 48, 48, 48, 48]⟩ : ByteArray).extract 0 p := ⟨_, rfl⟩
  have hps : pad.size = p := by rw [← size_toList, hpad, hpl, List.length_replicate]
  rw [← hpad] at hpl
  have HT : Hid (∀ (ten : ByteArray) (u : World), Good 10 c ten.toList 0 → _) := Lib.hid fun ten u hg => law_take false (x := ⟨#[38, 35]⟩) (hd := []) (pad := pad) (e := ⟨#[59]⟩) (.inl ⟨rfl, rfl⟩) (list2 _ _ rfl) ⟨p, hp7, hpl⟩ hg hc0 hc (.inr (list2 _ _ rfl)) u
  have HX : Hid (∀ (ten : ByteArray) (u : World), Good 16 c ten.toList 0 → _) := Lib.hid fun ten u hg => law_take true (x := ⟨#[38, 35]⟩ ++ ⟨#[120]⟩) (hd := [120]) (pad := pad) (e := ⟨#[59]⟩) (.inr ⟨rfl, .inl rfl⟩) (by rw [toList_append]; (rw [list2 ⟨#[38, 35]⟩ [38, 35] rfl, list2 ⟨#[120]⟩ [120] rfl]; rfl)) ⟨p, hp7, hpl⟩ hg hc0 hc (.inr (list2 _ _ rfl)) u
  simp only [hN] at HT HX
  have HPP := Lib.hid hpl
  have hpad2 := hpad.symm
  clear hm hcc hcb hno hpl hn hN hpad
  go_enter Tryd.func9, Tryd.ntmps9
  go_wp2_with (first
    | (go_at_call 12; go_must (refine H0.out.mono ?_; rintro e w1 ⟨rfl, hb⟩; have HB1 := Lib.hid hb; clear hb))
    | (go_at_call 25; go_must (refine (HC.out _).mono ?_; rintro e w2 ⟨rfl, rfl⟩)))
  go_loop [12, 13] (fun t i => ∃ (ten : ByteArray) (v : Nat), t = .string ten ∧ i = .int .i64 v ∧ v ≤ c ∧ Good 10 c ten.toList v) (fun _ i => (intOf i).toNat)
  case atStart => exact ⟨⟨#[]⟩, c, rfl, rfl, Nat.le_refl _, by rw [list2 ⟨#[]⟩ [] rfl]; exact Good.start 10 c⟩
  case round =>
    obtain ⟨ten, v, rfl, rfl, hvc, hg⟩ := hrel
    have ht_ten : ten.size ≤ 7 := by rw [← size_toList]; exact hg.2.2.2
    have HG := Lib.hid hg
    clear hg
    by_cases hv : 0 < v
    · obtain ⟨x, hx1, hx2⟩ := piece10 (v % 10) (Nat.mod_lt _ (by decide))
      have HGS := Lib.hid (HG.out.step (by decide) hv hc hx2)
      have hlt : v / 10 < v := Nat.div_lt_self hv (by decide)
      have HX1 : Hid (((⟨#[48, 49, 50, 51, 52, 53, 54, 55, 56, 57]⟩ : ByteArray).extract (v % 10) (v % 10 + 1)).toList = [x]) := Lib.hid hx1
      clear hx1 hx2
      go_wp2_with fail
      go_round
      case rel => exact ⟨(⟨#[48, 49, 50, 51, 52, 53, 54, 55, 56, 57]⟩ : ByteArray).extract (v % 10) (v % 10 + 1) ++ ten, v / 10, rfl, by go_num, by omega, by rw [toList_append, HX1.out]; exact HGS.out⟩
      case measure => simp [intOf]; omega
    · obtain rfl : v = 0 := by omega
      clear hvc hv
      go_wp2_with fail
      go_loop [16, 17] (fun t i => ∃ (hex : ByteArray) (v : Nat), t = .string hex ∧ i = .int .i64 v ∧ v ≤ c ∧ Good 16 c hex.toList v) (fun _ i => (intOf i).toNat)
      case atStart => exact ⟨⟨#[]⟩, c, rfl, rfl, Nat.le_refl _, by rw [list2 ⟨#[]⟩ [] rfl]; exact Good.start 16 c⟩
      case round =>
        obtain ⟨hex, v, rfl, rfl, hvc, hg⟩ := hrel
        have ht_hex : hex.size ≤ 7 := by rw [← size_toList]; exact hg.2.2.2
        have HH := Lib.hid hg
        clear hg
        by_cases hv : 0 < v
        · obtain ⟨x, hx1, hx2⟩ := piece16 (v % 16) (Nat.mod_lt _ (by decide))
          have HGS := Lib.hid (HH.out.step (by decide) hv hc hx2)
          have hlt : v / 16 < v := Nat.div_lt_self hv (by decide)
          have HX1 : Hid (((⟨#[48, 49, 50, 51, 52, 53, 54, 55, 56, 57, 97, 98, 99, 100, 101, 102]⟩ : ByteArray).extract (v % 16) (v % 16 + 1)).toList = [x]) := Lib.hid hx1
          clear hx1 hx2
          go_wp2_with fail
          go_round
          case rel => exact ⟨(⟨#[48, 49, 50, 51, 52, 53, 54, 55, 56, 57, 97, 98, 99, 100, 101, 102]⟩ : ByteArray).extract (v % 16) (v % 16 + 1) ++ hex, v / 16, rfl, by go_num, by omega, by rw [toList_append, HX1.out]; exact HGS.out⟩
          case measure => simp [intOf]; omega
        · obtain rfl : v = 0 := by omega
          clear hvc hv
          go_wp2_with (go_at_call 26; go_must (refine (HBY.out _).mono ?_; rintro e w3 ⟨g, cap, n, rfl, hown, hn, hn4, hb⟩; have HB3 := Lib.hid (belowCall HB1.out hb); have hback := run_string_of (P := Tryd.prog) w3 33 9 5 g cap (encF c) n hn Tryd.underlying33 Tryd.underlying5 Tryd.underlying9 (own_row hown); rw [show (⟨(encF c).toArray⟩ : ByteArray) = strB (encF c) from rfl] at hback; clear hown hn hn4 hb))
          go_wp2_with (go_at_call 17; fail)
          refine (HT.out ten _ HG.out).mono ?_
          rintro e w4 ⟨rfl, hb⟩
          have HB4 := Lib.hid (belowCall HB3.out hb)
          clear hb
          dsimp only
          go_wp2_with (go_at_call 17; fail)
          refine (HX.out hex _ HH.out).mono ?_
          rintro e w5 ⟨rfl, hb⟩
          have HB5 := Lib.hid (belowCall HB4.out hb)
          clear hb
          dsimp only
          go_wp2_with (go_at_call 15; go_must (refine (HN.out _).mono ?_; rintro e w6 ⟨rfl, hb⟩; have HB6 := Lib.hid (belowCall HB5.out hb); clear hb))
          go_ret
          exact ⟨ret_bool (by simp), HB6.out⟩

set_option maxRecDepth 100000 in
set_option maxHeartbeats 8000000 in
theorem numbers_clb (c : Nat) (k : Int) (m : Int) (w : World) (hc : c ≤ 1114111) (hcb : charB (c : Int) = true) (hc0 : c ≠ 0) (hlo : 160 ≤ c) (hm : w.cell? ⟨0, 0, none⟩ = some (.int .i64 m)) :
    Calls Tryd.prog 9 #[.int .i32 c, .int .i64 k, .bool true, .bool false] w fun e w' => e = .returned (.bool true) ∧ Below w.heap.size w w' := by
  have H0 := Lib.hid (shown_any m w hm)
  have hcc := fun u => Char08_any (c : Int) u (by omega) (by omega)
  rw [hcb] at hcc
  have HC := Lib.hid hcc
  have hwr : IntKind.i64.wrap (c : Int) = (c : Int) := by rw [IntKind.wrap_i64]; omega
  have h0 : ((c : Int) == 0) = false := by rw [beq_eq_false_iff_ne]; omega
  have hno : ¬ (128 ≤ c ∧ c < 160) := by omega
  have hq1 : (128 : Int) ≤ (c : Int) := by omega
  have hq2 : ¬ ((c : Int) < 160) := by omega
  have hN : numF (c : Int) = encF c := numF_else (by omega) hcb hno
  have hn := fun u => Number_any (c : Int) u (by omega) (by omega)
  rw [hN] at hn
  have HN := Lib.hid hn
  have HBY := Lib.hid (fun u => Bytes_at c hc u)
  obtain ⟨p, hp7, hpb⟩ := and7 k
  have hpl := pad_list p hp7
  obtain ⟨pad, hpad⟩ : ∃ pad, pad = (⟨#[48, 48, 48, 48, 48, 48, 48, 48, 48]⟩ : ByteArray).extract 0 p := ⟨_, rfl⟩
  have hps : pad.size = p := by rw [← size_toList, hpad, hpl, List.length_replicate]
  rw [← hpad] at hpl
  have HT : Hid (∀ (ten : ByteArray) (u : World), Good 10 c ten.toList 0 → _) := Lib.hid fun ten u hg => law_take false (x := ⟨#[38, 35]⟩) (hd := []) (pad := pad) (e := ⟨#[59]⟩) (.inl ⟨rfl, rfl⟩) (list2 _ _ rfl) ⟨p, hp7, hpl⟩ hg hc0 hc (.inr (list2 _ _ rfl)) u
  have HX : Hid (∀ (ten : ByteArray) (u : World), Good 16 c ten.toList 0 → _) := Lib.hid fun ten u hg => law_take true (x := ⟨#[38, 35]⟩ ++ ⟨#[120]⟩) (hd := [120]) (pad := pad) (e := ⟨#[59]⟩) (.inr ⟨rfl, .inl rfl⟩) (by rw [toList_append]; (rw [list2 ⟨#[38, 35]⟩ [38, 35] rfl, list2 ⟨#[120]⟩ [120] rfl]; rfl)) ⟨p, hp7, hpl⟩ hg hc0 hc (.inr (list2 _ _ rfl)) u
  simp only [hN] at HT HX
  have HPP := Lib.hid hpl
  have hpad2 := hpad.symm
  clear hm hcc hcb hno hpl hn hN hpad
  go_enter Tryd.func9, Tryd.ntmps9
  go_wp2_with (first
    | (go_at_call 12; go_must (refine H0.out.mono ?_; rintro e w1 ⟨rfl, hb⟩; have HB1 := Lib.hid hb; clear hb))
    | (go_at_call 25; go_must (refine (HC.out _).mono ?_; rintro e w2 ⟨rfl, rfl⟩)))
  go_loop [12, 13] (fun t i => ∃ (ten : ByteArray) (v : Nat), t = .string ten ∧ i = .int .i64 v ∧ v ≤ c ∧ Good 10 c ten.toList v) (fun _ i => (intOf i).toNat)
  case atStart => exact ⟨⟨#[]⟩, c, rfl, rfl, Nat.le_refl _, by rw [list2 ⟨#[]⟩ [] rfl]; exact Good.start 10 c⟩
  case round =>
    obtain ⟨ten, v, rfl, rfl, hvc, hg⟩ := hrel
    have ht_ten : ten.size ≤ 7 := by rw [← size_toList]; exact hg.2.2.2
    have HG := Lib.hid hg
    clear hg
    by_cases hv : 0 < v
    · obtain ⟨x, hx1, hx2⟩ := piece10 (v % 10) (Nat.mod_lt _ (by decide))
      have HGS := Lib.hid (HG.out.step (by decide) hv hc hx2)
      have hlt : v / 10 < v := Nat.div_lt_self hv (by decide)
      have HX1 : Hid (((⟨#[48, 49, 50, 51, 52, 53, 54, 55, 56, 57]⟩ : ByteArray).extract (v % 10) (v % 10 + 1)).toList = [x]) := Lib.hid hx1
      clear hx1 hx2
      go_wp2_with fail
      go_round
      case rel => exact ⟨(⟨#[48, 49, 50, 51, 52, 53, 54, 55, 56, 57]⟩ : ByteArray).extract (v % 10) (v % 10 + 1) ++ ten, v / 10, rfl, by go_num, by omega, by rw [toList_append, HX1.out]; exact HGS.out⟩
      case measure => simp [intOf]; omega
    · obtain rfl : v = 0 := by omega
      clear hvc hv
      go_wp2_with fail
      go_loop [16, 17] (fun t i => ∃ (hex : ByteArray) (v : Nat), t = .string hex ∧ i = .int .i64 v ∧ v ≤ c ∧ Good 16 c hex.toList v) (fun _ i => (intOf i).toNat)
      case atStart => exact ⟨⟨#[]⟩, c, rfl, rfl, Nat.le_refl _, by rw [list2 ⟨#[]⟩ [] rfl]; exact Good.start 16 c⟩
      case round =>
        obtain ⟨hex, v, rfl, rfl, hvc, hg⟩ := hrel
        have ht_hex : hex.size ≤ 7 := by rw [← size_toList]; exact hg.2.2.2
        have HH := Lib.hid hg
        clear hg
        by_cases hv : 0 < v
        · obtain ⟨x, hx1, hx2⟩ := piece16 (v % 16) (Nat.mod_lt _ (by decide))
          have HGS := Lib.hid (HH.out.step (by decide) hv hc hx2)
          have hlt : v / 16 < v := Nat.div_lt_self hv (by decide)
          have HX1 : Hid (((⟨#[48, 49, 50, 51, 52, 53, 54, 55, 56, 57, 97, 98, 99, 100, 101, 102]⟩ : ByteArray).extract (v % 16) (v % 16 + 1)).toList = [x]) := Lib.hid hx1
          clear hx1 hx2
          go_wp2_with fail
          go_round
          case rel => exact ⟨(⟨#[48, 49, 50, 51, 52, 53, 54, 55, 56, 57, 97, 98, 99, 100, 101, 102]⟩ : ByteArray).extract (v % 16) (v % 16 + 1) ++ hex, v / 16, rfl, by go_num, by omega, by rw [toList_append, HX1.out]; exact HGS.out⟩
          case measure => simp [intOf]; omega
        · obtain rfl : v = 0 := by omega
          clear hvc hv
          go_wp2_with (go_at_call 26; go_must (refine (HBY.out _).mono ?_; rintro e w3 ⟨g, cap, n, rfl, hown, hn, hn4, hb⟩; have HB3 := Lib.hid (belowCall HB1.out hb); have hback := run_string_of (P := Tryd.prog) w3 33 9 5 g cap (encF c) n hn Tryd.underlying33 Tryd.underlying5 Tryd.underlying9 (own_row hown); rw [show (⟨(encF c).toArray⟩ : ByteArray) = strB (encF c) from rfl] at hback; clear hown hn hn4 hb))
          go_wp2_with (go_at_call 17; fail)
          refine (HT.out ten _ HG.out).mono ?_
          rintro e w4 ⟨rfl, hb⟩
          have HB4 := Lib.hid (belowCall HB3.out hb)
          clear hb
          dsimp only
          go_wp2_with (go_at_call 17; fail)
          refine (HX.out hex _ HH.out).mono ?_
          rintro e w5 ⟨rfl, hb⟩
          have HB5 := Lib.hid (belowCall HB4.out hb)
          clear hb
          dsimp only
          go_wp2_with (go_at_call 15; go_must (refine (HN.out _).mono ?_; rintro e w6 ⟨rfl, hb⟩; have HB6 := Lib.hid (belowCall HB5.out hb); clear hb))
          go_ret
          exact ⟨ret_bool (by simp), HB6.out⟩

set_option maxRecDepth 100000 in
set_option maxHeartbeats 8000000 in
theorem numbers_oua (c : Nat) (k : Int) (m : Int) (w : World) (hc : c ≤ 1114111) (hcb : charB (c : Int) = true) (hc0 : c ≠ 0) (hlo : c < 128) (hm : w.cell? ⟨0, 0, none⟩ = some (.int .i64 m)) :
    Calls Tryd.prog 9 #[.int .i32 c, .int .i64 k, .bool false, .bool true] w fun e w' => e = .returned (.bool true) ∧ Below w.heap.size w w' := by
  have H0 := Lib.hid (shown_any m w hm)
  have hcc := fun u => Char08_any (c : Int) u (by omega) (by omega)
  rw [hcb] at hcc
  have HC := Lib.hid hcc
  have hwr : IntKind.i64.wrap (c : Int) = (c : Int) := by rw [IntKind.wrap_i64]; omega
  have h0 : ((c : Int) == 0) = false := by rw [beq_eq_false_iff_ne]; omega
  have hno : ¬ (128 ≤ c ∧ c < 160) := by omega
  have hq1 : ¬ ((128 : Int) ≤ (c : Int)) := by omega
  have hq2 : (c : Int) < 160 := by omega
  have hN : numF (c : Int) = encF c := numF_else (by omega) hcb hno
  have hn := fun u => Number_any (c : Int) u (by omega) (by omega)
  rw [hN] at hn
  have HN := Lib.hid hn
  have HBY := Lib.hid (fun u => Bytes_at c hc u)
  obtain ⟨p, hp7, hpb⟩ := and7 k
  have hpl := pad_list p hp7
  obtain ⟨pad, hpad⟩ : ∃ pad, pad = (⟨#[48, 48, 48, 48, 48, 48, 48, 48, 48]⟩ : ByteArray).extract 0 p := ⟨_, rfl⟩
  have hps : pad.size = p := by rw [← size_toList, hpad, hpl, List.length_replicate]
  rw [← hpad] at hpl
  have HT : Hid (∀ (ten : ByteArray) (u : World), Good 10 c ten.toList 0 → _) := Lib.hid fun ten u hg => law_take false (x := ⟨#[38, 35]⟩) (hd := []) (pad := pad) (e := ⟨#[]⟩) (.inl ⟨rfl, rfl⟩) (list2 _ _ rfl) ⟨p, hp7, hpl⟩ hg hc0 hc (.inl (list2 _ _ rfl)) u
  have HX : Hid (∀ (ten : ByteArray) (u : World), Good 16 c ten.toList 0 → _) := Lib.hid fun ten u hg => law_take true (x := ⟨#[38, 35]⟩ ++ ⟨#[88]⟩) (hd := [88]) (pad := pad) (e := ⟨#[]⟩) (.inr ⟨rfl, .inr rfl⟩) (by rw [toList_append]; (rw [list2 ⟨#[38, 35]⟩ [38, 35] rfl, list2 ⟨#[88]⟩ [88] rfl]; rfl)) ⟨p, hp7, hpl⟩ hg hc0 hc (.inl (list2 _ _ rfl)) u
  simp only [hN] at HT HX
  have HPP := Lib.hid hpl
  have hpad2 := hpad.symm
  clear hm hcc hcb hno hpl hn hN hpad
  go_enter Tryd.func9, Tryd.ntmps9
  go_wp2_with (first
    | (go_at_call 12; go_must (refine H0.out.mono ?_; rintro e w1 ⟨rfl, hb⟩; have HB1 := Lib.hid hb; clear hb))
    | (go_at_call 25; go_must (refine (HC.out _).mono ?_; rintro e w2 ⟨rfl, rfl⟩)))
  go_loop [12, 13] (fun t i => ∃ (ten : ByteArray) (v : Nat), t = .string ten ∧ i = .int .i64 v ∧ v ≤ c ∧ Good 10 c ten.toList v) (fun _ i => (intOf i).toNat)
  case atStart => exact ⟨⟨#[]⟩, c, rfl, rfl, Nat.le_refl _, by rw [list2 ⟨#[]⟩ [] rfl]; exact Good.start 10 c⟩
  case round =>
    obtain ⟨ten, v, rfl, rfl, hvc, hg⟩ := hrel
    have ht_ten : ten.size ≤ 7 := by rw [← size_toList]; exact hg.2.2.2
    have HG := Lib.hid hg
    clear hg
    by_cases hv : 0 < v
    · obtain ⟨x, hx1, hx2⟩ := piece10 (v % 10) (Nat.mod_lt _ (by decide))
      have HGS := Lib.hid (HG.out.step (by decide) hv hc hx2)
      have hlt : v / 10 < v := Nat.div_lt_self hv (by decide)
      have HX1 : Hid (((⟨#[48, 49, 50, 51, 52, 53, 54, 55, 56, 57]⟩ : ByteArray).extract (v % 10) (v % 10 + 1)).toList = [x]) := Lib.hid hx1
      clear hx1 hx2
      go_wp2_with fail
      go_round
      case rel => exact ⟨(⟨#[48, 49, 50, 51, 52, 53, 54, 55, 56, 57]⟩ : ByteArray).extract (v % 10) (v % 10 + 1) ++ ten, v / 10, rfl, by go_num, by omega, by rw [toList_append, HX1.out]; exact HGS.out⟩
      case measure => simp [intOf]; omega
    · obtain rfl : v = 0 := by omega
      clear hvc hv
      go_wp2_with fail
      go_loop [16, 17] (fun t i => ∃ (hex : ByteArray) (v : Nat), t = .string hex ∧ i = .int .i64 v ∧ v ≤ c ∧ Good 16 c hex.toList v) (fun _ i => (intOf i).toNat)
      case atStart => exact ⟨⟨#[]⟩, c, rfl, rfl, Nat.le_refl _, by rw [list2 ⟨#[]⟩ [] rfl]; exact Good.start 16 c⟩
      case round =>
        obtain ⟨hex, v, rfl, rfl, hvc, hg⟩ := hrel
        have ht_hex : hex.size ≤ 7 := by rw [← size_toList]; exact hg.2.2.2
        have HH := Lib.hid hg
        clear hg
        by_cases hv : 0 < v
        · obtain ⟨x, hx1, hx2⟩ := pieceL (v % 16) (Nat.mod_lt _ (by decide))
          have HGS := Lib.hid (HH.out.step (by decide) hv hc hx2)
          have hlt : v / 16 < v := Nat.div_lt_self hv (by decide)
          have HX1 : Hid (((⟨#[48, 49, 50, 51, 52, 53, 54, 55, 56, 57, 65, 66, 67, 68, 69, 70]⟩ : ByteArray).extract (v % 16) (v % 16 + 1)).toList = [x]) := Lib.hid hx1
          clear hx1 hx2
          go_wp2_with fail
          go_round
          case rel => exact ⟨(⟨#[48, 49, 50, 51, 52, 53, 54, 55, 56, 57, 65, 66, 67, 68, 69, 70]⟩ : ByteArray).extract (v % 16) (v % 16 + 1) ++ hex, v / 16, rfl, by go_num, by omega, by rw [toList_append, HX1.out]; exact HGS.out⟩
          case measure => simp [intOf]; omega
        · obtain rfl : v = 0 := by omega
          clear hvc hv
          go_wp2_with (go_at_call 26; go_must (refine (HBY.out _).mono ?_; rintro e w3 ⟨g, cap, n, rfl, hown, hn, hn4, hb⟩; have HB3 := Lib.hid (belowCall HB1.out hb); have hback := run_string_of (P := Tryd.prog) w3 33 9 5 g cap (encF c) n hn Tryd.underlying33 Tryd.underlying5 Tryd.underlying9 (own_row hown); rw [show (⟨(encF c).toArray⟩ : ByteArray) = strB (encF c) from rfl] at hback; clear hown hn hn4 hb))
          go_wp2_with (go_at_call 17; fail)
          refine (HT.out ten _ HG.out).mono ?_
          rintro e w4 ⟨rfl, hb⟩
          have HB4 := Lib.hid (belowCall HB3.out hb)
          clear hb
          dsimp only
          go_wp2_with (go_at_call 17; fail)
          refine (HX.out hex _ HH.out).mono ?_
          rintro e w5 ⟨rfl, hb⟩
          have HB5 := Lib.hid (belowCall HB4.out hb)
          clear hb
          dsimp only
          go_wp2_with (go_at_call 15; go_must (refine (HN.out _).mono ?_; rintro e w6 ⟨rfl, hb⟩; have HB6 := Lib.hid (belowCall HB5.out hb); clear hb))
          go_ret
          exact ⟨ret_bool (by simp), HB6.out⟩

set_option maxRecDepth 100000 in
set_option maxHeartbeats 8000000 in
theorem numbers_oub (c : Nat) (k : Int) (m : Int) (w : World) (hc : c ≤ 1114111) (hcb : charB (c : Int) = true) (hc0 : c ≠ 0) (hlo : 160 ≤ c) (hm : w.cell? ⟨0, 0, none⟩ = some (.int .i64 m)) :
    Calls Tryd.prog 9 #[.int .i32 c, .int .i64 k, .bool false, .bool true] w fun e w' => e = .returned (.bool true) ∧ Below w.heap.size w w' := by
  have H0 := Lib.hid (shown_any m w hm)
  have hcc := fun u => Char08_any (c : Int) u (by omega) (by omega)
  rw [hcb] at hcc
  have HC := Lib.hid hcc
  have hwr : IntKind.i64.wrap (c : Int) = (c : Int) := by rw [IntKind.wrap_i64]; omega
  have h0 : ((c : Int) == 0) = false := by rw [beq_eq_false_iff_ne]; omega
  have hno : ¬ (128 ≤ c ∧ c < 160) := by omega
  have hq1 : (128 : Int) ≤ (c : Int) := by omega
  have hq2 : ¬ ((c : Int) < 160) := by omega
  have hN : numF (c : Int) = encF c := numF_else (by omega) hcb hno
  have hn := fun u => Number_any (c : Int) u (by omega) (by omega)
  rw [hN] at hn
  have HN := Lib.hid hn
  have HBY := Lib.hid (fun u => Bytes_at c hc u)
  obtain ⟨p, hp7, hpb⟩ := and7 k
  have hpl := pad_list p hp7
  obtain ⟨pad, hpad⟩ : ∃ pad, pad = (⟨#[48, 48, 48, 48, 48, 48, 48, 48, 48]⟩ : ByteArray).extract 0 p := ⟨_, rfl⟩
  have hps : pad.size = p := by rw [← size_toList, hpad, hpl, List.length_replicate]
  rw [← hpad] at hpl
  have HT : Hid (∀ (ten : ByteArray) (u : World), Good 10 c ten.toList 0 → _) := Lib.hid fun ten u hg => law_take false (x := ⟨#[38, 35]⟩) (hd := []) (pad := pad) (e := ⟨#[]⟩) (.inl ⟨rfl, rfl⟩) (list2 _ _ rfl) ⟨p, hp7, hpl⟩ hg hc0 hc (.inl (list2 _ _ rfl)) u
  have HX : Hid (∀ (ten : ByteArray) (u : World), Good 16 c ten.toList 0 → _) := Lib.hid fun ten u hg => law_take true (x := ⟨#[38, 35]⟩ ++ ⟨#[88]⟩) (hd := [88]) (pad := pad) (e := ⟨#[]⟩) (.inr ⟨rfl, .inr rfl⟩) (by rw [toList_append]; (rw [list2 ⟨#[38, 35]⟩ [38, 35] rfl, list2 ⟨#[88]⟩ [88] rfl]; rfl)) ⟨p, hp7, hpl⟩ hg hc0 hc (.inl (list2 _ _ rfl)) u
  simp only [hN] at HT HX
  have HPP := Lib.hid hpl
  have hpad2 := hpad.symm
  clear hm hcc hcb hno hpl hn hN hpad
  go_enter Tryd.func9, Tryd.ntmps9
  go_wp2_with (first
    | (go_at_call 12; go_must (refine H0.out.mono ?_; rintro e w1 ⟨rfl, hb⟩; have HB1 := Lib.hid hb; clear hb))
    | (go_at_call 25; go_must (refine (HC.out _).mono ?_; rintro e w2 ⟨rfl, rfl⟩)))
  go_loop [12, 13] (fun t i => ∃ (ten : ByteArray) (v : Nat), t = .string ten ∧ i = .int .i64 v ∧ v ≤ c ∧ Good 10 c ten.toList v) (fun _ i => (intOf i).toNat)
  case atStart => exact ⟨⟨#[]⟩, c, rfl, rfl, Nat.le_refl _, by rw [list2 ⟨#[]⟩ [] rfl]; exact Good.start 10 c⟩
  case round =>
    obtain ⟨ten, v, rfl, rfl, hvc, hg⟩ := hrel
    have ht_ten : ten.size ≤ 7 := by rw [← size_toList]; exact hg.2.2.2
    have HG := Lib.hid hg
    clear hg
    by_cases hv : 0 < v
    · obtain ⟨x, hx1, hx2⟩ := piece10 (v % 10) (Nat.mod_lt _ (by decide))
      have HGS := Lib.hid (HG.out.step (by decide) hv hc hx2)
      have hlt : v / 10 < v := Nat.div_lt_self hv (by decide)
      have HX1 : Hid (((⟨#[48, 49, 50, 51, 52, 53, 54, 55, 56, 57]⟩ : ByteArray).extract (v % 10) (v % 10 + 1)).toList = [x]) := Lib.hid hx1
      clear hx1 hx2
      go_wp2_with fail
      go_round
      case rel => exact ⟨(⟨#[48, 49, 50, 51, 52, 53, 54, 55, 56, 57]⟩ : ByteArray).extract (v % 10) (v % 10 + 1) ++ ten, v / 10, rfl, by go_num, by omega, by rw [toList_append, HX1.out]; exact HGS.out⟩
      case measure => simp [intOf]; omega
    · obtain rfl : v = 0 := by omega
      clear hvc hv
      go_wp2_with fail
      go_loop [16, 17] (fun t i => ∃ (hex : ByteArray) (v : Nat), t = .string hex ∧ i = .int .i64 v ∧ v ≤ c ∧ Good 16 c hex.toList v) (fun _ i => (intOf i).toNat)
      case atStart => exact ⟨⟨#[]⟩, c, rfl, rfl, Nat.le_refl _, by rw [list2 ⟨#[]⟩ [] rfl]; exact Good.start 16 c⟩
      case round =>
        obtain ⟨hex, v, rfl, rfl, hvc, hg⟩ := hrel
        have ht_hex : hex.size ≤ 7 := by rw [← size_toList]; exact hg.2.2.2
        have HH := Lib.hid hg
        clear hg
        by_cases hv : 0 < v
        · obtain ⟨x, hx1, hx2⟩ := pieceL (v % 16) (Nat.mod_lt _ (by decide))
          have HGS := Lib.hid (HH.out.step (by decide) hv hc hx2)
          have hlt : v / 16 < v := Nat.div_lt_self hv (by decide)
          have HX1 : Hid (((⟨#[48, 49, 50, 51, 52, 53, 54, 55, 56, 57, 65, 66, 67, 68, 69, 70]⟩ : ByteArray).extract (v % 16) (v % 16 + 1)).toList = [x]) := Lib.hid hx1
          clear hx1 hx2
          go_wp2_with fail
          go_round
          case rel => exact ⟨(⟨#[48, 49, 50, 51, 52, 53, 54, 55, 56, 57, 65, 66, 67, 68, 69, 70]⟩ : ByteArray).extract (v % 16) (v % 16 + 1) ++ hex, v / 16, rfl, by go_num, by omega, by rw [toList_append, HX1.out]; exact HGS.out⟩
          case measure => simp [intOf]; omega
        · obtain rfl : v = 0 := by omega
          clear hvc hv
          go_wp2_with (go_at_call 26; go_must (refine (HBY.out _).mono ?_; rintro e w3 ⟨g, cap, n, rfl, hown, hn, hn4, hb⟩; have HB3 := Lib.hid (belowCall HB1.out hb); have hback := run_string_of (P := Tryd.prog) w3 33 9 5 g cap (encF c) n hn Tryd.underlying33 Tryd.underlying5 Tryd.underlying9 (own_row hown); rw [show (⟨(encF c).toArray⟩ : ByteArray) = strB (encF c) from rfl] at hback; clear hown hn hn4 hb))
          go_wp2_with (go_at_call 17; fail)
          refine (HT.out ten _ HG.out).mono ?_
          rintro e w4 ⟨rfl, hb⟩
          have HB4 := Lib.hid (belowCall HB3.out hb)
          clear hb
          dsimp only
          go_wp2_with (go_at_call 17; fail)
          refine (HX.out hex _ HH.out).mono ?_
          rintro e w5 ⟨rfl, hb⟩
          have HB5 := Lib.hid (belowCall HB4.out hb)
          clear hb
          dsimp only
          go_wp2_with (go_at_call 15; go_must (refine (HN.out _).mono ?_; rintro e w6 ⟨rfl, hb⟩; have HB6 := Lib.hid (belowCall HB5.out hb); clear hb))
          go_ret
          exact ⟨ret_bool (by simp), HB6.out⟩

set_option maxRecDepth 100000 in
set_option maxHeartbeats 8000000 in
theorem numbers_ola (c : Nat) (k : Int) (m : Int) (w : World) (hc : c ≤ 1114111) (hcb : charB (c : Int) = true) (hc0 : c ≠ 0) (hlo : c < 128) (hm : w.cell? ⟨0, 0, none⟩ = some (.int .i64 m)) :
    Calls Tryd.prog 9 #[.int .i32 c, .int .i64 k, .bool false, .bool false] w fun e w' => e = .returned (.bool true) ∧ Below w.heap.size w w' := by
  have H0 := Lib.hid (shown_any m w hm)
  have hcc := fun u => Char08_any (c : Int) u (by omega) (by omega)
  rw [hcb] at hcc
  have HC := Lib.hid hcc
  have hwr : IntKind.i64.wrap (c : Int) = (c : Int) := by rw [IntKind.wrap_i64]; omega
  have h0 : ((c : Int) == 0) = false := by rw [beq_eq_false_iff_ne]; omega
  have hno : ¬ (128 ≤ c ∧ c < 160) := by omega
  have hq1 : ¬ ((128 : Int) ≤ (c : Int)) := by omega
  have hq2 : (c : Int) < 160 := by omega
  have hN : numF (c : Int) = encF c := numF_else (by omega) hcb hno
  have hn := fun u => Number_any (c : Int) u (by omega) (by omega)
  rw [hN] at hn
  have HN := Lib.hid hn
  have HBY := Lib.hid (fun u => Bytes_at c hc u)
  obtain ⟨p, hp7, hpb⟩ := and7 k
  have hpl := pad_list p hp7
  obtain ⟨pad, hpad⟩ : ∃ pad, pad = (⟨#[48, 48, 48, 48, 48, 48, 48, 48, 48]⟩ : ByteArray).extract 0 p := ⟨_, rfl⟩
  have hps : pad.size = p := by rw [← size_toList, hpad, hpl, List.length_replicate]
  rw [← hpad] at hpl
  have HT : Hid (∀ (ten : ByteArray) (u : World), Good 10 c ten.toList 0 → _) := Lib.hid fun ten u hg => law_take false (x := ⟨#[38, 35]⟩) (hd := []) (pad := pad) (e := ⟨#[]⟩) (.inl ⟨rfl, rfl⟩) (list2 _ _ rfl) ⟨p, hp7, hpl⟩ hg hc0 hc (.inl (list2 _ _ rfl)) u
  have HX : Hid (∀ (ten : ByteArray) (u : World), Good 16 c ten.toList 0 → _) := Lib.hid fun ten u hg => law_take true (x := ⟨#[38, 35]⟩ ++ ⟨#[120]⟩) (hd := [120]) (pad := pad) (e := ⟨#[]⟩) (.inr ⟨rfl, .inl rfl⟩) (by rw [toList_append]; (rw [list2 ⟨#[38, 35]⟩ [38, 35] rfl, list2 ⟨#[120]⟩ [120] rfl]; rfl)) ⟨p, hp7, hpl⟩ hg hc0 hc (.inl (list2 _ _ rfl)) u
  simp only [hN] at HT HX
  have HPP := Lib.hid hpl
  have hpad2 := hpad.symm
  clear hm hcc hcb hno hpl hn hN hpad
  go_enter Tryd.func9, Tryd.ntmps9
  go_wp2_with (first
    | (go_at_call 12; go_must (refine H0.out.mono ?_; rintro e w1 ⟨rfl, hb⟩; have HB1 := Lib.hid hb; clear hb))
    | (go_at_call 25; go_must (refine (HC.out _).mono ?_; rintro e w2 ⟨rfl, rfl⟩)))
  go_loop [12, 13] (fun t i => ∃ (ten : ByteArray) (v : Nat), t = .string ten ∧ i = .int .i64 v ∧ v ≤ c ∧ Good 10 c ten.toList v) (fun _ i => (intOf i).toNat)
  case atStart => exact ⟨⟨#[]⟩, c, rfl, rfl, Nat.le_refl _, by rw [list2 ⟨#[]⟩ [] rfl]; exact Good.start 10 c⟩
  case round =>
    obtain ⟨ten, v, rfl, rfl, hvc, hg⟩ := hrel
    have ht_ten : ten.size ≤ 7 := by rw [← size_toList]; exact hg.2.2.2
    have HG := Lib.hid hg
    clear hg
    by_cases hv : 0 < v
    · obtain ⟨x, hx1, hx2⟩ := piece10 (v % 10) (Nat.mod_lt _ (by decide))
      have HGS := Lib.hid (HG.out.step (by decide) hv hc hx2)
      have hlt : v / 10 < v := Nat.div_lt_self hv (by decide)
      have HX1 : Hid (((⟨#[48, 49, 50, 51, 52, 53, 54, 55, 56, 57]⟩ : ByteArray).extract (v % 10) (v % 10 + 1)).toList = [x]) := Lib.hid hx1
      clear hx1 hx2
      go_wp2_with fail
      go_round
      case rel => exact ⟨(⟨#[48, 49, 50, 51, 52, 53, 54, 55, 56, 57]⟩ : ByteArray).extract (v % 10) (v % 10 + 1) ++ ten, v / 10, rfl, by go_num, by omega, by rw [toList_append, HX1.out]; exact HGS.out⟩
      case measure => simp [intOf]; omega
    · obtain rfl : v = 0 := by omega
      clear hvc hv
      go_wp2_with fail
      go_loop [16, 17] (fun t i => ∃ (hex : ByteArray) (v : Nat), t = .string hex ∧ i = .int .i64 v ∧ v ≤ c ∧ Good 16 c hex.toList v) (fun _ i => (intOf i).toNat)
      case atStart => exact ⟨⟨#[]⟩, c, rfl, rfl, Nat.le_refl _, by rw [list2 ⟨#[]⟩ [] rfl]; exact Good.start 16 c⟩
      case round =>
        obtain ⟨hex, v, rfl, rfl, hvc, hg⟩ := hrel
        have ht_hex : hex.size ≤ 7 := by rw [← size_toList]; exact hg.2.2.2
        have HH := Lib.hid hg
        clear hg
        by_cases hv : 0 < v
        · obtain ⟨x, hx1, hx2⟩ := piece16 (v % 16) (Nat.mod_lt _ (by decide))
          have HGS := Lib.hid (HH.out.step (by decide) hv hc hx2)
          have hlt : v / 16 < v := Nat.div_lt_self hv (by decide)
          have HX1 : Hid (((⟨#[48, 49, 50, 51, 52, 53, 54, 55, 56, 57, 97, 98, 99, 100, 101, 102]⟩ : ByteArray).extract (v % 16) (v % 16 + 1)).toList = [x]) := Lib.hid hx1
          clear hx1 hx2
          go_wp2_with fail
          go_round
          case rel => exact ⟨(⟨#[48, 49, 50, 51, 52, 53, 54, 55, 56, 57, 97, 98, 99, 100, 101, 102]⟩ : ByteArray).extract (v % 16) (v % 16 + 1) ++ hex, v / 16, rfl, by go_num, by omega, by rw [toList_append, HX1.out]; exact HGS.out⟩
          case measure => simp [intOf]; omega
        · obtain rfl : v = 0 := by omega
          clear hvc hv
          go_wp2_with (go_at_call 26; go_must (refine (HBY.out _).mono ?_; rintro e w3 ⟨g, cap, n, rfl, hown, hn, hn4, hb⟩; have HB3 := Lib.hid (belowCall HB1.out hb); have hback := run_string_of (P := Tryd.prog) w3 33 9 5 g cap (encF c) n hn Tryd.underlying33 Tryd.underlying5 Tryd.underlying9 (own_row hown); rw [show (⟨(encF c).toArray⟩ : ByteArray) = strB (encF c) from rfl] at hback; clear hown hn hn4 hb))
          go_wp2_with (go_at_call 17; fail)
          refine (HT.out ten _ HG.out).mono ?_
          rintro e w4 ⟨rfl, hb⟩
          have HB4 := Lib.hid (belowCall HB3.out hb)
          clear hb
          dsimp only
          go_wp2_with (go_at_call 17; fail)
          refine (HX.out hex _ HH.out).mono ?_
          rintro e w5 ⟨rfl, hb⟩
          have HB5 := Lib.hid (belowCall HB4.out hb)
          clear hb
          dsimp only
          go_wp2_with (go_at_call 15; go_must (refine (HN.out _).mono ?_; rintro e w6 ⟨rfl, hb⟩; have HB6 := Lib.hid (belowCall HB5.out hb); clear hb))
          go_ret
          exact ⟨ret_bool (by simp), HB6.out⟩

set_option maxRecDepth 100000 in
set_option maxHeartbeats 8000000 in
theorem numbers_olb (c : Nat) (k : Int) (m : Int) (w : World) (hc : c ≤ 1114111) (hcb : charB (c : Int) = true) (hc0 : c ≠ 0) (hlo : 160 ≤ c) (hm : w.cell? ⟨0, 0, none⟩ = some (.int .i64 m)) :
    Calls Tryd.prog 9 #[.int .i32 c, .int .i64 k, .bool false, .bool false] w fun e w' => e = .returned (.bool true) ∧ Below w.heap.size w w' := by
  have H0 := Lib.hid (shown_any m w hm)
  have hcc := fun u => Char08_any (c : Int) u (by omega) (by omega)
  rw [hcb] at hcc
  have HC := Lib.hid hcc
  have hwr : IntKind.i64.wrap (c : Int) = (c : Int) := by rw [IntKind.wrap_i64]; omega
  have h0 : ((c : Int) == 0) = false := by rw [beq_eq_false_iff_ne]; omega
  have hno : ¬ (128 ≤ c ∧ c < 160) := by omega
  have hq1 : (128 : Int) ≤ (c : Int) := by omega
  have hq2 : ¬ ((c : Int) < 160) := by omega
  have hN : numF (c : Int) = encF c := numF_else (by omega) hcb hno
  have hn := fun u => Number_any (c : Int) u (by omega) (by omega)
  rw [hN] at hn
  have HN := Lib.hid hn
  have HBY := Lib.hid (fun u => Bytes_at c hc u)
  obtain ⟨p, hp7, hpb⟩ := and7 k
  have hpl := pad_list p hp7
  obtain ⟨pad, hpad⟩ : ∃ pad, pad = (⟨#[48, 48, 48, 48, 48, 48, 48, 48, 48]⟩ : ByteArray).extract 0 p := ⟨_, rfl⟩
  have hps : pad.size = p := by rw [← size_toList, hpad, hpl, List.length_replicate]
  rw [← hpad] at hpl
  have HT : Hid (∀ (ten : ByteArray) (u : World), Good 10 c ten.toList 0 → _) := Lib.hid fun ten u hg => law_take false (x := ⟨#[38, 35]⟩) (hd := []) (pad := pad) (e := ⟨#[]⟩) (.inl ⟨rfl, rfl⟩) (list2 _ _ rfl) ⟨p, hp7, hpl⟩ hg hc0 hc (.inl (list2 _ _ rfl)) u
  have HX : Hid (∀ (ten : ByteArray) (u : World), Good 16 c ten.toList 0 → _) := Lib.hid fun ten u hg => law_take true (x := ⟨#[38, 35]⟩ ++ ⟨#[120]⟩) (hd := [120]) (pad := pad) (e := ⟨#[]⟩) (.inr ⟨rfl, .inl rfl⟩) (by rw [toList_append]; (rw [list2 ⟨#[38, 35]⟩ [38, 35] rfl, list2 ⟨#[120]⟩ [120] rfl]; rfl)) ⟨p, hp7, hpl⟩ hg hc0 hc (.inl (list2 _ _ rfl)) u
  simp only [hN] at HT HX
  have HPP := Lib.hid hpl
  have hpad2 := hpad.symm
  clear hm hcc hcb hno hpl hn hN hpad
  go_enter Tryd.func9, Tryd.ntmps9
  go_wp2_with (first
    | (go_at_call 12; go_must (refine H0.out.mono ?_; rintro e w1 ⟨rfl, hb⟩; have HB1 := Lib.hid hb; clear hb))
    | (go_at_call 25; go_must (refine (HC.out _).mono ?_; rintro e w2 ⟨rfl, rfl⟩)))
  go_loop [12, 13] (fun t i => ∃ (ten : ByteArray) (v : Nat), t = .string ten ∧ i = .int .i64 v ∧ v ≤ c ∧ Good 10 c ten.toList v) (fun _ i => (intOf i).toNat)
  case atStart => exact ⟨⟨#[]⟩, c, rfl, rfl, Nat.le_refl _, by rw [list2 ⟨#[]⟩ [] rfl]; exact Good.start 10 c⟩
  case round =>
    obtain ⟨ten, v, rfl, rfl, hvc, hg⟩ := hrel
    have ht_ten : ten.size ≤ 7 := by rw [← size_toList]; exact hg.2.2.2
    have HG := Lib.hid hg
    clear hg
    by_cases hv : 0 < v
    · obtain ⟨x, hx1, hx2⟩ := piece10 (v % 10) (Nat.mod_lt _ (by decide))
      have HGS := Lib.hid (HG.out.step (by decide) hv hc hx2)
      have hlt : v / 10 < v := Nat.div_lt_self hv (by decide)
      have HX1 : Hid (((⟨#[48, 49, 50, 51, 52, 53, 54, 55, 56, 57]⟩ : ByteArray).extract (v % 10) (v % 10 + 1)).toList = [x]) := Lib.hid hx1
      clear hx1 hx2
      go_wp2_with fail
      go_round
      case rel => exact ⟨(⟨#[48, 49, 50, 51, 52, 53, 54, 55, 56, 57]⟩ : ByteArray).extract (v % 10) (v % 10 + 1) ++ ten, v / 10, rfl, by go_num, by omega, by rw [toList_append, HX1.out]; exact HGS.out⟩
      case measure => simp [intOf]; omega
    · obtain rfl : v = 0 := by omega
      clear hvc hv
      go_wp2_with fail
      go_loop [16, 17] (fun t i => ∃ (hex : ByteArray) (v : Nat), t = .string hex ∧ i = .int .i64 v ∧ v ≤ c ∧ Good 16 c hex.toList v) (fun _ i => (intOf i).toNat)
      case atStart => exact ⟨⟨#[]⟩, c, rfl, rfl, Nat.le_refl _, by rw [list2 ⟨#[]⟩ [] rfl]; exact Good.start 16 c⟩
      case round =>
        obtain ⟨hex, v, rfl, rfl, hvc, hg⟩ := hrel
        have ht_hex : hex.size ≤ 7 := by rw [← size_toList]; exact hg.2.2.2
        have HH := Lib.hid hg
        clear hg
        by_cases hv : 0 < v
        · obtain ⟨x, hx1, hx2⟩ := piece16 (v % 16) (Nat.mod_lt _ (by decide))
          have HGS := Lib.hid (HH.out.step (by decide) hv hc hx2)
          have hlt : v / 16 < v := Nat.div_lt_self hv (by decide)
          have HX1 : Hid (((⟨#[48, 49, 50, 51, 52, 53, 54, 55, 56, 57, 97, 98, 99, 100, 101, 102]⟩ : ByteArray).extract (v % 16) (v % 16 + 1)).toList = [x]) := Lib.hid hx1
          clear hx1 hx2
          go_wp2_with fail
          go_round
          case rel => exact ⟨(⟨#[48, 49, 50, 51, 52, 53, 54, 55, 56, 57, 97, 98, 99, 100, 101, 102]⟩ : ByteArray).extract (v % 16) (v % 16 + 1) ++ hex, v / 16, rfl, by go_num, by omega, by rw [toList_append, HX1.out]; exact HGS.out⟩
          case measure => simp [intOf]; omega
        · obtain rfl : v = 0 := by omega
          clear hvc hv
          go_wp2_with (go_at_call 26; go_must (refine (HBY.out _).mono ?_; rintro e w3 ⟨g, cap, n, rfl, hown, hn, hn4, hb⟩; have HB3 := Lib.hid (belowCall HB1.out hb); have hback := run_string_of (P := Tryd.prog) w3 33 9 5 g cap (encF c) n hn Tryd.underlying33 Tryd.underlying5 Tryd.underlying9 (own_row hown); rw [show (⟨(encF c).toArray⟩ : ByteArray) = strB (encF c) from rfl] at hback; clear hown hn hn4 hb))
          go_wp2_with (go_at_call 17; fail)
          refine (HT.out ten _ HG.out).mono ?_
          rintro e w4 ⟨rfl, hb⟩
          have HB4 := Lib.hid (belowCall HB3.out hb)
          clear hb
          dsimp only
          go_wp2_with (go_at_call 17; fail)
          refine (HX.out hex _ HH.out).mono ?_
          rintro e w5 ⟨rfl, hb⟩
          have HB5 := Lib.hid (belowCall HB4.out hb)
          clear hb
          dsimp only
          go_wp2_with (go_at_call 15; go_must (refine (HN.out _).mono ?_; rintro e w6 ⟨rfl, hb⟩; have HB6 := Lib.hid (belowCall HB5.out hb); clear hb))
          go_ret
          exact ⟨ret_bool (by simp), HB6.out⟩

theorem lawRefsNumbers (c k : Int) (closed large : Bool) (m : Int) (w : World) (hcw : (Lit.int .i32 c).wf = true) (_ : (Lit.int .i64 k).wf = true) (hm : w.cell? ⟨0, 0, none⟩ = some (.int .i64 m)) :
    Calls Tryd.prog 9 #[.int .i32 c, .int .i64 k, .bool closed, .bool large] w fun e w' => e = .returned (.bool true) ∧ Below w.heap.size w w' := by
  have hc := of_wf32 hcw
  by_cases hno : charB c = false ∨ c = 0 ∨ (128 ≤ c ∧ c < 160)
  · exact numbers_no c k closed large m w hc hno hm
  · have hcb : charB c = true := by cases h : charB c; exact absurd (.inl h) hno; rfl
    obtain ⟨h1, h2, _⟩ := (charB_iff c).1 hcb
    obtain ⟨n, rfl⟩ := Int.eq_ofNat_of_zero_le h1
    have hn : n ≤ 1114111 := by omega
    have hn0 : n ≠ 0 := fun h => hno (.inr (.inl (by rw [h]; rfl)))
    have hlo : n < 128 ∨ 160 ≤ n := by
      rcases Nat.lt_or_ge n 128 with h | h
      · exact .inl h
      · rcases Nat.lt_or_ge n 160 with h' | h'
        · exact absurd (.inr (.inr (by omega))) hno
        · exact .inr h'
    rcases hlo with hlo | hlo
    · cases closed <;> cases large
      · exact numbers_ola n k m w hn hcb hn0 hlo hm
      · exact numbers_oua n k m w hn hcb hn0 hlo hm
      · exact numbers_cla n k m w hn hcb hn0 hlo hm
      · exact numbers_cua n k m w hn hcb hn0 hlo hm
    · cases closed <;> cases large
      · exact numbers_olb n k m w hn hcb hn0 hlo hm
      · exact numbers_oub n k m w hn hcb hn0 hlo hm
      · exact numbers_clb n k m w hn hcb hn0 hlo hm
      · exact numbers_cub n k m w hn hcb hn0 hlo hm
end Go.Proofs.YtcgkenmgglediaaDoor
