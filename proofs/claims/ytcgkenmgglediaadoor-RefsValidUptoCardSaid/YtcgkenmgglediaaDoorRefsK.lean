/-
  Contract: colanderref12.run: what the digits behind &# say.
-/
import Derived.Test.YtcgkenmgglediaaDoorRefsJ
namespace Go.Proofs.YtcgkenmgglediaaDoor
open Go.RowKit Mem

theorem ret_run {s : Str} {p f k v m : Nat} (hh : headN s = f) (hg : numG s = (k + 0, m)) (hp : p = f + k) :
    Ending.returned (.tuple #[.int .i64 p, .int .i64 k, .int .i64 v]) = .returned (.tuple #[.int .i64 (numN s), .int .i64 (numG s).1, .int .i64 v]) := by
  have h1 : numN s = p := by unfold numN; rw [hh, hg]; exact hp.symm
  rw [h1, hg]; rfl
theorem small_x {c : UInt8} (h : c = 120 ∨ c = 88) : smallI (c.toNat : Nat) = 120 := by
  rcases h with rfl | rfl <;> rfl
theorem small_nx {c : UInt8} (h : c ≠ 120) (h' : c ≠ 88) : (smallI (c.toNat : Nat) == 120) = false := by
  have h1 := byte_ne h
  have h2 := byte_ne h'
  rw [beq_eq_false_iff_ne] at h1 h2 ⊢
  unfold smallI
  have e1 : ((120 : UInt8).toNat : Int) = 120 := rfl
  have e2 : ((88 : UInt8).toNat : Int) = 88 := rfl
  split <;> omega
set_option maxRecDepth 100000 in
set_option maxHeartbeats 4000000 in
theorem run_any (s : ByteArray) (w : World) (hs : s.size ≤ 9223372036854775807) : Calls Tryd.prog 40 #[.string s] w fun e w' =>
    ∃ v : Nat, e = .returned (.tuple #[.int .i64 (numN s.toList), .int .i64 (numG s.toList).1, .int .i64 v]) ∧ min v 1114112 = (numG s.toList).2 ∧ v ≤ 17825807 ∧ Below w.heap.size w w' := by
  by_cases h0 : 0 < s.size
  · have hxB := xB_byte s h0
    have hu0 := s[0].toNat_lt
    have hsm := fun u => Small_any (s[0].toNat : Nat) u (by omega) (by omega)
    by_cases hx : s[0] = 120 ∨ s[0] = 88
    · obtain ⟨hh, hg⟩ := head_x (s := s.toList) (by rw [hxB]; rcases hx with h | h <;> rw [h] <;> rfl)
      have HH := Lib.hid hh
      have HG := Lib.hid hg
      rw [small_x hx] at hsm
      have HS := Lib.hid hsm
      clear hh hg hxB hx hsm
      go_enter Tryd.func40, Tryd.ntmps40
      go_wp2_with (go_at_call 41; go_must (refine (HS.out _).mono ?_; rintro e w1 ⟨rfl, rfl⟩))
      go_loopw [6, 7, 8] (fun i q x wr => ∃ p k v : Nat, p = 1 + k ∧ k ≤ 16 ∧ p ≤ s.size ∧ v ≤ 17825807 ∧ i = .int .i64 p ∧ q = .int .i64 k ∧ x = .int .i64 v ∧ Below w.heap.size w wr ∧ numG s.toList = (k + (digsF 16 (16 - k) (s.toList.drop p) (min v 1114112)).1, (digsF 16 (16 - k) (s.toList.drop p) (min v 1114112)).2)) (fun i _ _ _ => s.size - (intOf i).toNat)
      case atStart => exact ⟨1, 0, 0, by omega, by omega, by omega, by omega, rfl, rfl, rfl, Below.refl _ _, by rw [HG.out, Nat.zero_add]; rfl⟩
      case round =>
        obtain ⟨p, k, v, hpk, hk, hp2, hv, rfl, rfl, rfl, hb, hg⟩ := hrel
        have HR := Lib.hid hg
        have HB := Lib.hid hb
        have HPK := Lib.hid hpk
        clear hg hb hpk
        by_cases hlt : p < s.size
        · by_cases hlf : k < 16
          · have hu := s[p].toNat_lt
            have hdr := drop_byte s p hlt
            have hfu : 16 - k = (15 - k) + 1 := by omega
            rw [hfu, hdr] at HR
            have hval : ∀ u : World, Calls Tryd.prog 55 #[.int .u8 (s[p].toNat : Nat), .int .i64 16] u _ := fun u => digit_any s[p].toNat 16 (by omega) (by omega) u
            by_cases hd : digV s[p].toNat < 16
            · have hg := digsF_go (f := 15 - k) (r := s.toList.drop (p + 1)) (v := min v 1114112) hd
              rw [hg] at HR
              have hI : digI s[p].toNat 16 = (digV s[p].toNat : Nat) := by rw [digI, if_pos hd]
              rw [hI] at hval
              obtain ⟨d, hdd⟩ : ∃ d, d = digV s[p].toNat := ⟨_, rfl⟩
              rw [← hdd] at HR hval hd
              have HV := Lib.hid hval
              have hd0 : (d : Int) ≥ 0 := by omega
              clear hval hg hdr hfu hdd hI hu
              have HVV := Lib.hid hv
              obtain ⟨z, hz⟩ : ∃ z : Int, (v : Int) = z := ⟨_, rfl⟩
              have hz0 : 0 ≤ z := by omega
              have hz1 : z ≤ 17825807 := by omega
              have HZ := Lib.hid hz
              rw [hz]
              clear hv hz
              by_cases hvm : z < 1114112
              · go_wp2_with (go_at_call 55; fail)
                refine (HV.out _).mono ?_
                rintro e w1 ⟨rfl, hb1⟩
                have HB1 := Lib.hid hb1
                clear hb1
                dsimp only
                go_wp2_with (go_at_call 55; fail)
                refine (HV.out _).mono ?_
                rintro e w2 ⟨rfl, hb2⟩
                have HB2 := Lib.hid hb2
                clear hb2
                dsimp only
                go_wp2_with fail
                go_roundw
                case rel => exact ⟨p + 1, k + 1, v * 16 + d, by have := HPK.out; omega, by omega, by omega, by have := HZ.out; omega, by go_num, by go_num, int_eq (by have := HZ.out; omega), belowCall HB.out (belowCall HB1.out HB2.out), by rw [HR.out, show 16 - (k + 1) = 15 - k from by omega, show min (v * 16 + d) 1114112 = min (min v 1114112 * 16 + d) 1114112 from by have := HZ.out; omega]; exact Prod.ext (by show _ + (_ + 1) = _ + 1 + _; omega) rfl⟩
                case measure => simp [intOf]; omega
              · go_wp2_with (go_at_call 55; go_must (refine (HV.out _).mono ?_; rintro e w1 ⟨rfl, hb1⟩; have HB1 := Lib.hid hb1; clear hb1))
                go_roundw
                case rel => exact ⟨p + 1, k + 1, v, by have := HPK.out; omega, by omega, by omega, HVV.out, by go_num, by go_num, int_eq HZ.out.symm, belowCall HB.out HB1.out, by rw [HR.out, show 16 - (k + 1) = 15 - k from by omega, show min v 1114112 = min (min v 1114112 * 16 + d) 1114112 from by have := HZ.out; omega, show min (min (min v 1114112 * 16 + d) 1114112 * 16 + d) 1114112 = min (min v 1114112 * 16 + d) 1114112 from by have := HZ.out; omega]; exact Prod.ext (by show _ + (_ + 1) = _ + 1 + _; omega) rfl⟩
                case measure => simp [intOf]; omega
            · have hg := digsF_break (f := 15 - k) (r := s.toList.drop (p + 1)) (v := min v 1114112) hd
              rw [hg] at HR
              have hI : digI s[p].toNat 16 = -1 := by rw [digI, if_neg hd]
              rw [hI] at hval
              have HV := Lib.hid hval
              clear hval hg hdr hfu hd hI hu
              go_wp2_with (go_at_call 55; go_must (refine (HV.out _).mono ?_; rintro e w1 ⟨rfl, hb1⟩; have HB1 := Lib.hid hb1; clear hb1))
              go_ret3
              exact ⟨v, ret_run HH.out HR.out HPK.out, by rw [HR.out], hv, belowCall HB.out HB1.out⟩
          · have hfu : 16 - k = 0 := by omega
            rw [hfu, digsF_fuel] at HR
            clear hfu
            go_wp2_with fail
            go_ret3
            exact ⟨v, ret_run HH.out HR.out HPK.out, by rw [HR.out], hv, HB.out⟩
        · have hdr : s.toList.drop p = [] := List.drop_of_length_le (by rw [size_toList]; omega)
          rw [hdr, digsF_nil] at HR
          clear hdr
          go_wp2_with fail
          go_ret3
          exact ⟨v, ret_run HH.out HR.out HPK.out, by rw [HR.out], hv, HB.out⟩
    · obtain ⟨hh, hg⟩ := head_n (s := s.toList) (by rw [hxB]; simp only [not_or] at hx; simp [hx.1, hx.2])
      have HH := Lib.hid hh
      have HG := Lib.hid hg
      simp only [not_or] at hx
      have hn := small_nx hx.1 hx.2
      have HS := Lib.hid hsm
      clear hh hg hxB hx hsm
      go_enter Tryd.func40, Tryd.ntmps40
      go_wp2_with (go_at_call 41; go_must (refine (HS.out _).mono ?_; rintro e w1 ⟨rfl, rfl⟩))
      go_loopw [6, 7, 8] (fun i q x wr => ∃ p k v : Nat, p = 0 + k ∧ k ≤ 16 ∧ p ≤ s.size ∧ v ≤ 17825807 ∧ i = .int .i64 p ∧ q = .int .i64 k ∧ x = .int .i64 v ∧ Below w.heap.size w wr ∧ numG s.toList = (k + (digsF 10 (16 - k) (s.toList.drop p) (min v 1114112)).1, (digsF 10 (16 - k) (s.toList.drop p) (min v 1114112)).2)) (fun i _ _ _ => s.size - (intOf i).toNat)
      case atStart => exact ⟨0, 0, 0, by omega, by omega, by omega, by omega, rfl, rfl, rfl, Below.refl _ _, by rw [HG.out, Nat.zero_add]; rfl⟩
      case round =>
        obtain ⟨p, k, v, hpk, hk, hp2, hv, rfl, rfl, rfl, hb, hg⟩ := hrel
        have HR := Lib.hid hg
        have HB := Lib.hid hb
        have HPK := Lib.hid hpk
        clear hg hb hpk
        by_cases hlt : p < s.size
        · by_cases hlf : k < 16
          · have hu := s[p].toNat_lt
            have hdr := drop_byte s p hlt
            have hfu : 16 - k = (15 - k) + 1 := by omega
            rw [hfu, hdr] at HR
            have hval : ∀ u : World, Calls Tryd.prog 55 #[.int .u8 (s[p].toNat : Nat), .int .i64 10] u _ := fun u => digit_any s[p].toNat 10 (by omega) (by omega) u
            by_cases hd : digV s[p].toNat < 10
            · have hg := digsF_go (f := 15 - k) (r := s.toList.drop (p + 1)) (v := min v 1114112) hd
              rw [hg] at HR
              have hI : digI s[p].toNat 10 = (digV s[p].toNat : Nat) := by rw [digI, if_pos hd]
              rw [hI] at hval
              obtain ⟨d, hdd⟩ : ∃ d, d = digV s[p].toNat := ⟨_, rfl⟩
              rw [← hdd] at HR hval hd
              have HV := Lib.hid hval
              have hd0 : (d : Int) ≥ 0 := by omega
              clear hval hg hdr hfu hdd hI hu
              have HVV := Lib.hid hv
              obtain ⟨z, hz⟩ : ∃ z : Int, (v : Int) = z := ⟨_, rfl⟩
              have hz0 : 0 ≤ z := by omega
              have hz1 : z ≤ 17825807 := by omega
              have HZ := Lib.hid hz
              rw [hz]
              clear hv hz
              by_cases hvm : z < 1114112
              · go_wp2_with (go_at_call 55; fail)
                refine (HV.out _).mono ?_
                rintro e w1 ⟨rfl, hb1⟩
                have HB1 := Lib.hid hb1
                clear hb1
                dsimp only
                go_wp2_with (go_at_call 55; fail)
                refine (HV.out _).mono ?_
                rintro e w2 ⟨rfl, hb2⟩
                have HB2 := Lib.hid hb2
                clear hb2
                dsimp only
                go_wp2_with fail
                go_roundw
                case rel => exact ⟨p + 1, k + 1, v * 10 + d, by have := HPK.out; omega, by omega, by omega, by have := HZ.out; omega, by go_num, by go_num, int_eq (by have := HZ.out; omega), belowCall HB.out (belowCall HB1.out HB2.out), by rw [HR.out, show 16 - (k + 1) = 15 - k from by omega, show min (v * 10 + d) 1114112 = min (min v 1114112 * 10 + d) 1114112 from by have := HZ.out; omega]; exact Prod.ext (by show _ + (_ + 1) = _ + 1 + _; omega) rfl⟩
                case measure => simp [intOf]; omega
              · go_wp2_with (go_at_call 55; go_must (refine (HV.out _).mono ?_; rintro e w1 ⟨rfl, hb1⟩; have HB1 := Lib.hid hb1; clear hb1))
                go_roundw
                case rel => exact ⟨p + 1, k + 1, v, by have := HPK.out; omega, by omega, by omega, HVV.out, by go_num, by go_num, int_eq HZ.out.symm, belowCall HB.out HB1.out, by rw [HR.out, show 16 - (k + 1) = 15 - k from by omega, show min v 1114112 = min (min v 1114112 * 10 + d) 1114112 from by have := HZ.out; omega, show min (min (min v 1114112 * 10 + d) 1114112 * 10 + d) 1114112 = min (min v 1114112 * 10 + d) 1114112 from by have := HZ.out; omega]; exact Prod.ext (by show _ + (_ + 1) = _ + 1 + _; omega) rfl⟩
                case measure => simp [intOf]; omega
            · have hg := digsF_break (f := 15 - k) (r := s.toList.drop (p + 1)) (v := min v 1114112) hd
              rw [hg] at HR
              have hI : digI s[p].toNat 10 = -1 := by rw [digI, if_neg hd]
              rw [hI] at hval
              have HV := Lib.hid hval
              clear hval hg hdr hfu hd hI hu
              go_wp2_with (go_at_call 55; go_must (refine (HV.out _).mono ?_; rintro e w1 ⟨rfl, hb1⟩; have HB1 := Lib.hid hb1; clear hb1))
              go_ret3
              exact ⟨v, ret_run HH.out HR.out HPK.out, by rw [HR.out], hv, belowCall HB.out HB1.out⟩
          · have hfu : 16 - k = 0 := by omega
            rw [hfu, digsF_fuel] at HR
            clear hfu
            go_wp2_with fail
            go_ret3
            exact ⟨v, ret_run HH.out HR.out HPK.out, by rw [HR.out], hv, HB.out⟩
        · have hdr : s.toList.drop p = [] := List.drop_of_length_le (by rw [size_toList]; omega)
          rw [hdr, digsF_nil] at HR
          clear hdr
          go_wp2_with fail
          go_ret3
          exact ⟨v, ret_run HH.out HR.out HPK.out, by rw [HR.out], hv, HB.out⟩
  · obtain ⟨hh, hg⟩ := head_n (xB_empty h0)
    have hlen : s.size = 0 := by omega
    have hng : numG s.toList = (0, 0) := by
      rw [hg, List.eq_nil_of_length_eq_zero (by rw [size_toList]; omega : s.toList.length = 0)]; rfl
    have HH := Lib.hid hh
    have HG := Lib.hid hng
    have hle : (s.size : Int) ≤ 0 := by omega
    clear hh hg hng hlen
    go_enter Tryd.func40, Tryd.ntmps40
    go_wp2_with fail
    go_loop [6, 7, 8] (fun i q x => i = .int .i64 0 ∧ q = .int .i64 0 ∧ x = .int .i64 0) (fun _ _ _ => 0)
    case atStart => exact ⟨rfl, rfl, rfl⟩
    case round =>
      obtain ⟨rfl, rfl, rfl⟩ := hrel
      go_wp2_with fail
      go_ret3
      exact ⟨0, ret_run (p := 0) HH.out (k := 0) (m := 0) (by rw [HG.out]) rfl, by rw [HG.out]; rfl, by omega, Below.refl _ _⟩
end Go.Proofs.YtcgkenmgglediaaDoor
