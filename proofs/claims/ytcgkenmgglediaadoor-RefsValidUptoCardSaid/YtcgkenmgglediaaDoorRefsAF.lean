/-
  Contracts: the document's utf8: Piece, Runes, Encode, Decode, Fault.
-/
import Derived.Test.YtcgkenmgglediaaDoorRefsAE
import Derived.Test.YtcgkenmgglediaaDoorRefsW
import Derived.Test.YtcgkenmgglediaaDoorRefsF
namespace Go.Proofs.YtcgkenmgglediaaDoor
open Go.RowKit Mem

/-- the piece at the head of a text: how many bytes, what character, is it one -/
def pieceGo (l : Str) : Nat → Nat → Nat → Nat × Nat × Bool
  | 0, _, most => (most, 65533, false)
  | f + 1, k, most => if (beginF l k).1 = true ∧ (beginF l k).2.1 = k then (k, (beginF l k).2.2, true) else pieceGo l f (k + 1) (if (beginF l k).1 = true then k else most)
def pieceF (l : Str) : Nat × Nat × Bool := pieceGo l 4 1 1
theorem pieceGo_small (l : Str) : ∀ (f k most : Nat), k + f = 5 → 1 ≤ k → 1 ≤ most → most ≤ 4 → 1 ≤ (pieceGo l f k most).1 ∧ (pieceGo l f k most).1 ≤ 4
  | 0, _, most, _, _, h1, h2 => ⟨h1, h2⟩
  | f + 1, k, most, hf, hk, h1, h2 => by
    unfold pieceGo
    split
    · exact ⟨hk, by show k ≤ 4; omega⟩
    · exact pieceGo_small l f (k + 1) _ (by omega) (by omega) (by split <;> omega) (by split <;> omega)
theorem piece_small (l : Str) : 1 ≤ (pieceF l).1 ∧ (pieceF l).1 ≤ 4 := pieceGo_small l 4 1 1 rfl (Nat.le_refl _) (Nat.le_refl _) (by decide)

set_option maxRecDepth 100000 in
set_option maxHeartbeats 2000000 in
theorem Piece_any (l : Str) (a : Option Addr) (cp i : Nat) (w : World) (hl : l.length ≤ 1099511627776) (hi : i < l.length) (ha : At w a (bytesV l)) :
    Calls Tryd.prog 49 #[.slice a l.length cp, .int .i64 i] w fun e w' =>
      e = .returned (.tuple #[.int .i64 (pieceF (l.drop i)).1, .int .i64 (pieceF (l.drop i)).2.1, .bool (pieceF (l.drop i)).2.2]) ∧ w = w' := by
  have HB := Lib.hid (fun k hk => beg08_any l a cp i k w hl hi hk ha)
  clear ha
  generalize hd : l.drop i = d at *
  go_enter Tryd.func49, Tryd.ntmps49
  go_wp2_with fail
  go_loop [7, 8] (fun x q => ∃ most k : Nat, x = .int .i64 most ∧ q = .int .i64 k ∧ 1 ≤ k ∧ k ≤ 5 ∧ pieceF d = pieceGo d (5 - k) k most) (fun _ q => 5 - (intOf q).toNat)
  case atStart => exact ⟨1, 1, rfl, rfl, by omega, by omega, rfl⟩
  case round =>
    obtain ⟨most, k, rfl, rfl, hk1, hk5, hp⟩ := hrel
    by_cases hk : k ≤ 4
    · have hst : pieceGo d (5 - k) k most = if (beginF d k).1 = true ∧ (beginF d k).2.1 = k then (k, (beginF d k).2.2, true) else pieceGo d (5 - (k + 1)) (k + 1) (if (beginF d k).1 = true then k else most) := by
        rw [show 5 - k = (5 - (k + 1)) + 1 from by omega, pieceGo]
      rw [hst] at hp
      have hb := HB.out k ⟨hk1, hk⟩
      obtain ⟨bo, n, v, hbe⟩ : ∃ bo n v, beginF d k = (bo, n, v) := ⟨_, _, _, rfl⟩
      rw [hbe] at hb hp
      simp only at hb hp
      have HBK := Lib.hid hb
      clear hb hst hbe
      have hkk : (k : Int) ≤ 4 := by omega
      cases bo
      · rw [if_neg (by simp), if_neg (by simp)] at hp
        have HP := Lib.hid hp
        clear hp
        go_wp2_with (go_at_call 60; go_must (refine HBK.out.mono ?_; rintro e w2 ⟨rfl, rfl⟩))
        go_round
        case rel => exact ⟨most, k + 1, by go_num, by go_num, by omega, by omega, HP.out⟩
        case measure => simp [intOf]; omega
      · by_cases hnk : n = k
        · rw [if_pos ⟨rfl, hnk⟩] at hp
          have HP := Lib.hid hp
          have hnk' : ((n : Int) == (k : Int)) = true := by rw [beq_iff_eq]; omega
          clear hp
          go_wp2_with (go_at_call 60; go_must (refine HBK.out.mono ?_; rintro e w2 ⟨rfl, rfl⟩))
          go_ret3
          rw [HP.out]
          exact ⟨rfl, rfl⟩
        · rw [if_neg (by rintro ⟨_, h⟩; exact hnk h), if_pos rfl] at hp
          have HP := Lib.hid hp
          have hnk' : ((n : Int) == (k : Int)) = false := by rw [beq_eq_false_iff_ne]; omega
          clear hp
          go_wp2_with (go_at_call 60; go_must (refine HBK.out.mono ?_; rintro e w2 ⟨rfl, rfl⟩))
          go_round
          case rel => exact ⟨k, k + 1, by go_num, by go_num, by omega, by omega, HP.out⟩
          case measure => simp [intOf]; omega
    · obtain rfl : k = 5 := by omega
      have HP := Lib.hid hp
      clear hp
      go_wp2_with fail
      go_ret3
      rw [HP.out]
      exact ⟨rfl, rfl⟩

theorem info_i32 : (Tryd.prog.info? 21).map (fun i => (i.zero, i.size, i.bytes)) = some (some (.int .i32 0), 1, 4) := by kernel_rfl
theorem wrap32_ok (v : Int) : -2147483648 ≤ wrap32 v ∧ wrap32 v ≤ 2147483647 := by unfold wrap32; omega
theorem runesV_len (l : List Int) : (runesV l).length = l.length := by simp [runesV]
theorem runesV_two (l r : List Int) : runesV (l ++ r) = runesV l ++ runesV r := by simp [runesV]
theorem runesV_one (l : List Int) : ∀ u ∈ runesV l, u.oneCell' = true := by
  intro u hu
  obtain ⟨x, _, rfl⟩ := List.mem_map.1 hu
  rfl

set_option maxRecDepth 100000 in
set_option maxHeartbeats 2000000 in
theorem Runes_any (l : Str) (a : Option Addr) (cp : Nat) (w : World) (hl : l.length ≤ 1099511627776) (ha : At w a (bytesV l)) :
    Calls Tryd.prog 48 #[.slice a l.length cp] w fun e w' =>
      ∃ v r, e = .returned v ∧ r.length ≤ l.length ∧ (∀ x ∈ r, -2147483648 ≤ x ∧ x ≤ 2147483647) ∧ w'.ownsRow w.heap.size 21 1 v r.length (runesV r) ∧ Below w.heap.size w w' := by
  obtain ⟨i0, hi, hz0, hz1, hz2⟩ := info_parts info_i32
  have HA := Lib.hid ha
  clear ha
  go_enter Tryd.func48, Tryd.ntmps48
  go_wp2_with fail
  go_loopw [3, 4] (fun v q wr => ∃ (r : List Int) (k : Nat), q = .int .i64 k ∧ r.length ≤ k ∧ k ≤ l.length + 3 ∧ r.length ≤ l.length ∧ (∀ x ∈ r, -2147483648 ≤ x ∧ x ≤ 2147483647) ∧ wr.ownsRow w.heap.size 21 1 v r.length (runesV r) ∧ Below w.heap.size w wr) (fun _ q _ => l.length + 3 - (intOf q).toNat)
  case atStart => exact ⟨[], 0, rfl, by simp, by omega, by simp, fun _ h => (by cases h), World.ownsRow_nil _ _ _ _, Below.refl _ _⟩
  case round =>
    obtain ⟨r, k, rfl, hr1, hk3, hr2, hr3, ho, hb⟩ := hrel
    have HO := Lib.hid ho
    have HB := Lib.hid hb
    have HZ := Lib.hid hb.size
    by_cases hk : k < l.length
    · have hp := Piece_any l a cp k wr hl hk (HA.out.below hb)
      obtain ⟨hp1, hp4⟩ := piece_small (l.drop k)
      obtain ⟨n, v, ok, hpe⟩ : ∃ n v ok, pieceF (l.drop k) = (n, v, ok) := ⟨_, _, _, rfl⟩
      rw [hpe] at hp hp1 hp4
      simp only at hp hp1 hp4
      have HP := Lib.hid hp
      have HR := Lib.hid hr3
      have b1 : r.length + 1 ≤ maxLen := by unfold maxLen; omega
      have b2 : (r.length + 1) * 4 ≤ 140737488355328 := by omega
      have HQ := Lib.hid (HO.out.alloc (.cells #[.int .i32 (wrap32 (v : Int))] 21))
      have HZ2 := Lib.hid (show w.heap.size ≤ (wr.alloc (.cells #[.int .i32 (wrap32 (v : Int))] 21)).heap.size from by have := HZ.out; simp; omega)
      have hkk : (k : Int) < (l.length : Int) := by omega
      clear ho hb hp hpe hr3
      go_wp2_with (first
        | (go_at_call 49; go_must (refine HP.out.mono ?_; rintro e w2 ⟨rfl, rfl⟩))
        | (at_builtin; go_must (refine wpList_append_slice _ rfl _ _ 50 rfl w.heap.size 21 i0 _ 1 4 Tryd.underlying50 hi hz0 hz1 hz2 rfl (by decide) _ r.length (runesV r) rfl HQ.out (some ⟨wr.heap.size, 0, none⟩) 1 1 (runesV [wrap32 (v : Int)]) rfl rfl (fun h => by cases h) (at_alloc rfl rfl) (runesV_one _) b1 b2 HZ2.out ?_; intro v3 w3 hown3 hgr3; have HO3 := Lib.hid hown3; have HB3 := Lib.hid ((HB.out.alloc HZ.out _).grown hgr3 HZ2.out (own_ge HQ.out)); clear hown3 hgr3)))
      go_roundw
      case rel => exact ⟨r ++ [wrap32 (v : Int)], k + n, by go_num, by simp; omega, by omega, by simp; omega, fun x hx => (by rcases List.mem_append.1 hx with h | h; exact HR.out x h; rw [List.mem_singleton.1 h]; exact wrap32_ok _), by rw [runesV_two, List.length_append]; exact HO3.out, HB3.out⟩
      case measure => simp [intOf]; omega
    · have HR := Lib.hid hr3
      have hkk : ¬ (k : Int) < (l.length : Int) := by omega
      clear ho hb hr3
      go_wp2_with fail
      go_ret
      exact ⟨_, rfl, r, hr2, HR.out, HO.out, HB.out⟩
end Go.Proofs.YtcgkenmgglediaaDoor
