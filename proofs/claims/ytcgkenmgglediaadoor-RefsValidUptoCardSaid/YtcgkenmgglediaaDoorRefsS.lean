/-
  Contract: the law's own examples: they are as the document has them.
-/
import Derived.Test.YtcgkenmgglediaaDoorRefsO
import Derived.Test.YtcgkenmgglediaaDoorRefsP
import Derived.Test.YtcgkenmgglediaaDoorRefsR
namespace Go.Proofs.YtcgkenmgglediaaDoor
open Go.RowKit Mem

theorem bs_list (l : Str) : (⟨l.toArray⟩ : ByteArray).toList = l := toList_strB l
theorem ex_take : takeF [38, 35, 120, 56, 48, 122] false = ([226, 130, 172], 5) := by decide +kernel
theorem ex_find : findF [110, 111, 116, 105, 116] = ([194, 172], 3) := by decide +kernel
theorem ex_all : allS [97, 38, 97, 109, 112, 59, 38, 108, 116, 32, 98, 38, 120] false = [97, 38, 60, 32, 98, 38, 120] := by decide +kernel
theorem ex_more : moreF [38, 110, 111] = true ∧ moreF [38, 97, 109, 112, 120] = false := by decide +kernel
theorem ex_esc : escS true [60, 34] = [38, 108, 116, 59, 38, 113, 117, 111, 116, 59] := by decide +kernel
theorem ex_num : numF 0 = [239, 191, 189] := by decide +kernel

set_option maxRecDepth 100000 in
set_option maxHeartbeats 4000000 in
theorem shown_any (m : Int) (w : World) (hm : w.cell? ⟨0, 0, none⟩ = some (.int .i64 m)) : Calls Tryd.prog 12 #[] w fun e w' => e = .returned (.bool true) ∧ Below w.heap.size w w' := by
  have C1 : Hid (∀ u : World, Calls Tryd.prog 17 #[.string ⟨#[38, 35, 120, 56, 48, 122]⟩, .bool false] u fun e w' => e = .returned (.tuple #[.string ⟨#[226, 130, 172]⟩, .int .i64 5]) ∧ Below u.heap.size u w') := by
    have h := fun u => Take_any ⟨#[38, 35, 120, 56, 48, 122]⟩ false u (by decide)
    rw [show (⟨#[38, 35, 120, 56, 48, 122]⟩ : ByteArray).toList = [38, 35, 120, 56, 48, 122] from bs_list _, ex_take] at h
    exact h
  have C2 : Hid (∀ u : World, Calls Tryd.prog 13 #[.string ⟨#[110, 111, 116, 105, 116]⟩] u fun e w' => e = .returned (.tuple #[.string ⟨#[194, 172]⟩, .int .i64 3]) ∧ u = w') := by
    have h := fun u => Find_any ⟨#[110, 111, 116, 105, 116]⟩ u (by decide)
    rw [show (⟨#[110, 111, 116, 105, 116]⟩ : ByteArray).toList = [110, 111, 116, 105, 116] from bs_list _, ex_find] at h
    exact h
  have C3 : Hid (∀ u : World, Calls Tryd.prog 21 #[.string ⟨#[97, 38, 97, 109, 112, 59, 38, 108, 116, 32, 98, 38, 120]⟩, .bool false] u fun e w' => e = .returned (.string ⟨#[97, 38, 60, 32, 98, 38, 120]⟩) ∧ Below u.heap.size u w') := by
    have h := fun u => All_any ⟨#[97, 38, 97, 109, 112, 59, 38, 108, 116, 32, 98, 38, 120]⟩ false u (by decide)
    rw [show (⟨#[97, 38, 97, 109, 112, 59, 38, 108, 116, 32, 98, 38, 120]⟩ : ByteArray).toList = [97, 38, 97, 109, 112, 59, 38, 108, 116, 32, 98, 38, 120] from bs_list _, ex_all] at h
    exact h
  have C4 : Hid (∀ u : World, Calls Tryd.prog 19 #[.string ⟨#[38, 110, 111]⟩] u fun e w' => e = .returned (.bool true) ∧ Below u.heap.size u w') := by
    have h := fun u => More_any ⟨#[38, 110, 111]⟩ u (by decide)
    rw [show (⟨#[38, 110, 111]⟩ : ByteArray).toList = [38, 110, 111] from bs_list _, ex_more.1] at h
    exact h
  have C5 : Hid (∀ u : World, Calls Tryd.prog 19 #[.string ⟨#[38, 97, 109, 112, 120]⟩] u fun e w' => e = .returned (.bool false) ∧ Below u.heap.size u w') := by
    have h := fun u => More_any ⟨#[38, 97, 109, 112, 120]⟩ u (by decide)
    rw [show (⟨#[38, 97, 109, 112, 120]⟩ : ByteArray).toList = [38, 97, 109, 112, 120] from bs_list _, ex_more.2] at h
    exact h
  have C6 : Hid (∀ u : World, u.cell? ⟨0, 0, none⟩ = some (.int .i64 m) → Calls Tryd.prog 23 #[.string ⟨#[60, 34]⟩, .bool true] u fun e w' => e = .returned (.string ⟨#[38, 108, 116, 59, 38, 113, 117, 111, 116, 59]⟩) ∧ Below u.heap.size u w') := by
    have h := fun u hu => Escape_any ⟨#[60, 34]⟩ true m u (by decide) hu
    rw [show (⟨#[60, 34]⟩ : ByteArray).toList = [60, 34] from bs_list _, ex_esc] at h
    exact h
  have C7 : Hid (∀ u : World, Calls Tryd.prog 15 #[.int .i64 0] u fun e w' => e = .returned (.string ⟨#[239, 191, 189]⟩) ∧ Below u.heap.size u w') := by
    have h := fun u => Number_any 0 u (by omega) (by omega)
    rw [ex_num] at h
    exact h
  have HM := Lib.hid hm
  clear hm
  go_enter Tryd.func12, Tryd.ntmps12
  go_wp2_with (go_at_call 17; go_must (refine (C1.out _).mono ?_; rintro e w1 ⟨rfl, hb⟩; have HB1 := Lib.hid hb; clear hb))
  go_wp2_with (go_at_call 13; go_must (refine (C2.out _).mono ?_; rintro e w2 ⟨rfl, rfl⟩))
  go_wp2_with (go_at_call 21; go_must (refine (C3.out _).mono ?_; rintro e w3 ⟨rfl, hb⟩; have HB3 := Lib.hid (belowCall HB1.out hb); clear hb))
  refine (C4.out _).mono ?_
  rintro e w4 ⟨rfl, hb⟩
  have HB4 := Lib.hid (belowCall HB3.out hb)
  clear hb
  dsimp only
  go_wp2_with (go_at_call 19; fail)
  refine (C5.out _).mono ?_
  rintro e w5 ⟨rfl, hb⟩
  have HB5 := Lib.hid (belowCall HB4.out hb)
  clear hb
  dsimp only
  go_wp2_with (go_at_call 23; go_must (refine (C6.out _ (cell_later HB5.out HM.out)).mono ?_; rintro e w6 ⟨rfl, hb⟩; have HB6 := Lib.hid (belowCall HB5.out hb); clear hb))
  go_wp2_with (go_at_call 15; go_must (refine (C7.out _).mono ?_; rintro e w7 ⟨rfl, hb⟩; have HB7 := Lib.hid (belowCall HB6.out hb); clear hb))
  go_ret
  exact ⟨rfl, HB7.out⟩
end Go.Proofs.YtcgkenmgglediaaDoor
