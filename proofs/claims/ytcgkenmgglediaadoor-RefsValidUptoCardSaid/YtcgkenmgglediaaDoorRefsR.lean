/-
  Contract: refs.Escape: a text as it must be written.
-/
import Derived.Test.YtcgkenmgglediaaDoorRefsQ
import Derived.Test.YtcgkenmgglediaaDoorRefsB
namespace Go.Proofs.YtcgkenmgglediaaDoor
open Go.RowKit Mem

theorem repl_any (s old new : ByteArray) (m : Int) (w : World) (hs : s.size ≤ 4294967280) (hm : w.cell? ⟨0, 0, none⟩ = some (.int .i64 m)) (h1 : 1 ≤ old.size) (h6 : new.size ≤ 6) :
    Calls Tryd.prog 46 #[.string s, .string old, .string new] w fun e w' => e = .returned (.string (strB (Lib.replaceAll s.toList old.toList new.toList))) ∧ Below w.heap.size w w' := by
  have hc : Lib.countB s old ≤ s.size + 1 := by
    have := Lib.count_le s.data.toList old.data.toList
    rw [← Lib.size_eq] at this
    exact this
  have hmul : Lib.countB s old * new.size ≤ (s.size + 1) * 6 := Nat.mul_le_mul hc h6
  refine (ReplaceAll_any s old new m w (by omega) hm h1 (by omega)).mono fun e w' ⟨he, hb⟩ => ⟨?_, hb⟩
  rw [he, ByteArray.toList_eq, ByteArray.toList_eq, ByteArray.toList_eq]; rfl

set_option maxHeartbeats 1000000 in
theorem Escape_any (s : ByteArray) (attr : Bool) (m : Int) (w : World) (hs : s.size ≤ 4194304) (hm : w.cell? ⟨0, 0, none⟩ = some (.int .i64 m)) :
    Calls Tryd.prog 23 #[.string s, .bool attr] w fun e w' => e = .returned (.string (strB (escS attr s.toList))) ∧ Below w.heap.size w w' := by
  have l1 := rep_len (old := [38]) (new := [38, 97, 109, 112, 59]) (by simp) (by simp) (by simp) _ s.toList (Nat.le_refl _)
  obtain ⟨x1, hx1⟩ : ∃ x1, x1 = Lib.replaceAll s.toList [38] [38, 97, 109, 112, 59] := ⟨_, rfl⟩
  rw [← hx1, size_toList] at l1
  have l2 := rep_len (old := [194, 160]) (new := [38, 110, 98, 115, 112, 59]) (by simp) (by simp) (by simp) _ x1 (Nat.le_refl _)
  obtain ⟨x2, hx2⟩ : ∃ x2, x2 = Lib.replaceAll x1 [194, 160] [38, 110, 98, 115, 112, 59] := ⟨_, rfl⟩
  rw [← hx2] at l2
  have l3 := rep_len (old := [60]) (new := [38, 108, 116, 59]) (by simp) (by simp) (by simp) _ x2 (Nat.le_refl _)
  obtain ⟨x3, hx3⟩ : ∃ x3, x3 = Lib.replaceAll x2 [60] [38, 108, 116, 59] := ⟨_, rfl⟩
  rw [← hx3] at l3
  have l4 := rep_len (old := [62]) (new := [38, 103, 116, 59]) (by simp) (by simp) (by simp) _ x3 (Nat.le_refl _)
  obtain ⟨x4, hx4⟩ : ∃ x4, x4 = Lib.replaceAll x3 [62] [38, 103, 116, 59] := ⟨_, rfl⟩
  rw [← hx4] at l4
  simp only [List.length_cons, List.length_nil] at l1 l2 l3 l4
  have e4 : escS attr s.toList = if attr then Lib.replaceAll x4 [34] [38, 113, 117, 111, 116, 59] else x4 := by
    rw [← esc_all, escAmp, ← rep_one 38 _ (by simp), ← hx1, nbsp, ← hx2, escRest, ← rep_one 60 _ (by simp), ← hx3, ← rep_one 62 _ (by simp), ← hx4]
    cases attr
    · rfl
    · simp only [if_true]; rw [rep_one 34 _ (by simp)]
  have HE := Lib.hid e4
  have bs : ∀ l : Str, (⟨l.toArray⟩ : ByteArray).toList = l := fun l => toList_strB l
  have R1 := Lib.hid (fun u hu => repl_any s ⟨#[38]⟩ ⟨#[38, 97, 109, 112, 59]⟩ m u (by omega) hu (by decide) (by decide))
  have R2 := Lib.hid (fun u hu => repl_any (strB x1) ⟨#[194, 160]⟩ ⟨#[38, 110, 98, 115, 112, 59]⟩ m u (by rw [← size_toList, toList_strB]; omega) hu (by decide) (by decide))
  have R3 := Lib.hid (fun u hu => repl_any (strB x2) ⟨#[60]⟩ ⟨#[38, 108, 116, 59]⟩ m u (by rw [← size_toList, toList_strB]; omega) hu (by decide) (by decide))
  have R4 := Lib.hid (fun u hu => repl_any (strB x3) ⟨#[62]⟩ ⟨#[38, 103, 116, 59]⟩ m u (by rw [← size_toList, toList_strB]; omega) hu (by decide) (by decide))
  have R5 := Lib.hid (fun u hu => repl_any (strB x4) ⟨#[34]⟩ ⟨#[38, 113, 117, 111, 116, 59]⟩ m u (by rw [← size_toList, toList_strB]; omega) hu (by decide) (by decide))
  rw [show (⟨#[38]⟩ : ByteArray).toList = [38] from bs [38], show (⟨#[38, 97, 109, 112, 59]⟩ : ByteArray).toList = [38, 97, 109, 112, 59] from bs [38, 97, 109, 112, 59], ← hx1] at R1
  rw [toList_strB, show (⟨#[194, 160]⟩ : ByteArray).toList = [194, 160] from bs [194, 160], show (⟨#[38, 110, 98, 115, 112, 59]⟩ : ByteArray).toList = [38, 110, 98, 115, 112, 59] from bs [38, 110, 98, 115, 112, 59], ← hx2] at R2
  rw [toList_strB, show (⟨#[60]⟩ : ByteArray).toList = [60] from bs [60], show (⟨#[38, 108, 116, 59]⟩ : ByteArray).toList = [38, 108, 116, 59] from bs [38, 108, 116, 59], ← hx3] at R3
  rw [toList_strB, show (⟨#[62]⟩ : ByteArray).toList = [62] from bs [62], show (⟨#[38, 103, 116, 59]⟩ : ByteArray).toList = [38, 103, 116, 59] from bs [38, 103, 116, 59], ← hx4] at R4
  rw [toList_strB, show (⟨#[34]⟩ : ByteArray).toList = [34] from bs [34], show (⟨#[38, 113, 117, 111, 116, 59]⟩ : ByteArray).toList = [38, 113, 117, 111, 116, 59] from bs [38, 113, 117, 111, 116, 59]] at R5
  have HM := Lib.hid hm
  clear l1 l2 l3 l4 hx1 hx2 hx3 hx4 e4 bs hm
  cases attr
  all_goals
    go_enter Tryd.func23, Tryd.ntmps23
    go_wp2_with (go_at_call 46; fail)
    refine (R1.out _ HM.out).mono ?_
    rintro e w1 ⟨rfl, hb⟩
    have HM1 := Lib.hid (cell_later hb HM.out)
    have HB1 := Lib.hid hb
    clear hb
    dsimp only
    go_wp2_with (go_at_call 46; fail)
    refine (R2.out _ HM1.out).mono ?_
    rintro e w2 ⟨rfl, hb⟩
    have HM2 := Lib.hid (cell_later hb HM1.out)
    have HB2 := Lib.hid (belowCall HB1.out hb)
    clear hb
    dsimp only
    go_wp2_with (go_at_call 46; fail)
    refine (R3.out _ HM2.out).mono ?_
    rintro e w3 ⟨rfl, hb⟩
    have HM3 := Lib.hid (cell_later hb HM2.out)
    have HB3 := Lib.hid (belowCall HB2.out hb)
    clear hb
    dsimp only
    go_wp2_with (go_at_call 46; fail)
    refine (R4.out _ HM3.out).mono ?_
    rintro e w4 ⟨rfl, hb⟩
    have HM4 := Lib.hid (cell_later hb HM3.out)
    have HB4 := Lib.hid (belowCall HB3.out hb)
    clear hb
    dsimp only
  · go_wp2_with fail
    go_ret
    exact ⟨ret_eq (by rw [HE.out]; rfl), HB4.out⟩
  · go_wp2_with (go_at_call 46; fail)
    refine (R5.out _ HM4.out).mono ?_
    rintro e w5 ⟨rfl, hb⟩
    have HB5 := Lib.hid (belowCall HB4.out hb)
    clear hb
    dsimp only
    go_wp2_with fail
    go_ret
    exact ⟨ret_eq (by rw [HE.out]; rfl), HB5.out⟩
end Go.Proofs.YtcgkenmgglediaaDoor
