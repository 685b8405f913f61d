/-
  Contract: colanderlaw16.shown: it returns true; the world behind has new blocks alone.
-/
import Derived.Test.YtflphgmblipglaaForE
import Derived.Test.YtflphgmblipglaaForG
import Derived.Test.YtflphgmblipglaaForH
namespace Go.Proofs.Ytflphgmblipglaa
open Go.RowKit Mem

theorem row5 {w : World} {g : Nat} {v0 v1 v2 v3 v4 : Value} (h : Row w g [v0, v1, v2, v3, v4]) :
    w.cell? ⟨g, 0, none⟩ = some v0 ∧ w.cell? ⟨g, 1, none⟩ = some v1 ∧ w.cell? ⟨g, 2, none⟩ = some v2 ∧ w.cell? ⟨g, 3, none⟩ = some v3 ∧ w.cell? ⟨g, 4, none⟩ = some v4 :=
  ⟨h.cell rfl, h.cell rfl, h.cell rfl, h.cell rfl, h.cell rfl⟩

def titleS : ByteArray := (⟨#[116, 105, 116, 108, 101]⟩ : ByteArray)
def miS : ByteArray := (⟨#[109, 105]⟩ : ByteArray)
def gS : ByteArray := (⟨#[103]⟩ : ByteArray)
def bS : ByteArray := (⟨#[98]⟩ : ByteArray)
def clipS : ByteArray := (⟨#[99, 108, 105, 112, 112, 97, 116, 104]⟩ : ByteArray)
def nilS : ByteArray := ⟨#[]⟩

theorem c1 (w : World) : Calls Try.prog 15 #[.int .i64 1, .string titleS, .slice none 0 0] w fun e w' => e = .returned (.int .i64 2) ∧ Below w.heap.size w w' :=
  (point_any 1 titleS [] none 0 w (by decide) (by rw [valueOf]; decide) (At.nil _ _)).mono fun e w' h => ⟨h.1.trans (ret_int (by decide)), h.2⟩
theorem c2 (w : World) : Calls Try.prog 15 #[.int .i64 0, .string titleS, .slice none 0 0] w fun e w' => e = .returned (.int .i64 0) ∧ Below w.heap.size w w' :=
  (point_any 0 titleS [] none 0 w (by decide) (by rw [valueOf]; decide) (At.nil _ _)).mono fun e w' h => ⟨h.1.trans (ret_int (by decide)), h.2⟩
theorem tl (l : Str) : (ByteArray.mk l.toArray).toList = l := ByteArray.toList_mk l
theorem c3 (w : World) : Calls Try.prog 17 #[.int .i64 2, .string miS, .slice none 0 0, markA 2 bS none 0 0 false nilS] w fun e w' => e = .returned (.bool false) ∧ Below w.heap.size w w' :=
  (foreign_any 2 miS [] none 0 2 bS none 0 0 false nilS w (by decide) (by simp) (At.nil _ _)).mono fun e w' h => ⟨h.1.trans (ret_bool (by rw [show pointF 2 miS [] = 1 from by decide]; unfold foreignF miS bS; rw [tl, tl]; decide)), h.2⟩
theorem c4 (w : World) : Calls Try.prog 17 #[.int .i64 1, .string gS, .slice none 0 0, markA 2 bS none 0 0 false nilS] w fun e w' => e = .returned (.bool true) ∧ Below w.heap.size w w' :=
  (foreign_any 1 gS [] none 0 2 bS none 0 0 false nilS w (by decide) (by simp) (At.nil _ _)).mono fun e w' h => ⟨h.1.trans (ret_bool (by rw [show pointF 1 gS [] = 0 from by decide]; unfold foreignF gS bS; rw [tl, tl]; decide)), h.2⟩
theorem c5 (w : World) : Calls Try.prog 19 #[markA 2 bS none 0 0 false nilS] w fun e w' => e = .returned (.bool true) ∧ Below w.heap.size w w' :=
  (breaks_any bS [] none 0 false nilS w 2 (by decide) (At.nil _ _)).mono fun e w' h => ⟨h.1.trans (ret_bool (by decide)), h.2⟩
theorem c6 (w : World) : Calls Try.prog 24 #[.int .i64 1, .string clipS] w fun e w' => e = .returned (.string (⟨#[99, 108, 105, 112, 80, 97, 116, 104]⟩ : ByteArray)) ∧ Below w.heap.size w w' :=
  (name_any 1 clipS w).mono fun e w' h => ⟨h.1.trans (ret_string (by unfold nameF clipS svgNames; simp [large, lowS, lowB])), h.2⟩
theorem c7 (w : World) : Calls Try.prog 24 #[.int .i64 2, .string clipS] w fun e w' => e = .returned (.string clipS) ∧ Below w.heap.size w w' :=
  (name_any 2 clipS w).mono fun e w' h => ⟨h.1.trans (ret_string (by rfl)), h.2⟩

set_option maxHeartbeats 400000 in
theorem shown16_any (w : World) : Calls Try.prog 14 #[] w fun e w' => e = .returned (.bool true) ∧ Below w.heap.size w w' := by
  go_enter Try.func14, Try.ntmps14
  go_wp2_with fail
  refine (c1 _).mono ?_
  rintro e w1 ⟨rfl, hb1⟩
  have HR1 := Lib.hid ((Row.alloc w _ _).below hb1 (by simp))
  have HB1 := Lib.hid (belowCall ((Below.refl _ _).alloc (Nat.le_refl _) _) hb1)
  clear hb1
  go_wp2_with fail
  refine (c2 _).mono ?_
  rintro e w2 ⟨rfl, hb2⟩
  have HR2 := Lib.hid (HR1.out.below hb2 HR1.out.lt)
  have HB2 := Lib.hid (belowCall HB1.out hb2)
  obtain ⟨m0, m1, m2, m3, m4⟩ := row5 HR2.out
  clear hb2 HR1 HB1
  go_wp2_with fail
  refine (c3 _).mono ?_
  rintro e w3 ⟨rfl, hb3⟩
  clear m0 m1 m2 m3 m4
  have HR3 := Lib.hid (HR2.out.below hb3 HR2.out.lt)
  have HB3 := Lib.hid (belowCall HB2.out hb3)
  obtain ⟨m0, m1, m2, m3, m4⟩ := row5 HR3.out
  clear hb3 HR2 HB2
  go_wp2_with fail
  refine (c4 _).mono ?_
  rintro e w4 ⟨rfl, hb4⟩
  clear m0 m1 m2 m3 m4
  have HR4 := Lib.hid (HR3.out.below hb4 HR3.out.lt)
  have HB4 := Lib.hid (belowCall HB3.out hb4)
  obtain ⟨m0, m1, m2, m3, m4⟩ := row5 HR4.out
  clear hb4 HR3 HB3
  go_wp2_with fail
  refine (c5 _).mono ?_
  rintro e w5 ⟨rfl, hb5⟩
  clear m0 m1 m2 m3 m4
  have HB5 := Lib.hid (belowCall HB4.out hb5)
  clear hb5 HR4 HB4
  go_wp2_with fail
  refine (c6 _).mono ?_
  rintro e w6 ⟨rfl, hb6⟩
  have HB6 := Lib.hid (belowCall HB5.out hb6)
  clear hb6 HB5
  go_wp2_with fail
  refine (c7 _).mono ?_
  rintro e w7 ⟨rfl, hb7⟩
  have HB7 := Lib.hid (belowCall HB6.out hb7)
  clear hb7 HB6
  go_wp2_with fail
  go_ret
  exact ⟨ret_bool (by simp [clipS]), HB7.out⟩
end Go.Proofs.Ytflphgmblipglaa
