/-
  Contract: colanderref16.Foreign: what it computes; the world behind has new blocks alone.
-/
import Derived.Test.YtflphgmblipglaaForF
namespace Go.Proofs.Ytflphgmblipglaa
open Go.RowKit Mem
def glyphNames : List ByteArray := [⟨#[109, 103, 108, 121, 112, 104]⟩, ⟨#[109, 97, 108, 105, 103, 110, 109, 97, 114, 107]⟩]
section
variable (name : ByteArray) (attrs : List Pair) (a : Option Addr) (c : Nat) (mname : ByteArray) (ma : Option Addr) (mn mc : Nat) (self : Bool) (text : ByteArray) (w : World)

theorem refForeign_none (space p kind : Int) (h1 : (space == 1) = false) (h2 : (space == 2) = false)
    (HC : Hid (∀ u, Below w.heap.size w u → Calls Try.prog 16 #[.int .i64 space, .string name, .slice a attrs.length c] u fun e w' => e = .returned (.int .i64 p) ∧ Below u.heap.size u w')) :
    Calls Try.prog 18 #[.int .i64 space, .string name, .slice a attrs.length c, markA kind mname ma mn mc self text] w fun e w' => e = .returned (.bool (foreignF p space name kind mname)) ∧ Below w.heap.size w w' := by
  have h1' : (space != 1) = true := by simpa using h1
  have h2' : (space != 2) = true := by simpa using h2
  go_enter Try.func18, Try.ntmps18
  go_wp2_with (first | (go_at_call 64; refine (in_any _ glyphNames _ _ _ (by decide) (at_alloc (by simp) rfl)).mono ?_; rintro e w3 ⟨rfl, rfl⟩) | (go_at_call 16; refine (HC.out _ ((Below.refl _ _).alloc (Nat.le_refl _) _)).mono ?_; rintro e w1 ⟨rfl, hb1⟩; have hz1 : w.heap.size < w1.heap.size := (by have hz0 := hb1.size; simp at hz0; omega); have f0 : w1.cell? ⟨w.heap.size, 0, none⟩ = _ := cell_later hb1 (World.cell?_alloc_new w _ _ 0); have f1 : w1.cell? ⟨w.heap.size, 1, none⟩ = _ := cell_later hb1 (World.cell?_alloc_new w _ _ 1); have HB1 := Lib.hid hb1; clear hb1))
  go_ret
  exact ⟨ret_bool (by rw [foreignF]; simp [foreignB, *]), by first | exact belowCall ((Below.refl _ _).alloc (Nat.le_refl _) _) HB1.out | exact (belowCall ((Below.refl _ _).alloc (Nat.le_refl _) _) HB1.out).alloc (belowCall ((Below.refl _ _).alloc (Nat.le_refl _) _) HB1.out).size _⟩

theorem refForeign_eof (space p : Int) (hs : space = 1 ∨ space = 2)
    (HC : Hid (∀ u, Below w.heap.size w u → Calls Try.prog 16 #[.int .i64 space, .string name, .slice a attrs.length c] u fun e w' => e = .returned (.int .i64 p) ∧ Below u.heap.size u w')) :
    Calls Try.prog 18 #[.int .i64 space, .string name, .slice a attrs.length c, markA 6 mname ma mn mc self text] w fun e w' => e = .returned (.bool (foreignF p space name 6 mname)) ∧ Below w.heap.size w w' := by
  rcases hs with rfl | rfl
  all_goals
    go_enter Try.func18, Try.ntmps18
    go_wp2_with (first | (go_at_call 64; refine (in_any _ glyphNames _ _ _ (by decide) (at_alloc (by simp) rfl)).mono ?_; rintro e w3 ⟨rfl, rfl⟩) | (go_at_call 16; refine (HC.out _ ((Below.refl _ _).alloc (Nat.le_refl _) _)).mono ?_; rintro e w1 ⟨rfl, hb1⟩; have hz1 : w.heap.size < w1.heap.size := (by have hz0 := hb1.size; simp at hz0; omega); have f0 : w1.cell? ⟨w.heap.size, 0, none⟩ = _ := cell_later hb1 (World.cell?_alloc_new w _ _ 0); have f1 : w1.cell? ⟨w.heap.size, 1, none⟩ = _ := cell_later hb1 (World.cell?_alloc_new w _ _ 1); have HB1 := Lib.hid hb1; clear hb1))
    go_ret
    exact ⟨ret_bool (by rw [foreignF]; simp [foreignB, *]), by first | exact belowCall ((Below.refl _ _).alloc (Nat.le_refl _) _) HB1.out | exact (belowCall ((Below.refl _ _).alloc (Nat.le_refl _) _) HB1.out).alloc (belowCall ((Below.refl _ _).alloc (Nat.le_refl _) _) HB1.out).size _⟩

theorem refForeign_text (space p : Int) (hs : space = 1 ∨ space = 2) (hp : p = 0 ∨ p = 1 ∨ p = 2)
    (HC : Hid (∀ u, Below w.heap.size w u → Calls Try.prog 16 #[.int .i64 space, .string name, .slice a attrs.length c] u fun e w' => e = .returned (.int .i64 p) ∧ Below u.heap.size u w')) :
    Calls Try.prog 18 #[.int .i64 space, .string name, .slice a attrs.length c, markA 1 mname ma mn mc self text] w fun e w' => e = .returned (.bool (foreignF p space name 1 mname)) ∧ Below w.heap.size w w' := by
  cases han : (name.toList == ([97, 110, 110, 111, 116, 97, 116, 105, 111, 110, 45, 120, 109, 108] : List UInt8))
  all_goals
    rcases hs with rfl | rfl
    all_goals
      rcases hp with rfl | rfl | rfl
      all_goals
        go_enter Try.func18, Try.ntmps18
        go_wp2_with (first | (go_at_call 64; refine (in_any _ glyphNames _ _ _ (by decide) (at_alloc (by simp) rfl)).mono ?_; rintro e w3 ⟨rfl, rfl⟩) | (go_at_call 16; refine (HC.out _ ((Below.refl _ _).alloc (Nat.le_refl _) _)).mono ?_; rintro e w1 ⟨rfl, hb1⟩; have hz1 : w.heap.size < w1.heap.size := (by have hz0 := hb1.size; simp at hz0; omega); have f0 : w1.cell? ⟨w.heap.size, 0, none⟩ = _ := cell_later hb1 (World.cell?_alloc_new w _ _ 0); have f1 : w1.cell? ⟨w.heap.size, 1, none⟩ = _ := cell_later hb1 (World.cell?_alloc_new w _ _ 1); have HB1 := Lib.hid hb1; clear hb1))
        go_ret
        exact ⟨ret_bool (by rw [foreignF]; simp [foreignB, *]), by first | exact belowCall ((Below.refl _ _).alloc (Nat.le_refl _) _) HB1.out | exact (belowCall ((Below.refl _ _).alloc (Nat.le_refl _) _) HB1.out).alloc (belowCall ((Below.refl _ _).alloc (Nat.le_refl _) _) HB1.out).size _⟩

theorem refForeign_other (space p kind : Int) (hs : space = 1 ∨ space = 2) (hp : p = 0 ∨ p = 1 ∨ p = 2) (hk1 : (kind == 1) = false) (hk2 : (kind == 2) = false) (hk6 : (kind == 6) = false)
    (HC : Hid (∀ u, Below w.heap.size w u → Calls Try.prog 16 #[.int .i64 space, .string name, .slice a attrs.length c] u fun e w' => e = .returned (.int .i64 p) ∧ Below u.heap.size u w')) :
    Calls Try.prog 18 #[.int .i64 space, .string name, .slice a attrs.length c, markA kind mname ma mn mc self text] w fun e w' => e = .returned (.bool (foreignF p space name kind mname)) ∧ Below w.heap.size w w' := by
  cases han : (name.toList == ([97, 110, 110, 111, 116, 97, 116, 105, 111, 110, 45, 120, 109, 108] : List UInt8))
  all_goals
    rcases hs with rfl | rfl
    all_goals
      rcases hp with rfl | rfl | rfl
      all_goals
        go_enter Try.func18, Try.ntmps18
        go_wp2_with (first | (go_at_call 64; refine (in_any _ glyphNames _ _ _ (by decide) (at_alloc (by simp) rfl)).mono ?_; rintro e w3 ⟨rfl, rfl⟩) | (go_at_call 16; refine (HC.out _ ((Below.refl _ _).alloc (Nat.le_refl _) _)).mono ?_; rintro e w1 ⟨rfl, hb1⟩; have hz1 : w.heap.size < w1.heap.size := (by have hz0 := hb1.size; simp at hz0; omega); have f0 : w1.cell? ⟨w.heap.size, 0, none⟩ = _ := cell_later hb1 (World.cell?_alloc_new w _ _ 0); have f1 : w1.cell? ⟨w.heap.size, 1, none⟩ = _ := cell_later hb1 (World.cell?_alloc_new w _ _ 1); have HB1 := Lib.hid hb1; clear hb1))
        go_ret
        exact ⟨ret_bool (by rw [foreignF]; simp [foreignB, *]), by first | exact belowCall ((Below.refl _ _).alloc (Nat.le_refl _) _) HB1.out | exact (belowCall ((Below.refl _ _).alloc (Nat.le_refl _) _) HB1.out).alloc (belowCall ((Below.refl _ _).alloc (Nat.le_refl _) _) HB1.out).size _⟩

theorem refForeign_start (space p : Int) (hs : space = 1 ∨ space = 2) (hp : p = 0 ∨ p = 2)
    (HC : Hid (∀ u, Below w.heap.size w u → Calls Try.prog 16 #[.int .i64 space, .string name, .slice a attrs.length c] u fun e w' => e = .returned (.int .i64 p) ∧ Below u.heap.size u w')) :
    Calls Try.prog 18 #[.int .i64 space, .string name, .slice a attrs.length c, markA 2 mname ma mn mc self text] w fun e w' => e = .returned (.bool (foreignF p space name 2 mname)) ∧ Below w.heap.size w w' := by
  cases han : (name.toList == ([97, 110, 110, 111, 116, 97, 116, 105, 111, 110, 45, 120, 109, 108] : List UInt8))
  all_goals
    cases hsv : (mname.toList == ([115, 118, 103] : List UInt8))
    all_goals
      rcases hs with rfl | rfl
      all_goals
        rcases hp with rfl | rfl
        all_goals
          go_enter Try.func18, Try.ntmps18
          go_wp2_with (first | (go_at_call 64; refine (in_any _ glyphNames _ _ _ (by decide) (at_alloc (by simp) rfl)).mono ?_; rintro e w3 ⟨rfl, rfl⟩) | (go_at_call 16; refine (HC.out _ ((Below.refl _ _).alloc (Nat.le_refl _) _)).mono ?_; rintro e w1 ⟨rfl, hb1⟩; have hz1 : w.heap.size < w1.heap.size := (by have hz0 := hb1.size; simp at hz0; omega); have f0 : w1.cell? ⟨w.heap.size, 0, none⟩ = _ := cell_later hb1 (World.cell?_alloc_new w _ _ 0); have f1 : w1.cell? ⟨w.heap.size, 1, none⟩ = _ := cell_later hb1 (World.cell?_alloc_new w _ _ 1); have HB1 := Lib.hid hb1; clear hb1))
          go_ret
          exact ⟨ret_bool (by rw [foreignF]; simp [foreignB, *]), by first | exact belowCall ((Below.refl _ _).alloc (Nat.le_refl _) _) HB1.out | exact (belowCall ((Below.refl _ _).alloc (Nat.le_refl _) _) HB1.out).alloc (belowCall ((Below.refl _ _).alloc (Nat.le_refl _) _) HB1.out).size _⟩

theorem refForeign_start1 (space : Int) (hs : space = 1 ∨ space = 2)
    (HC : Hid (∀ u, Below w.heap.size w u → Calls Try.prog 16 #[.int .i64 space, .string name, .slice a attrs.length c] u fun e w' => e = .returned (.int .i64 1) ∧ Below u.heap.size u w')) :
    Calls Try.prog 18 #[.int .i64 space, .string name, .slice a attrs.length c, markA 2 mname ma mn mc self text] w fun e w' => e = .returned (.bool (foreignF 1 space name 2 mname)) ∧ Below w.heap.size w w' := by
  by_cases hmg : mname.toList = ([109, 103, 108, 121, 112, 104] : List UInt8)
  · have hin : isIn glyphNames mname = true := isIn_of_mem (by simp [glyphNames, eq_mk_iff, hmg])
    cases han : (name.toList == ([97, 110, 110, 111, 116, 97, 116, 105, 111, 110, 45, 120, 109, 108] : List UInt8))
    all_goals
      rcases hs with rfl | rfl
      all_goals
        go_enter Try.func18, Try.ntmps18
        go_wp2_with (first | (go_at_call 64; refine (in_any _ glyphNames _ _ _ (by decide) (at_alloc (by simp) rfl)).mono ?_; rintro e w3 ⟨rfl, rfl⟩) | (go_at_call 16; refine (HC.out _ ((Below.refl _ _).alloc (Nat.le_refl _) _)).mono ?_; rintro e w1 ⟨rfl, hb1⟩; have hz1 : w.heap.size < w1.heap.size := (by have hz0 := hb1.size; simp at hz0; omega); have f0 : w1.cell? ⟨w.heap.size, 0, none⟩ = _ := cell_later hb1 (World.cell?_alloc_new w _ _ 0); have f1 : w1.cell? ⟨w.heap.size, 1, none⟩ = _ := cell_later hb1 (World.cell?_alloc_new w _ _ 1); have HB1 := Lib.hid hb1; clear hb1))
        go_ret
        exact ⟨ret_bool (by rw [foreignF]; simp [foreignB, *]), by first | exact belowCall ((Below.refl _ _).alloc (Nat.le_refl _) _) HB1.out | exact (belowCall ((Below.refl _ _).alloc (Nat.le_refl _) _) HB1.out).alloc (belowCall ((Below.refl _ _).alloc (Nat.le_refl _) _) HB1.out).size _⟩
  · have hmg' : (mname.toList == ([109, 103, 108, 121, 112, 104] : List UInt8)) = false := by simpa using hmg
    by_cases hma : mname.toList = ([109, 97, 108, 105, 103, 110, 109, 97, 114, 107] : List UInt8)
    · have hin : isIn glyphNames mname = true := isIn_of_mem (by simp [glyphNames, eq_mk_iff, hma])
      clear hmg hmg'
      cases han : (name.toList == ([97, 110, 110, 111, 116, 97, 116, 105, 111, 110, 45, 120, 109, 108] : List UInt8))
      all_goals
        rcases hs with rfl | rfl
        all_goals
          go_enter Try.func18, Try.ntmps18
          go_wp2_with (first | (go_at_call 64; refine (in_any _ glyphNames _ _ _ (by decide) (at_alloc (by simp) rfl)).mono ?_; rintro e w3 ⟨rfl, rfl⟩) | (go_at_call 16; refine (HC.out _ ((Below.refl _ _).alloc (Nat.le_refl _) _)).mono ?_; rintro e w1 ⟨rfl, hb1⟩; have hz1 : w.heap.size < w1.heap.size := (by have hz0 := hb1.size; simp at hz0; omega); have f0 : w1.cell? ⟨w.heap.size, 0, none⟩ = _ := cell_later hb1 (World.cell?_alloc_new w _ _ 0); have f1 : w1.cell? ⟨w.heap.size, 1, none⟩ = _ := cell_later hb1 (World.cell?_alloc_new w _ _ 1); have HB1 := Lib.hid hb1; clear hb1))
          go_ret
          exact ⟨ret_bool (by rw [foreignF]; simp [foreignB, *]), by first | exact belowCall ((Below.refl _ _).alloc (Nat.le_refl _) _) HB1.out | exact (belowCall ((Below.refl _ _).alloc (Nat.le_refl _) _) HB1.out).alloc (belowCall ((Below.refl _ _).alloc (Nat.le_refl _) _) HB1.out).size _⟩
    · have hma' : (mname.toList == ([109, 97, 108, 105, 103, 110, 109, 97, 114, 107] : List UInt8)) = false := by simpa using hma
      have hin : isIn glyphNames mname = false := by simp [glyphNames, isIn, mk_eq_iff, hmg, hma]
      clear hmg hma
      rcases hs with rfl | rfl
      all_goals
        go_enter Try.func18, Try.ntmps18
        go_wp2_with (first | (go_at_call 64; refine (in_any _ glyphNames _ _ _ (by decide) (at_alloc (by simp) rfl)).mono ?_; rintro e w3 ⟨rfl, rfl⟩) | (go_at_call 16; refine (HC.out _ ((Below.refl _ _).alloc (Nat.le_refl _) _)).mono ?_; rintro e w1 ⟨rfl, hb1⟩; have hz1 : w.heap.size < w1.heap.size := (by have hz0 := hb1.size; simp at hz0; omega); have f0 : w1.cell? ⟨w.heap.size, 0, none⟩ = _ := cell_later hb1 (World.cell?_alloc_new w _ _ 0); have f1 : w1.cell? ⟨w.heap.size, 1, none⟩ = _ := cell_later hb1 (World.cell?_alloc_new w _ _ 1); have HB1 := Lib.hid hb1; clear hb1))
        go_ret
        exact ⟨ret_bool (by rw [foreignF]; simp [foreignB, *]), by first | exact belowCall ((Below.refl _ _).alloc (Nat.le_refl _) _) HB1.out | exact (belowCall ((Below.refl _ _).alloc (Nat.le_refl _) _) HB1.out).alloc (belowCall ((Below.refl _ _).alloc (Nat.le_refl _) _) HB1.out).size _⟩

theorem refForeign_core (space p kind : Int) (hp : p = 0 ∨ p = 1 ∨ p = 2)
    (HC : Hid (∀ u, Below w.heap.size w u → Calls Try.prog 16 #[.int .i64 space, .string name, .slice a attrs.length c] u fun e w' => e = .returned (.int .i64 p) ∧ Below u.heap.size u w')) :
    Calls Try.prog 18 #[.int .i64 space, .string name, .slice a attrs.length c, markA kind mname ma mn mc self text] w fun e w' => e = .returned (.bool (foreignF p space name kind mname)) ∧ Below w.heap.size w w' := by
  by_cases hs : space = 1 ∨ space = 2
  · by_cases h6 : kind = 6
    · subst h6; exact refForeign_eof name attrs a c mname ma mn mc self text w space p hs HC
    · by_cases h1 : kind = 1
      · subst h1; exact refForeign_text name attrs a c mname ma mn mc self text w space p hs hp HC
      · by_cases h2 : kind = 2
        · subst h2
          rcases hp with h | h | h
          · exact refForeign_start name attrs a c mname ma mn mc self text w space p hs (.inl h) HC
          · subst h; exact refForeign_start1 name attrs a c mname ma mn mc self text w space hs HC
          · exact refForeign_start name attrs a c mname ma mn mc self text w space p hs (.inr h) HC
        · exact refForeign_other name attrs a c mname ma mn mc self text w space p kind hs hp (by simpa using h1) (by simpa using h2) (by simpa using h6) HC
  · exact refForeign_none name attrs a c mname ma mn mc self text w space p kind (by simp; omega) (by simp; omega) HC
end


theorem refForeign_any (space : Int) (name : ByteArray) (attrs : List Pair) (a : Option Addr) (c : Nat) (kind : Int) (mname : ByteArray) (ma : Option Addr) (mn mc : Nat) (self : Bool) (text : ByteArray) (w : World)
    (hl : attrs.length ≤ maxLen) (hs : ∀ p ∈ attrs, p.2.size ≤ maxLen) (ha : At w a (pairsV attrs)) :
    Calls Try.prog 18 #[.int .i64 space, .string name, .slice a attrs.length c, markA kind mname ma mn mc self text] w fun e w' => e = .returned (.bool (foreignF (pointF space name attrs) space name kind mname)) ∧ Below w.heap.size w w' := by
  exact refForeign_core name attrs a c mname ma mn mc self text w space _ kind (pointF_cases space name attrs) (Lib.hid fun u hu => refPoint_any space name attrs a c u hl hs (ha.below hu))
end Go.Proofs.Ytflphgmblipglaa
