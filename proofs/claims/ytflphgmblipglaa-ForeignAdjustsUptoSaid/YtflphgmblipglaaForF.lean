/-
  Contracts: foreign.Foreign and colanderref16.Foreign: what each computes; the world behind has new blocks alone.
-/
import Derived.Test.YtflphgmblipglaaForD
namespace Go.Proofs.Ytflphgmblipglaa
open Go.RowKit Mem

def foreignB (p1 p2 s1 s2 k1 k2 k6 ann mg ma svg : Bool) : Bool :=
  (s1 || s2) && !k6 && !(p1 && (k1 || k2 && !mg && !ma)) && !(p2 && (k1 || k2)) && !(s2 && ann && k2 && svg)
def foreignF (p space : Int) (name : ByteArray) (kind : Int) (mname : ByteArray) : Bool :=
  foreignB (p == 1) (p == 2) (space == 1) (space == 2) (kind == 1) (kind == 2) (kind == 6) (name.toList == ([97, 110, 110, 111, 116, 97, 116, 105, 111, 110, 45, 120, 109, 108] : List UInt8)) (mname.toList == ([109, 103, 108, 121, 112, 104] : List UInt8)) (mname.toList == ([109, 97, 108, 105, 103, 110, 109, 97, 114, 107] : List UInt8)) (mname.toList == ([115, 118, 103] : List UInt8))

section
variable (name : ByteArray) (attrs : List Pair) (a : Option Addr) (c : Nat) (mname : ByteArray) (ma : Option Addr) (mn mc : Nat) (self : Bool) (text : ByteArray) (w : World)

theorem foreign_none (space kind : Int) (h1 : (space == 1) = false) (h2 : (space == 2) = false) :
    Calls Try.prog 17 #[.int .i64 space, .string name, .slice a attrs.length c, markA kind mname ma mn mc self text] w fun e w' => e = .returned (.bool (foreignF (pointF space name attrs) space name kind mname)) ∧ Below w.heap.size w w' := by
  have h1' : (space != 1) = true := by simpa using h1
  have h2' : (space != 2) = true := by simpa using h2
  go_enter Try.func17, Try.ntmps17
  go_wp2_with fail
  go_ret
  exact ⟨ret_bool (by rw [foreignF]; simp [foreignB, h1, h2]), (Below.refl _ _).alloc (Nat.le_refl _) _⟩

theorem foreign_eof (space : Int) (hs : space = 1 ∨ space = 2) :
    Calls Try.prog 17 #[.int .i64 space, .string name, .slice a attrs.length c, markA 6 mname ma mn mc self text] w fun e w' => e = .returned (.bool (foreignF (pointF space name attrs) space name 6 mname)) ∧ Below w.heap.size w w' := by
  rcases hs with rfl | rfl
  all_goals
    go_enter Try.func17, Try.ntmps17
    go_wp2_with fail
    go_ret
    exact ⟨ret_bool (by rw [foreignF]; simp [foreignB]), (Below.refl _ _).alloc (Nat.le_refl _) _⟩

theorem foreign_text (space p : Int) (hs : space = 1 ∨ space = 2) (hp : p = 0 ∨ p = 1 ∨ p = 2)
    (HC : Hid (∀ u, Below w.heap.size w u → Calls Try.prog 15 #[.int .i64 space, .string name, .slice a attrs.length c] u fun e w' => e = .returned (.int .i64 p) ∧ Below u.heap.size u w')) :
    Calls Try.prog 17 #[.int .i64 space, .string name, .slice a attrs.length c, markA 1 mname ma mn mc self text] w fun e w' => e = .returned (.bool (foreignF p space name 1 mname)) ∧ Below w.heap.size w w' := by
  cases han : (name.toList == ([97, 110, 110, 111, 116, 97, 116, 105, 111, 110, 45, 120, 109, 108] : List UInt8))
  all_goals
    rcases hs with rfl | rfl
    all_goals
      rcases hp with rfl | rfl | rfl
      all_goals
        go_enter Try.func17, Try.ntmps17
        go_wp2_with (go_at_call 15; refine (HC.out _ ((Below.refl _ _).alloc (Nat.le_refl _) _)).mono ?_; rintro e w1 ⟨rfl, hb1⟩; have f0 : w1.cell? ⟨w.heap.size, 0, none⟩ = _ := cell_later hb1 (World.cell?_alloc_new w _ _ 0); have f1 : w1.cell? ⟨w.heap.size, 1, none⟩ = _ := cell_later hb1 (World.cell?_alloc_new w _ _ 1); have HB1 := Lib.hid hb1; clear hb1)
        go_ret
        exact ⟨ret_bool (by rw [foreignF]; simp [foreignB, *]), belowCall ((Below.refl _ _).alloc (Nat.le_refl _) _) HB1.out⟩

theorem foreign_other (space p kind : Int) (hs : space = 1 ∨ space = 2) (hp : p = 0 ∨ p = 1 ∨ p = 2) (hk1 : (kind == 1) = false) (hk2 : (kind == 2) = false) (hk6 : (kind == 6) = false)
    (HC : Hid (∀ u, Below w.heap.size w u → Calls Try.prog 15 #[.int .i64 space, .string name, .slice a attrs.length c] u fun e w' => e = .returned (.int .i64 p) ∧ Below u.heap.size u w')) :
    Calls Try.prog 17 #[.int .i64 space, .string name, .slice a attrs.length c, markA kind mname ma mn mc self text] w fun e w' => e = .returned (.bool (foreignF p space name kind mname)) ∧ Below w.heap.size w w' := by
  cases han : (name.toList == ([97, 110, 110, 111, 116, 97, 116, 105, 111, 110, 45, 120, 109, 108] : List UInt8))
  all_goals
    rcases hs with rfl | rfl
    all_goals
      rcases hp with rfl | rfl | rfl
      all_goals
        go_enter Try.func17, Try.ntmps17
        go_wp2_with (go_at_call 15; refine (HC.out _ ((Below.refl _ _).alloc (Nat.le_refl _) _)).mono ?_; rintro e w1 ⟨rfl, hb1⟩; have f0 : w1.cell? ⟨w.heap.size, 0, none⟩ = _ := cell_later hb1 (World.cell?_alloc_new w _ _ 0); have f1 : w1.cell? ⟨w.heap.size, 1, none⟩ = _ := cell_later hb1 (World.cell?_alloc_new w _ _ 1); have HB1 := Lib.hid hb1; clear hb1)
        go_ret
        exact ⟨ret_bool (by rw [foreignF]; simp [foreignB, *]), belowCall ((Below.refl _ _).alloc (Nat.le_refl _) _) HB1.out⟩

theorem foreign_start (space p : Int) (hs : space = 1 ∨ space = 2) (hp : p = 0 ∨ p = 2)
    (HC : Hid (∀ u, Below w.heap.size w u → Calls Try.prog 15 #[.int .i64 space, .string name, .slice a attrs.length c] u fun e w' => e = .returned (.int .i64 p) ∧ Below u.heap.size u w')) :
    Calls Try.prog 17 #[.int .i64 space, .string name, .slice a attrs.length c, markA 2 mname ma mn mc self text] w fun e w' => e = .returned (.bool (foreignF p space name 2 mname)) ∧ Below w.heap.size w w' := by
  cases han : (name.toList == ([97, 110, 110, 111, 116, 97, 116, 105, 111, 110, 45, 120, 109, 108] : List UInt8))
  all_goals
    cases hsv : (mname.toList == ([115, 118, 103] : List UInt8))
    all_goals
      rcases hs with rfl | rfl
      all_goals
        rcases hp with rfl | rfl
        all_goals
          go_enter Try.func17, Try.ntmps17
          go_wp2_with (go_at_call 15; refine (HC.out _ ((Below.refl _ _).alloc (Nat.le_refl _) _)).mono ?_; rintro e w1 ⟨rfl, hb1⟩; have f0 : w1.cell? ⟨w.heap.size, 0, none⟩ = _ := cell_later hb1 (World.cell?_alloc_new w _ _ 0); have f1 : w1.cell? ⟨w.heap.size, 1, none⟩ = _ := cell_later hb1 (World.cell?_alloc_new w _ _ 1); have HB1 := Lib.hid hb1; clear hb1)
          go_ret
          exact ⟨ret_bool (by rw [foreignF]; simp [foreignB, *]), belowCall ((Below.refl _ _).alloc (Nat.le_refl _) _) HB1.out⟩

theorem foreign_start1 (space : Int) (hs : space = 1 ∨ space = 2)
    (HC : Hid (∀ u, Below w.heap.size w u → Calls Try.prog 15 #[.int .i64 space, .string name, .slice a attrs.length c] u fun e w' => e = .returned (.int .i64 1) ∧ Below u.heap.size u w')) :
    Calls Try.prog 17 #[.int .i64 space, .string name, .slice a attrs.length c, markA 2 mname ma mn mc self text] w fun e w' => e = .returned (.bool (foreignF 1 space name 2 mname)) ∧ Below w.heap.size w w' := by
  by_cases hmg : mname.toList = ([109, 103, 108, 121, 112, 104] : List UInt8)
  · cases han : (name.toList == ([97, 110, 110, 111, 116, 97, 116, 105, 111, 110, 45, 120, 109, 108] : List UInt8))
    all_goals
      rcases hs with rfl | rfl
      all_goals
        go_enter Try.func17, Try.ntmps17
        go_wp2_with (go_at_call 15; refine (HC.out _ ((Below.refl _ _).alloc (Nat.le_refl _) _)).mono ?_; rintro e w1 ⟨rfl, hb1⟩; have f0 : w1.cell? ⟨w.heap.size, 0, none⟩ = _ := cell_later hb1 (World.cell?_alloc_new w _ _ 0); have f1 : w1.cell? ⟨w.heap.size, 1, none⟩ = _ := cell_later hb1 (World.cell?_alloc_new w _ _ 1); have HB1 := Lib.hid hb1; clear hb1)
        go_ret
        exact ⟨ret_bool (by rw [foreignF]; simp [foreignB, *]), belowCall ((Below.refl _ _).alloc (Nat.le_refl _) _) HB1.out⟩
  · have hmg' : (mname.toList == ([109, 103, 108, 121, 112, 104] : List UInt8)) = false := by simpa using hmg
    by_cases hma : mname.toList = ([109, 97, 108, 105, 103, 110, 109, 97, 114, 107] : List UInt8)
    · clear hmg hmg'
      cases han : (name.toList == ([97, 110, 110, 111, 116, 97, 116, 105, 111, 110, 45, 120, 109, 108] : List UInt8))
      all_goals
        rcases hs with rfl | rfl
        all_goals
          go_enter Try.func17, Try.ntmps17
          go_wp2_with (go_at_call 15; refine (HC.out _ ((Below.refl _ _).alloc (Nat.le_refl _) _)).mono ?_; rintro e w1 ⟨rfl, hb1⟩; have f0 : w1.cell? ⟨w.heap.size, 0, none⟩ = _ := cell_later hb1 (World.cell?_alloc_new w _ _ 0); have f1 : w1.cell? ⟨w.heap.size, 1, none⟩ = _ := cell_later hb1 (World.cell?_alloc_new w _ _ 1); have HB1 := Lib.hid hb1; clear hb1)
          go_ret
          exact ⟨ret_bool (by rw [foreignF]; simp [foreignB, *]), belowCall ((Below.refl _ _).alloc (Nat.le_refl _) _) HB1.out⟩
    · have hma' : (mname.toList == ([109, 97, 108, 105, 103, 110, 109, 97, 114, 107] : List UInt8)) = false := by simpa using hma
      clear hmg hma
      rcases hs with rfl | rfl
      all_goals
        go_enter Try.func17, Try.ntmps17
        go_wp2_with (go_at_call 15; refine (HC.out _ ((Below.refl _ _).alloc (Nat.le_refl _) _)).mono ?_; rintro e w1 ⟨rfl, hb1⟩; have f0 : w1.cell? ⟨w.heap.size, 0, none⟩ = _ := cell_later hb1 (World.cell?_alloc_new w _ _ 0); have f1 : w1.cell? ⟨w.heap.size, 1, none⟩ = _ := cell_later hb1 (World.cell?_alloc_new w _ _ 1); have HB1 := Lib.hid hb1; clear hb1)
        go_ret
        exact ⟨ret_bool (by rw [foreignF]; simp [foreignB, *]), belowCall ((Below.refl _ _).alloc (Nat.le_refl _) _) HB1.out⟩

theorem foreign_core (space p kind : Int) (hp : p = 0 ∨ p = 1 ∨ p = 2) (hpf : p = pointF space name attrs)
    (HC : Hid (∀ u, Below w.heap.size w u → Calls Try.prog 15 #[.int .i64 space, .string name, .slice a attrs.length c] u fun e w' => e = .returned (.int .i64 p) ∧ Below u.heap.size u w')) :
    Calls Try.prog 17 #[.int .i64 space, .string name, .slice a attrs.length c, markA kind mname ma mn mc self text] w fun e w' => e = .returned (.bool (foreignF p space name kind mname)) ∧ Below w.heap.size w w' := by
  by_cases hs : space = 1 ∨ space = 2
  · by_cases h6 : kind = 6
    · subst h6 hpf; exact foreign_eof name attrs a c mname ma mn mc self text w space hs
    · by_cases h1 : kind = 1
      · subst h1; exact foreign_text name attrs a c mname ma mn mc self text w space p hs hp HC
      · by_cases h2 : kind = 2
        · subst h2
          rcases hp with h | h | h
          · exact foreign_start name attrs a c mname ma mn mc self text w space p hs (.inl h) HC
          · subst h; exact foreign_start1 name attrs a c mname ma mn mc self text w space hs HC
          · exact foreign_start name attrs a c mname ma mn mc self text w space p hs (.inr h) HC
        · exact foreign_other name attrs a c mname ma mn mc self text w space p kind hs hp (by simpa using h1) (by simpa using h2) (by simpa using h6) HC
  · subst hpf; exact foreign_none name attrs a c mname ma mn mc self text w space kind (by simp; omega) (by simp; omega)
end

theorem pointF_cases (space : Int) (name : ByteArray) (attrs : List Pair) : pointF space name attrs = 0 ∨ pointF space name attrs = 1 ∨ pointF space name attrs = 2 := by
  unfold pointF
  split
  · split <;> simp
  · split
    · split
      · simp
      · split
        · split <;> simp
        · simp
    · simp

theorem foreign_any (space : Int) (name : ByteArray) (attrs : List Pair) (a : Option Addr) (c : Nat) (kind : Int) (mname : ByteArray) (ma : Option Addr) (mn mc : Nat) (self : Bool) (text : ByteArray) (w : World)
    (hl : attrs.length ≤ maxLen) (hs : ∀ p ∈ attrs, p.2.size ≤ maxLen) (ha : At w a (pairsV attrs)) :
    Calls Try.prog 17 #[.int .i64 space, .string name, .slice a attrs.length c, markA kind mname ma mn mc self text] w fun e w' => e = .returned (.bool (foreignF (pointF space name attrs) space name kind mname)) ∧ Below w.heap.size w w' := by
  exact foreign_core name attrs a c mname ma mn mc self text w space _ kind (pointF_cases space name attrs) rfl (Lib.hid fun u hu => point_any space name attrs a c u hl (valueOf_size attrs _ hs) (ha.below hu))
end Go.Proofs.Ytflphgmblipglaa
